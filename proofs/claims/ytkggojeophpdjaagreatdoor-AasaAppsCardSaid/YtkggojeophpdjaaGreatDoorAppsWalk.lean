/-
  The walks of AasaApps: slices.Contains, aasa.Apps, the document's Apps, SameApps; no condition.
-/
import Derived.Test.YtkggojeophpdjaaGreatDoorEvStart
import Derived.Test.YtkggojeophpdjaaGreatDoorProg
import Derived.KernelRfl
namespace Go.Proofs.YtkggojeophpdjaaGreatDoor
open Go.Ev

/-- the document's example is not walked here -/
def orcLaw : Orc := fun g args => bif Nat.beq g 8 then match args with
  | [] => some (.bool true)
  | _ :: _ => none
  else none
abbrev AppD := List UInt8 × List UInt8
def appCells (a : AppD) : List Value := [.string ⟨⟨a.1⟩⟩, .string ⟨⟨a.2⟩⟩]
theorem guard37 : Tryz.prog.eqGuardType Tryz.prog.depth 37 = false := by kernel_rfl
theorem eq37 (a b : AppD) : eqV Tryz.prog 20 37 (.agg ⟨appCells a⟩) (.agg ⟨appCells b⟩) = some (decide (a.1 = b.1) && (decide (a.2 = b.2) && true)) := by kernel_rfl
theorem eqApp (a b : AppD) : (decide (a.1 = b.1) && (decide (a.2 = b.2) && true)) = decide (a = b) := by
  obtain ⟨a1, a2⟩ := a
  obtain ⟨b1, b2⟩ := b
  rw [Bool.eq_iff_iff]; simp
theorem getApp {xs : List AppD} {k : Nat} (hk : k < xs.length) : (xs.map appCells)[k]? = some (appCells xs[k]) := by simp [hk]

set_option maxRecDepth 100000 in
/-- SameApps at two rows of the same apps -/
theorem same_apps {va vb : Value} {h : AHeap} {xs : List AppD} (ha : Elems h 2 va (xs.map appCells)) (hb : Elems h 2 vb (xs.map appCells)) (hlen : xs.length ≤ 1000000)
    {K : OpK} (hK : K (.bool true) h) : CallW Tryz.prog orcLaw 10 [va, vb] h K := by
  refine enterW rfl ?_
  obtain ⟨base, cap, rfl, h2⟩ := ha
  obtain ⟨base', cap', rfl, h2'⟩ := hb
  simp only [List.length_map]
  conv => whnf
  refine CondW.mk (fun hb => ?_) (fun hb => ?_)
  · simp at hb
  conv => whnf
  refine LoopW.rule (fun m tm mk h' => ∃ k : Nat, Fr 5 [(0, .slice base xs.length cap), (1, .slice base' xs.length cap'), (5, .int .i64 (k : Int))] tm ∧ mk = [] ∧ h' = h ∧ m = xs.length - k ∧ k ≤ xs.length) _ ⟨0, Fr.mk rfl, rfl, rfl, rfl, Nat.zero_le _⟩ ?_
  rintro m tm mk h' ⟨k, ⟨g, rfl⟩, rfl, rfl, rfl, hk⟩
  conv => whnf
  refine CondW.mk (fun hlt => ?_) (fun hlt => ?_) <;> (try simp at hlt) <;> conv => whnf
  · obtain ⟨i, o, rfl, p1, p2⟩ := h2 k _ (getApp hlt)
    obtain ⟨i', o', rfl, p3, p4⟩ := h2' k _ (getApp hlt)
    refine DrawW.easy (by kernel_rfl) (by kernel_rfl) ?_
    conv => whnf
    refine NeedW.mk ⟨by omega, by simp; omega⟩ ?_
    conv => whnf
    refine LdW.cutA (by simpa using p2) ?_
    conv => whnf
    refine NeedW.mk ⟨by omega, by simp; omega⟩ ?_
    conv => whnf
    refine LdW.cutA (by simpa using p4) ?_
    conv => whnf
    refine EqW.mk _ guard37 (eq37 _ _) ?_
    conv => whnf
    refine CondW.mk (fun hne => ?_) (fun hne => ?_)
    · simp at hne
    conv => whnf
    refine ArW.small (by omega) ?_
    conv => whnf
    refine ⟨_, ?_, k + 1, Fr.mk rfl, rfl, rfl, rfl, hlt⟩
    omega
  · exact hK
set_option maxRecDepth 100000 in
/-- slices.Index: not less than nought just where the app is there -/
theorem index_app {v : Value} {h : AHeap} {xs : List AppD} {a : AppD} (hv : Elems h 2 v (xs.map appCells)) (hlen : xs.length ≤ 1000000)
    {K : OpK} (hK : ∀ (r : Int) h', (0 ≤ r ↔ a ∈ xs) → Ext h h' → K (.int .i64 r) h') : CallW Tryz.prog orcLaw 62 [v, .agg ⟨appCells a⟩] h K := by
  refine enterW rfl ?_
  obtain ⟨base, cap, rfl, h2⟩ := hv
  simp only [List.length_map]
  conv => whnf
  refine LoopW.rule (fun m tm mk h' => ∃ k : Nat, Fr 5 [(0, .slice base xs.length cap), (3, .pointer (some ⟨h.next, 0, none⟩)), (7, .int .i64 (xs.length : Int)), (8, .int .i64 (k : Int))] tm ∧ mk = [] ∧ h' = h.push (.cells (appCells a) 37 true true) ∧ m = xs.length - k ∧ k ≤ xs.length ∧ ∀ j, j < k → xs[j]? ≠ some a) _
    ⟨0, Fr.mk rfl, rfl, rfl, rfl, Nat.zero_le _, fun j hj => absurd hj (Nat.not_lt_zero _)⟩ ?_
  rintro m tm mk h' ⟨k, ⟨g, rfl⟩, rfl, rfl, rfl, hk, hno⟩
  conv => whnf
  refine CondW.mk (fun hlt => ?_) (fun hlt => ?_) <;> (try simp at hlt) <;> conv => whnf
  · obtain ⟨i, o, rfl, p1, p2⟩ := h2 k _ (getApp hlt)
    refine DrawW.easy (by kernel_rfl) (by kernel_rfl) ?_
    conv => whnf
    refine LdW.of get_self (partOf_agg (Nat.le_refl 2)) ?_
    conv => whnf
    refine NeedW.mk ⟨by omega, by omega⟩ ?_
    conv => whnf
    refine LdW.cutA (by rw [rowCut_ext Ext.refl.push p1]; simpa using p2) ?_
    conv => whnf
    refine EqW.mk _ guard37 (eq37 a _) ?_
    conv => whnf
    refine CondW.mk (fun he => ?_) (fun he => ?_) <;> rw [eqApp] at he <;> simp at he <;> conv => whnf
    · exact hK k _ ⟨fun _ => he ▸ List.getElem_mem hlt, fun _ => by omega⟩ Ext.refl.push
    · refine ArW.small (by omega) ?_
      conv => whnf
      refine ⟨_, ?_, k + 1, Fr.mk rfl, rfl, rfl, rfl, hlt, fun j hj => ?_⟩
      · omega
      · by_cases e : j = k
        · subst e
          rw [List.getElem?_eq_getElem hlt]
          intro h3; exact he (Option.some.inj h3).symm
        · exact hno j (by omega)
  · refine hK (-1) _ ⟨fun h3 => absurd h3 (by omega), fun hm => ?_⟩ Ext.refl.push
    obtain ⟨j, hj, rfl⟩ := List.getElem_of_mem hm
    exact absurd (List.getElem?_eq_getElem hj) (hno j (by omega))
set_option maxRecDepth 100000 in
theorem contains_app {v : Value} {h : AHeap} {xs : List AppD} {a : AppD} (hv : Elems h 2 v (xs.map appCells)) (hlen : xs.length ≤ 1000000)
    {K : OpK} (hK : ∀ (b : Bool) h', (b = true ↔ a ∈ xs) → Ext h h' → K (.bool b) h') : CallW Tryz.prog orcLaw 32 [v, .agg ⟨appCells a⟩] h K := by
  refine enterW rfl ?_
  conv => whnf
  refine LdW.of get_self (partOf_agg (Nat.le_refl 2)) ?_
  conv => whnf
  refine index_app (hv.ext Ext.refl.push) hlen fun r h' hr he => ?_
  conv => whnf
  exact hK _ h' (by simpa using hr) (Ext.refl.push.trans he)

/-! ### The apps of an association -/
/-- a detail: the slice of its apps, the slice of its rules, the apps -/
structure DetD where
  va : Value
  vr : Value
  apps : List AppD
def detCells (d : DetD) : List Value := [d.va, d.vr]
def addApp (l : List AppD) (x : AppD) : List AppD := if x ∈ l then l else l ++ [x]
def addDet (l : List AppD) (d : DetD) : List AppD := d.apps.foldl addApp l
def allApps (ds : List DetD) : List AppD := ds.foldl addDet []
/-- what is known of the details -/
structure Dets (h : AHeap) (v : Value) (ds : List DetD) : Prop where
  row : Elems h 2 v (ds.map detCells)
  apps : ∀ d ∈ ds, Elems h 2 d.va (d.apps.map appCells)
  few : ds.length ≤ 60
  less : ∀ d ∈ ds, d.apps.length ≤ 20
  one : ∀ d ∈ ds, oneCell d.va = true ∧ oneCell d.vr = true
theorem addApp_new {l : List AppD} {x : AppD} (h : x ∉ l) : addApp l x = l ++ [x] := if_neg h
theorem addApp_old {l : List AppD} {x : AppD} (h : x ∈ l) : addApp l x = l := if_pos h
theorem addApp_len (l : List AppD) (x : AppD) : (addApp l x).length ≤ l.length + 1 := by unfold addApp; split <;> simp
theorem foldApp_len : ∀ (xs l : List AppD), (xs.foldl addApp l).length ≤ l.length + xs.length
  | [], l => by simp
  | x :: xs, l => by
    have h1 := foldApp_len xs (addApp l x)
    have h2 := addApp_len l x
    simp only [List.foldl_cons, List.length_cons]; omega
theorem take_succ_fold {α β : Type} (f : β → α → β) (b : β) {l : List α} {k : Nat} (hk : k < l.length) : (l.take (k + 1)).foldl f b = f ((l.take k).foldl f b) l[k] := by
  rw [List.take_succ_eq_append_getElem hk, List.foldl_append]; rfl
theorem dets_len {ds : List DetD} (hl : ∀ d ∈ ds, d.apps.length ≤ 20) : ∀ k, k ≤ ds.length → ((ds.take k).foldl addDet []).length ≤ k * 20 := by
  intro k
  induction k with
  | zero => intro _; simp
  | succ k ih =>
    intro hk
    rw [take_succ_fold addDet [] (by omega)]
    have h1 := ih (by omega)
    have h2 := foldApp_len ds[k].apps ((ds.take k).foldl addDet [])
    have h3 := hl ds[k] (List.getElem_mem (by omega))
    show (ds[k].apps.foldl addApp _).length ≤ _
    omega
theorem tk32 : tk Tryz.prog 32 = .slc 37 := by kernel_rfl
theorem ni32 : notInt (tk Tryz.prog 32) = true := by kernel_rfl
theorem sz37 : szOf Tryz.prog 37 = some 2 := by kernel_rfl
theorem by37 : byOf Tryz.prog 37 = some 32 := by kernel_rfl
theorem zf37 : (!Nat.beq 32 0 && (!Nat.beq 2 0 && zeroFits Tryz.prog 37 2)) = true := by kernel_rfl
theorem mapLen {xs : List AppD} : ∀ x ∈ xs.map appCells, x.length = 2 := by
  intro x hx
  obtain ⟨a, _, rfl⟩ := List.mem_map.1 hx
  rfl
theorem mapOne {xs : List AppD} : ∀ x ∈ xs.map appCells, oneCells x = true := by
  intro x hx
  obtain ⟨a, _, rfl⟩ := List.mem_map.1 hx
  rfl
/-- one app more -/
theorem more_app {h0 h : AHeap} {base : Option Addr} {xs : List AppD} {x : AppD} (ho : Own h0 h 37 base (xs.map appCells)) (ha : Ext h0 h) (hlen : xs.length ≤ 100000) {b2 cap2 : Nat} (hnew : rowCut h b2 0 2 = some (appCells x)) :
    ∃ b h', appendA Tryz.prog 32 32 (.slice base xs.length xs.length) (.slice (some ⟨b2, 0, none⟩) 1 cap2) h = some (.slice (some ⟨b, 0, none⟩) (xs.length + 1) (xs.length + 1), h') ∧ Own h0 h' 37 (some ⟨b, 0, none⟩) ((xs ++ [x]).map appCells) ∧ Ext h0 h' := by
  have := Own.append (P := Tryz.prog) ho ha tk32 ni32 sz37 mapLen mapOne (roomy_of by37 zf37 (by simp; omega)) (b2 := b2) (cap2 := cap2) hnew rfl rfl
  simpa using this

set_option maxRecDepth 100000 in
/-- aasa.Apps -/
theorem apps_walk {vd vv : Value} {h : AHeap} {ds : List DetD} (hd : Dets h vd ds) {K : OpK}
    (hK : ∀ base h', Own h h' 37 base ((allApps ds).map appCells) → Ext h h' → K (.slice base (allApps ds).length (allApps ds).length) h') : CallW Tryz.prog orcLaw 11 [.agg ⟨[vd, vv]⟩] h K := by
  refine enterW rfl ?_
  obtain ⟨⟨based, capd, rfl, hrow⟩, happs, hfew, hless, hone⟩ := hd
  simp only [List.length_map] at hrow ⊢
  conv => whnf
  refine LdW.of get_self (partOf_one rfl) ?_
  conv => whnf
  refine LoopW.rule (fun m tm mk h' => ∃ (k : Nat) (base : Option Addr), Fr 6 [(2, .slice base ((ds.take k).foldl addDet []).length ((ds.take k).foldl addDet []).length), (8, .slice based ds.length capd), (9, .int .i64 (ds.length : Int)), (10, .int .i64 (k : Int))] tm ∧ mk = [] ∧
      Own h h' 37 base (((ds.take k).foldl addDet []).map appCells) ∧ Ext h h' ∧ m = ds.length - k ∧ k ≤ ds.length) _ ⟨0, none, Fr.mk rfl, rfl, .inl ⟨rfl, rfl⟩, Ext.refl.push, rfl, Nat.zero_le _⟩ ?_
  rintro m tm mk h1 ⟨k, base, ⟨g, rfl⟩, rfl, hown, hext, rfl, hk⟩
  conv => whnf
  refine CondW.mk (fun hlt => ?_) (fun hlt => ?_) <;> (try simp at hlt) <;> conv => whnf
  · obtain ⟨i, o, rfl, p1, p2⟩ := hrow k (detCells ds[k]) (by simp [hlt])
    refine NeedW.mk ⟨by omega, by omega⟩ ?_
    conv => whnf
    refine LdW.cutA (by rw [rowCut_ext hext p1]; simpa using p2) ?_
    conv => whnf
    obtain ⟨ho1, ho2⟩ := hone ds[k] (List.getElem_mem hlt)
    refine StW.of get_self (by show oneCells [ds[k].va, ds[k].vr] = true; simp [oneCells, ho1, ho2]) rfl ?_
    obtain ⟨base2, cap2, hva, hrow2⟩ := happs ds[k] (List.getElem_mem hlt)
    have hless2 := hless ds[k] (List.getElem_mem hlt)
    have hacc : ((ds.take k).foldl addDet []).length ≤ 1200 := by have := dets_len hless k hk; omega
    simp only [List.length_map] at hva hrow2
    conv => whnf
    refine LdW.of get_put_self (partOf_one (v := .slice base2 ds[k].apps.length cap2) (by rw [← hva]; rfl)) ?_
    conv => whnf
    have hextB : Ext h ((h1.push (.cells (cellsL (.agg ⟨[.slice none 0 0, .slice none 0 0]⟩)) 35 true true)).put h1.next (.cells (detCells ds[k]) 35 true true)) := (hext.push).put hext.next
    refine LoopW.rule (fun m tm mk h' => ∃ (j : Nat) (base' : Option Addr), Fr 6 [(2, .slice base' ((ds[k].apps.take j).foldl addApp ((ds.take k).foldl addDet [])).length ((ds[k].apps.take j).foldl addApp ((ds.take k).foldl addDet [])).length), (8, .slice (some ⟨i, o, none⟩) ds.length capd), (9, .int .i64 (ds.length : Int)), (10, .int .i64 (k : Int)),
        (15, .slice base2 ds[k].apps.length cap2), (16, .int .i64 (ds[k].apps.length : Int)), (17, .int .i64 (j : Int))] tm ∧ mk = [] ∧
      Own h h' 37 base' (((ds[k].apps.take j).foldl addApp ((ds.take k).foldl addDet [])).map appCells) ∧ Ext h h' ∧ m = ds[k].apps.length - j ∧ j ≤ ds[k].apps.length) _ ⟨0, base, Fr.mk rfl, rfl, ?_, ?_, rfl, Nat.zero_le _⟩ ?_
    · exact Own.later (Ext.refl.push.put (Nat.le_refl _)) hown
    · exact hext.push.put hext.next
    rintro m tm mk h2 ⟨j, base', ⟨g, rfl⟩, rfl, hown2, hext2, rfl, hj⟩
    conv => whnf
    refine CondW.mk (fun hlt2 => ?_) (fun hlt2 => ?_) <;> (try simp at hlt2) <;> conv => whnf
    · obtain ⟨i2, o2, rfl, q1, q2⟩ := hrow2 j _ (getApp hlt2)
      refine NeedW.mk ⟨by omega, by omega⟩ ?_
      conv => whnf
      refine LdW.cutA (by rw [rowCut_ext hext2 q1]; simpa using q2) ?_
      conv => whnf
      refine StW.of get_self (by kernel_rfl) rfl ?_
      conv => whnf
      refine LdW.of get_put_self (partOf_agg (Nat.le_refl 2)) ?_
      conv => whnf
      have hacc2 : ((ds[k].apps.take j).foldl addApp ((ds.take k).foldl addDet [])).length ≤ 1300 := by have := foldApp_len (ds[k].apps.take j) ((ds.take k).foldl addDet []); simp at this; omega
      have hE0 : Ext h2 ((h2.push (.cells (cellsL (.agg #[.string ⟨#[]⟩, .string ⟨#[]⟩])) 37 true true)).put h2.next (.cells (appCells ds[k].apps[j]) 37 true true)) := Ext.refl.push.put (Nat.le_refl _)
      refine contains_app (a := ds[k].apps[j]) (xs := (ds[k].apps.take j).foldl addApp ((ds.take k).foldl addDet [])) ?_ (by omega) fun b h3 hb hE => ?_
      · have := (hown2.later hE0).elems (s := 2) (cap := ((ds[k].apps.take j).foldl addApp ((ds.take k).foldl addDet [])).length) mapLen
        rw [List.length_map] at this
        exact this
      have hE3 : Ext h2 h3 := hE0.trans hE
      have hstep : (ds[k].apps.take (j + 1)).foldl addApp ((ds.take k).foldl addDet []) = addApp ((ds[k].apps.take j).foldl addApp ((ds.take k).foldl addDet [])) ds[k].apps[j] := take_succ_fold addApp _ hlt2
      conv => whnf
      refine CondW.mk (fun hc => ?_) (fun hc => ?_) <;> (try simp at hc) <;> conv => whnf
      · refine LdW.of (hE.at (by simp) get_put_self) (partOf_agg (Nat.le_refl 2)) ?_
        conv => whnf
        obtain ⟨bn, h4, e1, e2, e3⟩ := more_app (x := ds[k].apps[j]) (b2 := h3.next) (cap2 := 1) ((hown2.later hE3).later (Ext.refl.push (o := .cells (appCells ds[k].apps[j]) 37 true true))) (hext2.trans (hE3.push)) (by omega) (rowCut_cells get_self (Nat.le_refl 2))
        refine OpW.mk _ _ e1 ?_
        conv => whnf
        refine ArW.small (by omega) ?_
        conv => whnf
        have hno : addApp ((ds[k].apps.take j).foldl addApp ((ds.take k).foldl addDet [])) ds[k].apps[j] = (ds[k].apps.take j).foldl addApp ((ds.take k).foldl addDet []) ++ [ds[k].apps[j]] := by
          exact addApp_new (by rw [← hb, hc]; simp)
        refine ⟨_, ?_, j + 1, some ⟨bn, 0, none⟩, ?_, rfl, ?_, e3, rfl, hlt2⟩
        · omega
        · rw [hstep, hno, List.length_append, List.length_singleton]
          exact Fr.mk rfl
        · rw [hstep, hno]; exact e2
      · refine ArW.small (by omega) ?_
        conv => whnf
        have hyes : addApp ((ds[k].apps.take j).foldl addApp ((ds.take k).foldl addDet [])) ds[k].apps[j] = (ds[k].apps.take j).foldl addApp ((ds.take k).foldl addDet []) := by
          exact addApp_old (hb.1 hc)
        refine ⟨_, ?_, j + 1, base', ?_, rfl, ?_, hext2.trans hE3, rfl, hlt2⟩
        · omega
        · rw [hstep, hyes]
          exact Fr.mk rfl
        · rw [hstep, hyes]; exact hown2.later hE3
    · have hfull : ds[k].apps.take j = ds[k].apps := List.take_of_length_le (by omega)
      rw [hfull] at hown2 ⊢
      refine ArW.small (by omega) ?_
      conv => whnf
      have hstep : (ds.take (k + 1)).foldl addDet [] = ds[k].apps.foldl addApp ((ds.take k).foldl addDet []) := take_succ_fold addDet _ hlt
      refine ⟨_, ?_, k + 1, base', ?_, rfl, ?_, hext2, rfl, hlt⟩
      · omega
      · rw [hstep]; exact Fr.mk rfl
      · rw [hstep]; exact hown2
  · have hfull : ds.take k = ds := List.take_of_length_le (by omega)
    rw [hfull] at hown ⊢
    exact hK base h1 hown hext
end Go.Proofs.YtkggojeophpdjaaGreatDoor
