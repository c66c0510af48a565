/-
  The walk of the document's Apps (layer 20); no condition.
-/
import Derived.Test.YtkggojeophpdjaaGreatDoorAppsWalk
namespace Go.Proofs.YtkggojeophpdjaaGreatDoor
open Go.Ev
theorem mem_take_succ {l : List AppD} {k : Nat} (hk : k < l.length) (x : AppD) : x ∈ l.take (k + 1) ↔ (x ∈ l.take k ∨ l[k] = x) := by
  rw [List.take_succ_eq_append_getElem hk, List.mem_append, List.mem_singleton]; exact ⟨fun h => h.imp id Eq.symm, fun h => h.imp id Eq.symm⟩
set_option maxRecDepth 100000 in
/-- the document's Apps -/
theorem ref_walk {vd vv : Value} {h : AHeap} {ds : List DetD} (hd : Dets h vd ds) {K : OpK}
    (hK : ∀ base h', Own h h' 37 base ((allApps ds).map appCells) → Ext h h' → K (.slice base (allApps ds).length (allApps ds).length) h') : CallW Tryz.prog orcLaw 12 [.agg ⟨[vd, vv]⟩] h K := by
  refine enterW rfl ?_
  obtain ⟨⟨based, capd, rfl, hrow⟩, happs, hfew, hless, hone⟩ := hd
  simp only [List.length_map] at hrow ⊢
  conv => whnf
  have hgB : ∀ {h' : AHeap}, Ext (h.push (.cells [.slice based ds.length capd, vv] 27 true true)) h' → h'.get h.next = some (.cells [.slice based ds.length capd, vv] 27 true true) := fun hE => hE.at (by simp) get_self
  have hB : Ext h (h.push (.cells [.slice based ds.length capd, vv] 27 true true)) := Ext.refl.push
  refine LoopW.rule (fun m tm mk h' => ∃ (k : Nat) (base : Option Addr), Fr 7 [(1, .pointer (some ⟨h.next, 0, none⟩)), (3, .slice base ((ds.take k).foldl addDet []).length ((ds.take k).foldl addDet []).length), (4, .int .i64 (k : Int))] tm ∧ mk = [] ∧
      Own (h.push (.cells [.slice based ds.length capd, vv] 27 true true)) h' 37 base (((ds.take k).foldl addDet []).map appCells) ∧ Ext (h.push (.cells [.slice based ds.length capd, vv] 27 true true)) h' ∧ m = ds.length - k ∧ k ≤ ds.length) _
      ⟨0, some ⟨(h.push (.cells [.slice based ds.length capd, vv] 27 true true)).next, 0, none⟩, Fr.mk rfl, rfl, .inr ⟨_, true, rfl, Nat.le_refl _, by simp, get_self, fun _ => rfl⟩, Ext.refl.push, rfl, Nat.zero_le _⟩ ?_
  rintro m tm mk h1 ⟨k, base, ⟨g, rfl⟩, rfl, hown, hext, rfl, hk⟩
  conv => whnf
  refine LdW.of (hgB hext) (partOf_one rfl) ?_
  conv => whnf
  refine CondW.mk (fun hlt => ?_) (fun hlt => ?_) <;> (try simp at hlt) <;> conv => whnf
  · obtain ⟨i, o, rfl, p1, p2⟩ := hrow k (detCells ds[k]) (by simp [hlt])
    obtain ⟨base2, cap2, hva, hrow2⟩ := happs ds[k] (List.getElem_mem hlt)
    have hless2 := hless ds[k] (List.getElem_mem hlt)
    have hacc : ((ds.take k).foldl addDet []).length ≤ 1200 := by have := dets_len hless k hk; omega
    simp only [List.length_map] at hva hrow2
    have hvaAt : ∀ {h' : AHeap}, Ext (h.push (.cells [.slice (some ⟨i, o, none⟩) ds.length capd, vv] 27 true true)) h' → rowCut h' i (o + k * 2) 1 = some [.slice base2 ds[k].apps.length cap2] := by
      intro h' hE
      rw [rowCut_ext (hB.trans hE) p1]
      have := rowCut_sub p2 (j := 0) (n := 1) (by omega)
      rw [← hva]; exact this
    refine LoopW.rule (fun m tm mk h' => ∃ (j : Nat) (base' : Option Addr), Fr 7 [(1, .pointer (some ⟨h.next, 0, none⟩)), (3, .slice base' ((ds[k].apps.take j).foldl addApp ((ds.take k).foldl addDet [])).length ((ds[k].apps.take j).foldl addApp ((ds.take k).foldl addDet [])).length), (4, .int .i64 (k : Int)), (5, .int .i64 (j : Int))] tm ∧ mk = [] ∧
      Own (h.push (.cells [.slice (some ⟨i, o, none⟩) ds.length capd, vv] 27 true true)) h' 37 base' (((ds[k].apps.take j).foldl addApp ((ds.take k).foldl addDet [])).map appCells) ∧ Ext (h.push (.cells [.slice (some ⟨i, o, none⟩) ds.length capd, vv] 27 true true)) h' ∧ m = ds[k].apps.length - j ∧ j ≤ ds[k].apps.length) _ ⟨0, base, Fr.mk rfl, rfl, hown, hext, rfl, Nat.zero_le _⟩ ?_
    rintro m tm mk h2 ⟨j, base', ⟨g, rfl⟩, rfl, hown2, hext2, rfl, hj⟩
    conv => whnf
    refine LdW.of (hgB hext2) (partOf_one rfl) ?_
    conv => whnf
    refine NeedW.mk ⟨by omega, by omega⟩ ?_
    conv => whnf
    refine LdW.cut1 (hvaAt hext2) ?_
    conv => whnf
    refine CondW.mk (fun hlt2 => ?_) (fun hlt2 => ?_) <;> (try simp at hlt2) <;> conv => whnf
    · have hacc2 : ((ds[k].apps.take j).foldl addApp ((ds.take k).foldl addDet [])).length ≤ 1300 := by have := foldApp_len (ds[k].apps.take j) ((ds.take k).foldl addDet []); simp at this; omega
      have helems := hown2.elems (s := 2) (cap := ((ds[k].apps.take j).foldl addApp ((ds.take k).foldl addDet [])).length) mapLen
      obtain ⟨i2, o2, rfl, q1, q2⟩ := hrow2 j _ (getApp hlt2)
      refine LoopW.rule (fun m tm mk h' => ∃ (r : Nat), Fr 7 [(1, .pointer (some ⟨h.next, 0, none⟩)), (3, .slice base' ((ds[k].apps.take j).foldl addApp ((ds.take k).foldl addDet [])).length ((ds[k].apps.take j).foldl addApp ((ds.take k).foldl addDet [])).length), (4, .int .i64 (k : Int)), (5, .int .i64 (j : Int)),
        (6, .bool (decide (ds[k].apps[j] ∈ ((ds[k].apps.take j).foldl addApp ((ds.take k).foldl addDet [])).take r))), (7, .int .i64 (r : Int))] tm ∧ mk = [] ∧ h' = h2 ∧ m = ((ds[k].apps.take j).foldl addApp ((ds.take k).foldl addDet [])).length - r ∧ r ≤ ((ds[k].apps.take j).foldl addApp ((ds.take k).foldl addDet [])).length) _
        ⟨0, Fr.mk (by simp only [List.take_zero, List.not_mem_nil, decide_false]; rfl), rfl, rfl, rfl, Nat.zero_le _⟩ ?_
      generalize hacd : (ds[k].apps.take j).foldl addApp ((ds.take k).foldl addDet []) = acc at hown2 hacc2 helems ⊢
      rintro m tm mk h3 ⟨r, ⟨g, rfl⟩, rfl, rfl, rfl, hr⟩
      conv => whnf
      refine CondW.mk (fun hlt3 => ?_) (fun hlt3 => ?_) <;> (try simp at hlt3) <;> conv => whnf
      · refine DrawW.easy (by kernel_rfl) (by kernel_rfl) ?_
        conv => whnf
        refine CondW.mk (fun hin => ?_) (fun hin => ?_) <;> simp only [decide_eq_true_eq, decide_eq_false_iff_not] at hin <;> conv => whnf
        · refine ArW.small (by omega) ?_
          conv => whnf
          refine ⟨_, ?_, r + 1, Fr.mk ?_, rfl, rfl, rfl, hlt3⟩
          · omega
          · rw [show decide (ds[k].apps[j] ∈ acc.take (r + 1)) = true by rw [decide_eq_true_eq, mem_take_succ hlt3]; exact .inl hin]
            rfl
        · obtain ⟨_, _, he, hx⟩ := helems
          cases he
          obtain ⟨bo, oo, rfl, r1, r2⟩ := hx r _ (getApp hlt3)
          have hkb : h.next < (h.push (.cells [.slice (some ⟨i, o, none⟩) ds.length capd, vv] 27 true true)).next := by simp
          refine NeedW.mk ⟨by omega, by omega⟩ ?_
          conv => whnf
          refine LdW.cutA (by simpa using r2) ?_
          conv => whnf
          refine LdW.of (hgB hext2) (partOf_one rfl) ?_
          conv => whnf
          refine NeedW.mk ⟨by omega, by omega⟩ ?_
          conv => whnf
          refine LdW.cut1 (hvaAt hext2) ?_
          conv => whnf
          refine NeedW.mk ⟨by omega, by omega⟩ ?_
          conv => whnf
          refine LdW.cutA (by rw [rowCut_ext (hB.trans hext2) q1]; simpa using q2) ?_
          conv => whnf
          refine EqW.mk _ guard37 (eq37 acc[r] ds[k].apps[j]) ?_
          conv => whnf
          refine ArW.small (by omega) ?_
          conv => whnf
          refine ⟨_, ?_, r + 1, Fr.mk ?_, rfl, rfl, rfl, hlt3⟩
          · omega
          · rw [show decide (ds[k].apps[j] ∈ acc.take (r + 1)) = (decide (acc[r].1 = ds[k].apps[j].1) && (decide (acc[r].2 = ds[k].apps[j].2) && true)) by rw [eqApp, decide_eq_decide, mem_take_succ hlt3]; exact ⟨fun h => h.resolve_left hin, .inr⟩]
            rfl
      · have hfull : acc.take r = acc := List.take_of_length_le (by omega)
        rw [hfull]
        have hstep : (ds[k].apps.take (j + 1)).foldl addApp ((ds.take k).foldl addDet []) = addApp acc ds[k].apps[j] := by rw [← hacd]; exact take_succ_fold addApp _ hlt2
        refine CondW.mk (fun hc => ?_) (fun hc => ?_) <;> simp at hc <;> conv => whnf
        · refine LdW.of (hgB hext2) (partOf_one rfl) ?_
          conv => whnf
          refine NeedW.mk ⟨by omega, by omega⟩ ?_
          conv => whnf
          refine LdW.cut1 (hvaAt hext2) ?_
          conv => whnf
          refine NeedW.mk ⟨by omega, by omega⟩ ?_
          conv => whnf
          refine LdW.cutA (by rw [rowCut_ext (hB.trans hext2) q1]; simpa using q2) ?_
          conv => whnf
          obtain ⟨bn, h4, e1, e2, e3⟩ := more_app (x := ds[k].apps[j]) (b2 := h3.next) (cap2 := 1) (hown2.later (Ext.refl.push (o := .cells (appCells ds[k].apps[j]) 37 true true))) (hext2.push) (by omega) (rowCut_cells get_self (Nat.le_refl 2))
          refine OpW.mk _ _ e1 ?_
          conv => whnf
          refine ArW.small (by omega) ?_
          conv => whnf
          refine ⟨_, ?_, j + 1, some ⟨bn, 0, none⟩, ?_, rfl, ?_, e3, rfl, hlt2⟩
          · omega
          · rw [hstep, addApp_new hc, List.length_append, List.length_singleton]
            exact Fr.mk rfl
          · rw [hstep, addApp_new hc]; exact e2
        · refine ArW.small (by omega) ?_
          conv => whnf
          refine ⟨_, ?_, j + 1, base', ?_, rfl, ?_, hext2, rfl, hlt2⟩
          · omega
          · rw [hstep, addApp_old hc]
            exact Fr.mk rfl
          · rw [hstep, addApp_old hc]; exact hown2
    · have hfull : ds[k].apps.take j = ds[k].apps := List.take_of_length_le (by omega)
      rw [hfull] at hown2 ⊢
      refine ArW.small (by omega) ?_
      conv => whnf
      have hstep : (ds.take (k + 1)).foldl addDet [] = ds[k].apps.foldl addApp ((ds.take k).foldl addDet []) := take_succ_fold addDet _ hlt
      refine ⟨_, ?_, k + 1, base', ?_, rfl, ?_, hext2, rfl, hlt⟩
      · omega
      · rw [hstep]; exact Fr.mk rfl
      · rw [hstep]; exact hown2
  · have hfull : ds.take k = ds := List.take_of_length_le (by omega)
    rw [hfull] at hown ⊢
    exact hK base h1 (hown.weaken hB.next) (hB.trans hext)
end Go.Proofs.YtkggojeophpdjaaGreatDoor
