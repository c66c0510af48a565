/-
  From the evaluator's answer to what a law's row asks; no condition.
-/
import Derived.Test.YtahbpehdjbmndaaGreatDoorEvArgs
import Derived.WalkKit
import Derived.ProofKit
import Derived.OpenShut
import Derived.Carry
namespace Go.Ev
open Go.RowKit Go.ChangeShapes Go.WideShapes Go.ChangeAt
noncomputable section
variable {P : Program} {W : World}

theorem top_any {r : Reach} {base : Nat} {t : TypeId} {v : Value} (hv : Cell.okWide P W r base t v) : topV v ≤ top W := by
  cases v <;> simp only [topV] <;> first | exact Nat.zero_le _ | skip
  rename_i a l c
  cases a with
  | none => exact Nat.zero_le _
  | some a =>
    unfold Cell.okWide at hv
    split at hv <;> first | (rename_i he; cases he; done) | skip
    unfold Cell.ok at hv
    split at hv <;> first | (rename_i he; cases he; done) | (cases hv; done) | skip
    rename_i he
    cases he
    obtain ⟨_, _, _, _, row, cells, h1, _⟩ := hv
    unfold World.shape? at h1
    cases hW : W.heap[a.block]? with
    | none => simp [hW] at h1
    | some ob =>
      have := (Array.getElem?_eq_some_iff.1 hW).1
      have := size_top (W := W)
      simp only
      omega
theorem enc_any {r : Reach} {base : Nat} {t : TypeId} {v : Value} (hv : Cell.okWide P W r base t v) : enc v = v := by
  cases v <;> first | rfl | skip
  rename_i a l c
  cases a with
  | none => rfl
  | some a =>
    unfold Cell.okWide at hv
    split at hv <;> first | (rename_i he; cases he; done) | skip
    unfold Cell.ok at hv
    split at hv <;> first | (rename_i he; cases he; done) | (cases hv; done) | skip
    rename_i he
    cases he
    obtain ⟨_, _, _, h1, _⟩ := hv
    obtain ⟨b, o, sp⟩ := a
    obtain rfl : sp = none := h1
    rfl
theorem enc_value {r : Reach} {base : Nat} {t : TypeId} {v : Value} (hv : Value.okWide P W r base t v) : ∀ c ∈ v.cells.toList, enc c = c := by
  intro c hc
  have hcell : Cell.okWide P W r base t v → enc c = c := by
    intro h
    by_cases ha : ∃ a, v = .agg a
    · obtain ⟨a, rfl⟩ := ha
      exfalso
      unfold Cell.okWide at h
      split at h <;> first | (rename_i he; cases he; done) | skip
      unfold Cell.ok at h
      split at h <;> first | (rename_i he; cases he; done) | (cases h; done)
    · have : v.cells = #[v] := by cases v <;> first | rfl | exact absurd ⟨_, rfl⟩ ha
      rw [this] at hc
      simp at hc
      subst hc
      exact enc_any h
  have hrow : (∃ cs, v = .agg cs ∧ cs.size = P.cellsOf t ∧ Row.okWide P W r base t cs) → enc c = c := by
    rintro ⟨cs, rfl, _, ts, _, _, h⟩
    obtain ⟨i, hi, rfl⟩ := List.getElem_of_mem hc
    have hi' : i < cs.size := hi
    obtain ⟨u, _, h2⟩ := h i cs[i] (by simp [hi'])
    exact enc_any h2
  unfold Value.okWide at hv
  split at hv
  · exact hrow hv
  · exact hrow hv
  · exact hcell hv
theorem top_value {r : Reach} {base : Nat} {t : TypeId} {v : Value} (hv : Value.okWide P W r base t v) : ∀ c ∈ v.cells.toList, topV c ≤ top W := by
  intro c hc
  have hcell : Cell.okWide P W r base t v → topV c ≤ top W := by
    intro h
    by_cases ha : ∃ a, v = .agg a
    · obtain ⟨a, rfl⟩ := ha
      exfalso
      unfold Cell.okWide at h
      split at h <;> first | (rename_i he; cases he; done) | skip
      unfold Cell.ok at h
      split at h <;> first | (rename_i he; cases he; done) | (cases h; done)
    · have : v.cells = #[v] := by cases v <;> first | rfl | exact absurd ⟨_, rfl⟩ ha
      rw [this] at hc
      simp at hc
      subst hc
      exact top_any h
  have hrow : (∃ cs, v = .agg cs ∧ cs.size = P.cellsOf t ∧ Row.okWide P W r base t cs) → topV c ≤ top W := by
    rintro ⟨cs, rfl, _, ts, _, _, h⟩
    obtain ⟨i, hi, rfl⟩ := List.getElem_of_mem hc
    have hi' : i < cs.size := hi
    obtain ⟨u, _, h2⟩ := h i cs[i] (by simp [hi'])
    exact top_any h2
  unfold Value.okWide at hv
  split at hv
  · exact hrow hv
  · exact hrow hv
  · exact hcell hv
theorem renL_fixed {ρ : Ren} : ∀ (l : List Value), (∀ c ∈ l, ren ρ c = some c) → renL ρ l = some l
  | [], _ => by simp [renL]
  | c :: l, h => renL_cons_mk (h c List.mem_cons_self) (renL_fixed l fun d hd => h d (List.mem_cons_of_mem _ hd))
theorem ren_cells {v : Value} (h : ∀ c ∈ v.cells.toList, ren (rho0 (top W)) c = some c) : ren (rho0 (top W)) v = some v := by
  by_cases ha : ∃ a, v = .agg a
  · obtain ⟨⟨l⟩, rfl⟩ := ha
    refine ren_agg_mk ?_
    exact renL_fixed l h
  · have : v.cells = #[v] := by cases v <;> first | rfl | exact absurd ⟨_, rfl⟩ ha
    rw [this] at h
    exact h v (by simp)
/-- a value of a type: of one cell, or of many -/
def Shp (P : Program) (t : TypeId) (v : Value) : Prop := match P.underlying t with
  | some (.struct _) => ∃ cs, v = .agg ⟨cs⟩
  | some (.array _ _) => ∃ cs, v = .agg ⟨cs⟩
  | _ => v.cells.toList = [v]
theorem shp_ok {r : Reach} {base : Nat} {t : TypeId} {v : Value} (hv : Value.okWide P W r base t v) : Shp P t v := by
  have hcell : Cell.okWide P W r base t v → v.cells.toList = [v] := by
    intro h
    by_cases ha : ∃ a, v = .agg a
    · obtain ⟨a, rfl⟩ := ha
      exfalso
      unfold Cell.okWide at h
      split at h <;> first | (rename_i he; cases he; done) | skip
      unfold Cell.ok at h
      split at h <;> first | (rename_i he; cases he; done) | (cases h; done)
    · have : v.cells = #[v] := by cases v <;> first | rfl | exact absurd ⟨_, rfl⟩ ha
      rw [this]
  unfold Value.okWide at hv
  unfold Shp
  split at hv
  · rename_i hu; rw [hu]; obtain ⟨⟨cs⟩, rfl, _⟩ := hv; exact ⟨cs, rfl⟩
  · rename_i hu; rw [hu]; obtain ⟨⟨cs⟩, rfl, _⟩ := hv; exact ⟨cs, rfl⟩
  · rename_i h1 h2
    have := hcell hv
    split
    · rename_i hu; exact absurd hu (h1 _)
    · rename_i hu; exact absurd hu (h2 _ _)
    · exact this
theorem shp_slice {t e : TypeId} {v : Value} (hu : P.underlying t = some (.slice e)) (h : Shp P t v) : v.cells.toList = [v] := by simpa only [Shp, hu] using h
theorem shp_string {t : TypeId} {v : Value} (hu : P.underlying t = some .string) (h : Shp P t v) : v.cells.toList = [v] := by simpa only [Shp, hu] using h
theorem shp_int {t : TypeId} {k : IntKind} {v : Value} (hu : P.underlying t = some (.int k)) (h : Shp P t v) : v.cells.toList = [v] := by simpa only [Shp, hu] using h
theorem shp_bool {t : TypeId} {v : Value} (hu : P.underlying t = some .bool) (h : Shp P t v) : v.cells.toList = [v] := by simpa only [Shp, hu] using h
theorem shp_struct {t : TypeId} {fs : Array Field} {v : Value} (hu : P.underlying t = some (.struct fs)) (h : Shp P t v) : ∃ cs, v = .agg ⟨cs⟩ := by simpa only [Shp, hu] using h
/-- every argument, to the bottom -/
def SeenAll (P : Program) (h : AHeap) (n : Nat) : List TypeId → List Value → Prop
  | [], [] => True
  | t :: ts, v :: vs => (Seen P h n t v.cells.toList ∧ Shp P t v) ∧ SeenAll P h n ts vs
  | _, _ => False
theorem args_seen {H : Type} {enc : TypeId × Value → H} {base n : Nat} : ∀ {ts : List TypeId} {vs : List Value} {ds : List (DataW H)} {ps : List MemPlace}, ts.all (simple P n) = true → DataW.TrodAll enc P W 0 (fun _ => true) true ts vs ds ps →
    (∀ (j : Nat) t v, ts[j]? = some t → vs[j]? = some v → Value.okWide P W .any base t v) → renL (rho0 (top W)) vs = some vs ∧ SeenAll P (start W) n ts vs
  | [], [], [], _, _, _, _ => ⟨by simp [renL], trivial⟩
  | t :: ts, v :: vs, d :: ds, ps, hs, hA, hv => by
    obtain ⟨p, q, ⟨fuel, h1⟩, h2, _⟩ := hA
    simp only [List.all_cons, Bool.and_eq_true] at hs
    obtain ⟨h3, h4⟩ := seen_of_trod (fun _ => rfl) n hs.1 h1 (top_value (hv 0 t v rfl rfl))
    have henc := enc_value (hv 0 t v rfl rfl)
    rw [List.map_congr_left henc, List.map_id'] at h3
    have h4 : ∀ c ∈ v.cells.toList, ren (rho0 (top W)) c = some c := fun c hc => by rw [← henc c hc]; rw [h4 c hc, henc c hc]
    obtain ⟨h5, h6⟩ := args_seen hs.2 h2 fun j t v e1 e2 => hv (j + 1) t v e1 e2
    exact ⟨renL_cons_mk (ren_cells h4) h5, ⟨h3, shp_ok (hv 0 t v rfl rfl)⟩, h6⟩
  | [], _ :: _, _, _, _, h, _ => h.elim
  | _ :: _, [], _, _, _, h, _ => by cases ‹List (DataW H)› <;> exact h.elim
  | [], [], _ :: _, _, _, h, _ => h.elim
  | _ :: _, _ :: _, [], _, _, h, _ => h.elim
theorem trodAll_stays {H : Type} {enc : TypeId × Value → H} (hl : laidOutB P = true) {W' : World} (hB : Below W.heap.size W W') : ∀ {ts : List TypeId} {vs : List Value} {ds : List (DataW H)} {ps : List MemPlace},
    ts.all (fun t => P.readableRec t && decide (t < P.types.size)) = true → DataW.TrodAll enc P W 0 (fun _ => true) true ts vs ds ps → (∀ x ∈ ps, x.block < W.heap.size) → DataW.TrodAll enc P W' 0 (fun b => decide (b < W.heap.size)) true ts vs ds ps
  | [], [], [], _, _, h, _ => h
  | t :: ts, v :: vs, d :: ds, ps, hr, hA, hlt => by
    obtain ⟨p, q, h1, h2, rfl⟩ := hA
    simp only [List.all_cons, Bool.and_eq_true, decide_eq_true_eq] at hr
    exact ⟨p, q, Below.trod hl hr.1.1 hr.1.2 h1 hB fun x hx => hlt x (List.mem_append_left _ hx), trodAll_stays hl hB hr.2 h2 fun x hx => hlt x (List.mem_append_right _ hx), rfl⟩
  | [], _ :: _, _, _, _, h, _ => h.elim
  | _ :: _, [], _, _, _, h, _ => by cases ‹List (DataW H)› <;> exact h.elim
  | [], [], _ :: _, _, _, h, _ => h.elim
  | _ :: _, _ :: _, [], _, _, h, _ => h.elim
/-- **WHAT A LAW's ROW ASKS**, where the call returned true and no block of old turned -/
theorem post_law {H : Type} {enc : TypeId × Value → H} {f : Func} {s : ChangeSpec} {W' : World} {args : Array Value} {ds gs : List (DataW H)} {before : List MemPlace} {tb : TypeId} (hl : laidOutB P = true)
    (hpar : f.params.toList.all (fun t => P.readableRec t && decide (t < P.types.size)) = true) (hW : DataW.Whole enc P f.params.toList s.vars false W args.toList ds gs before) (hvars : s.vars = [])
    (hspec : ∀ ds : List (DataW H), ds.length = f.params.toList.length → s.fn H ds = { results := [.lit (.bool true)], args := ds }) (hres : f.resultTypes = #[tb]) (hb : P.underlying tb = some .bool) (hB : Below W.heap.size W W') :
    s.post enc P f false true false false W args (.bool true) W' := by
  have hW' := hW
  obtain ⟨p, q, hA, hV, rfl, hfz, hnd⟩ := hW
  have hV0 := hV
  rw [hvars] at hV
  obtain ⟨rfl, rfl⟩ := trodVars_none hV
  have hlen : ∀ {ts : List TypeId} {vs : List Value} {ds : List (DataW H)} {ps : List MemPlace}, DataW.TrodAll enc P W 0 (fun _ => true) true ts vs ds ps → ds.length = ts.length := by
    intro ts
    induction ts with
    | nil => intro vs ds ps h; cases vs <;> cases ds <;> first | rfl | exact h.elim
    | cons t ts ih =>
      intro vs ds ps h
      cases vs with
      | nil => cases ds <;> exact h.elim
      | cons v vs =>
        cases ds with
        | nil => exact h.elim
        | cons d ds =>
          obtain ⟨p, q, _, h2, _⟩ := h
          simp [ih h2]
  have hsp := hspec ds (hlen hA)
  have hlt : ∀ x ∈ p, x.block < W.heap.size := fun x hx => hW'.lt x (by simpa using hx)
  refine ⟨ds, [], p ++ [], [], p, [], hW', ?_, ?_, ?_, hB.frame _, fun e => by cases e⟩
  · rw [List.append_nil, hsp, hres]
    exact ⟨[], [], ⟨1, by simp [DataW.trod, hb, Value.cells]⟩, rfl, rfl⟩
  · rw [List.append_nil, hsp]
    exact trodAll_stays hl hB hpar hA hlt
  · rw [hvars, List.append_nil, hsp]
    exact rfl
/-- **A LAW's CONTRACT, OUT OF THE EVALUATOR** -/
theorem law_contract {H : Type} {enc : TypeId × Value → H} {g : FuncId} {f : Func} {s : ChangeSpec} {args : Array Value} {ds gs : List (DataW H)} {before : List MemPlace} {tb : TypeId} {base n : Nat} {orc : Orc} (hl : laidOutB P = true)
    (hpar : f.params.toList.all (fun t => P.readableRec t && decide (t < P.types.size)) = true) (hsim : f.params.toList.all (simple P n) = true) (hW : DataW.Whole enc P f.params.toList s.vars false W args.toList ds gs before) (hvars : s.vars = [])
    (hspec : ∀ ds : List (DataW H), ds.length = f.params.toList.length → s.fn H ds = { results := [.lit (.bool true)], args := ds }) (hres : f.resultTypes = #[tb]) (hb : P.underlying tb = some .bool)
    (hval : ∀ (j : Nat) t v, f.params[j]? = some t → args[j]? = some v → Value.okWide P W .any base t v) (ho : OrcOk P W orc) (hN : P.globals.size ≤ W.heap.size)
    (hcall : ∀ vs, SeenAll P (start W) n f.params.toList vs → CallW P orc g vs (start W) fun v _ => v = .bool true) :
    Calls P g args W fun e W' => ∃ v, e = .returned v ∧ s.post enc P f false true false false W args v W' := by
  have hW' := hW
  obtain ⟨p, q, hA, hV, rfl, hfz, hnd⟩ := hW
  obtain ⟨h1, h2⟩ := args_seen hsim hA fun j t v e1 e2 => hval j t v (by simpa using e1) (by simpa using e2)
  refine (start_calls ho hN h1 (hcall _ h2)).mono fun e W' ⟨he, hB⟩ => ?_
  subst he
  exact ⟨_, rfl, post_law hl hpar hW' hvars hspec hres hb hB⟩
end
end Go.Ev
