/-
  The evaluator's heap stands for a world's: stores, new blocks; no condition.
-/
import Derived.Test.YtahbpehdjbmndaaGreatDoorEvRep
namespace Go.Ev
open Go.RowKit

/-- one block replaced -/
def setAt (w : World) (b : Nat) (O : Obj) : World := { w with heap := w.heap.setIfInBounds b O }
def Ren.upd (ρ : Ren) (i : Nat) (x : Nat × Nat) : Ren := fun j => if j = i then some x else ρ j

section
variable {P : Program} {w0 w : World} {ρ : Ren} {h : AHeap}

theorem setAt_heap_same {b : Nat} {O O' : Obj} (hb : w.heap[b]? = some O) : (setAt w b O').heap[b]? = some O' := by
  have hlt : b < w.heap.size := (Array.getElem?_eq_some_iff.1 hb).1
  simp [setAt, hlt]
theorem setAt_heap_other {b b' : Nat} {O' : Obj} (hne : b' ≠ b) : (setAt w b O').heap[b']? = w.heap[b']? := by
  simp only [setAt]
  rw [Array.getElem?_setIfInBounds_ne (by omega)]
theorem setAt_setAt {b : Nat} {O O' : Obj} : setAt (setAt w b O) b O' = setAt w b O' := by
  simp [setAt]
theorem setAt_self {b : Nat} {O : Obj} (hb : w.heap[b]? = some O) : setAt w b O = w := by
  have : w.heap.setIfInBounds b O = w.heap := by
    apply Array.ext_getElem?
    intro j
    by_cases e : j = b
    · subst e
      have hlt : j < w.heap.size := (Array.getElem?_eq_some_iff.1 hb).1
      simp [hlt]
      rw [Array.getElem?_eq_getElem hlt] at hb; exact (Option.some.inj hb).symm
    · rw [Array.getElem?_setIfInBounds_ne (by omega)]
  simp [setAt, this]
theorem below_setAt {b : Nat} {O : Obj} (hB : Below w0.heap.size w0 w) (hb : w0.heap.size ≤ b) : Below w0.heap.size w0 (setAt w b O) :=
  hB.trans ⟨rfl, rfl, rfl, by simp [setAt], fun k hk => setAt_heap_other (by omega)⟩
theorem setCell_eq {b o : Nat} {C : Array Value} {e : TypeId} {fz : Nat × Nat} {v : Value} (hb : w.heap[b]? = some (.cells C e fz)) :
    w.setCell ⟨b, o, none⟩ v = setAt w b (.cells (C.setIfInBounds o v) e fz) := by
  have hlt : b < w.heap.size := (Array.getElem?_eq_some_iff.1 hb).1
  have hh : (w.setCell ⟨b, o, none⟩ v).heap = (setAt w b (.cells (C.setIfInBounds o v) e fz)).heap := by
    apply Array.ext_getElem?
    intro j
    by_cases e : j = b
    · subst e
      rw [setAt_heap_same hb]
      simp [World.setCell, Array.getElem?_modify, hb]
    · rw [setAt_heap_other e, Below.heap_setCell _ _ _ _ e]
  have h0 : w.setCell ⟨b, o, none⟩ v = { w with heap := (w.setCell ⟨b, o, none⟩ v).heap } := rfl
  rw [h0, hh]; rfl
theorem over_cons {c vs : List Value} {o : Nat} {v : Value} (ho : o < c.length) : over (c.set o v) (o + 1) vs = over c o (v :: vs) := by
  unfold over
  have h1 : (c.set o v).take (o + 1) = c.take o ++ [v] := by
    rw [List.take_add_one, List.take_set_of_le (Nat.le_refl _)]; simp [ho]
  have h2 : (c.set o v).drop (o + 1 + vs.length) = c.drop (o + (v :: vs).length) := by
    rw [List.drop_set_of_lt (by omega)]; congr 1; simp; omega
  rw [h1, h2]; simp
theorem over_nil {c : List Value} {o : Nat} : over c o [] = c := by simp [over]
def unfrozen (fz : Nat × Nat) (n : Nat) : Prop := fz.1 = fz.2 ∨ n ≤ fz.1
theorem frozen_false {b o : Nat} {C : Array Value} {e : TypeId} {fz : Nat × Nat} (hb : w.heap[b]? = some (.cells C e fz)) (hu : unfrozen fz C.size) (ho : o < C.size) : w.frozen? ⟨b, o, none⟩ = false := by
  obtain ⟨lo, hi⟩ := fz
  simp only [World.frozen?, hb, decide_eq_false_iff_not, Bool.and_eq_false_imp, decide_eq_true_eq]
  intro h1
  rcases hu with h | h <;> simp at h <;> omega
theorem run_storeCells {b : Nat} {e : TypeId} {fz : Nat × Nat} : ∀ (vs : List Value) (o i : Nat) (C : Array Value) (w : World), w.heap[b]? = some (.cells C e fz) → o + i + vs.length ≤ C.size →
    unfrozen fz C.size → (∀ v ∈ vs, v.oneCell' = true) → (storeCells ⟨b, o, none⟩ vs i).run P w = .ok () (setAt w b (.cells ⟨over C.toList (o + i) vs⟩ e fz))
  | [], o, i, C, w, hb, _, _, _ => by
    rw [over_nil]
    simp only [storeCells, Sem.run_pure]
    rw [setAt_self hb]
  | v :: vs, o, i, C, w, hb, hlen, hu, hone => by
    simp only [List.length_cons] at hlen
    have hlt : o + i < C.size := by omega
    have hc : w.cell? ⟨b, o + i, none⟩ = some C[o + i] := by rw [cell_of_heap hb]; simp [hlt]
    have hf : w.frozen? ⟨b, o + i, none⟩ = false := frozen_false hb hu hlt
    have hb1 : (setAt w b (.cells (C.setIfInBounds (o + i) v) e fz)).heap[b]? = some (.cells (C.setIfInBounds (o + i) v) e fz) := setAt_heap_same hb
    have ih := run_storeCells vs o (i + 1) (C.setIfInBounds (o + i) v) _ hb1 (by simp; omega) (by simpa using hu) (fun u hu' => hone u (List.mem_cons_of_mem _ hu'))
    simp only [storeCells, Sem.run_bind, run_store P w _ v _ (hone v List.mem_cons_self), hc, hf, Bool.false_eq_true, if_false, Result.andThen_ok, Addr.add_none, setCell_eq hb, ih, setAt_setAt]
    congr 4
    rw [Array.toList_setIfInBounds, show o + (i + 1) = o + i + 1 by omega]
    rw [over_cons (by simpa using hlt)]

theorem Rep.same_heap {w' : World} (hr : Rep P w0 ρ h w) (hh : w'.heap = w.heap) (h1 : w'.os = w.os) (h2 : w'.tape = w.tape) (h3 : w'.output = w.output) : Rep P w0 ρ h w' :=
  ⟨hr.below.trans ⟨h1, h2, h3, by rw [hh]; exact Nat.le_refl _, fun k _ => by rw [hh]⟩, fun i o hg hl => by rw [hh]; exact hr.obj i o hg hl, hr.inj, hr.fresh, hr.glob⟩
theorem Rep.drew (hr : Rep P w0 ρ h w) : Rep P w0 ρ h w.drew := hr.same_heap rfl rfl rfl rfl

/-- one object replaced by another of the same block -/
theorem Rep.setAt {i b k : Nat} {o o' : AObj} {O' : Obj} (hr : Rep P w0 ρ h w) (hg : h.get i = some o) (hl : o.live = true) (hm : o.mine = true) (hi : ρ i = some (b, k)) (hO : ORel P ρ k o' O') :
    Rep P w0 ρ (h.put i o') (Go.Ev.setAt w b O') := by
  obtain ⟨b0, k0, O0, e1, e2, e3, _⟩ := hr.obj i o hg hl
  rw [hi] at e1; cases e1
  refine ⟨below_setAt hr.below (e2 hm), ?_, ?_, ?_, hr.glob⟩
  · intro j p hj hp
    rw [AHeap.get_put] at hj
    by_cases e : j = i
    · subst e
      rw [if_pos rfl] at hj; cases hj
      exact ⟨b, k, O', hi, fun _ => e2 hm, setAt_heap_same e3, hO⟩
    · rw [if_neg e] at hj
      obtain ⟨b1, k1, O1, f1, f2, f3, f4⟩ := hr.obj j p hj hp
      refine ⟨b1, k1, O1, f1, f2, ?_, f4⟩
      rw [setAt_heap_other (fun hb => e (hr.inj j i p o b k1 k hj hg hp hl (by rw [f1, hb]) hi))]; exact f3
  · intro j j' p p' b' k1 k2 hj hj' hp hp' f1 f2
    rw [AHeap.get_put] at hj hj'
    by_cases e : j = i
    · by_cases e' : j' = i
      · rw [e, e']
      · rw [if_neg e'] at hj'
        subst e
        exact hr.inj j j' o p' b' k1 k2 hg hj' hl hp' f1 f2
    · rw [if_neg e] at hj
      by_cases e' : j' = i
      · subst e'
        exact hr.inj j j' p o b' k1 k2 hj hg hp hl f1 f2
      · rw [if_neg e'] at hj'
        exact hr.inj j j' p p' b' k1 k2 hj hj' hp hp' f1 f2
  · intro j hj
    rw [AHeap.next_put] at hj
    refine ⟨(hr.fresh j hj).1, ?_⟩
    rw [AHeap.get_put, if_neg]; exact (hr.fresh j hj).2
    intro e; subst e; rw [(hr.fresh j hj).2] at hg; cases hg
theorem Rep.kill {i : Nat} {o : AObj} (hr : Rep P w0 ρ h w) (hg : h.get i = some o) : Rep P w0 ρ (h.put i .dead) w := by
  refine ⟨hr.below, ?_, ?_, ?_, hr.glob⟩
  · intro j p hj hp
    rw [AHeap.get_put] at hj
    by_cases e : j = i
    · rw [if_pos e] at hj; cases hj; cases hp
    · rw [if_neg e] at hj; exact hr.obj j p hj hp
  · intro j j' p p' b k1 k2 hj hj' hp hp' f1 f2
    rw [AHeap.get_put] at hj hj'
    by_cases e : j = i
    · rw [if_pos e] at hj; cases hj; cases hp
    · by_cases e' : j' = i
      · rw [if_pos e'] at hj'; cases hj'; cases hp'
      · rw [if_neg e] at hj; rw [if_neg e'] at hj'; exact hr.inj j j' p p' b k1 k2 hj hj' hp hp' f1 f2
  · intro j hj
    rw [AHeap.next_put] at hj
    refine ⟨(hr.fresh j hj).1, ?_⟩
    rw [AHeap.get_put, if_neg]; exact (hr.fresh j hj).2
    intro e; subst e; rw [(hr.fresh j hj).2] at hg; cases hg
theorem Rep.upd_le (hr : Rep P w0 ρ h w) (x : Nat × Nat) : ρ.le (ρ.upd h.next x) := by
  intro i y hy
  have : i ≠ h.next := fun e => by rw [e, (hr.fresh _ (Nat.le_refl _)).1] at hy; cases hy
  simp [Ren.upd, this, hy]
theorem Ren.upd_same (ρ : Ren) (i : Nat) (x : Nat × Nat) : ρ.upd i x i = some x := by simp [Ren.upd]
/-- one object more -/
theorem Rep.add {w' : World} {b k : Nat} {o : AObj} {O : Obj} (hr : Rep P w0 ρ h w) (hB : Below w0.heap.size w0 w') (hold : ∀ b', b' ≠ b → b' < w.heap.size → w'.heap[b']? = w.heap[b']?)
    (hb : w'.heap[b]? = some O) (hno : ∀ i p k', h.get i = some p → p.live = true → ρ i = some (b, k') → False) (hm : w0.heap.size ≤ b) (hO : ORel P ρ k o O) :
    Rep P w0 (ρ.upd h.next (b, k)) (h.push o) w' := by
  have hle := hr.upd_le (b, k)
  refine ⟨hB, ?_, ?_, ?_, fun g hg => hle _ _ (hr.glob g hg)⟩
  · intro j p hj hp
    rw [AHeap.get_push] at hj
    by_cases e : j = h.next
    · rw [if_pos e] at hj; cases hj
      subst e
      exact ⟨b, k, O, Ren.upd_same _ _ _, fun _ => hm, hb, hO.mono hle⟩
    · rw [if_neg e] at hj
      obtain ⟨b1, k1, O1, f1, f2, f3, f4⟩ := hr.obj j p hj hp
      refine ⟨b1, k1, O1, hle _ _ f1, f2, ?_, f4.mono hle⟩
      rw [hold b1 (fun e' => hno j p k1 hj hp (by rw [f1, e'])) (Array.getElem?_eq_some_iff.1 f3).1]; exact f3
  · have key : ∀ j p k1, h.get j = some p → p.live = true → j ≠ h.next → Ren.upd ρ h.next (b, k) j = some (b, k1) → False := by
      intro j p k1 hj hp hne f
      simp only [Ren.upd, if_neg hne] at f
      exact hno j p k1 hj hp f
    intro j j' p p' b' k1 k2 hj hj' hp hp' f1 f2
    rw [AHeap.get_push] at hj hj'
    by_cases e : j = h.next
    · by_cases e' : j' = h.next
      · rw [e, e']
      · rw [if_neg e'] at hj'
        subst e
        rw [Ren.upd_same] at f1; cases f1
        exact (key j' p' k2 hj' hp' e' f2).elim
    · rw [if_neg e] at hj
      by_cases e' : j' = h.next
      · subst e'
        rw [Ren.upd_same] at f2; cases f2
        exact (key j p k1 hj hp e f1).elim
      · rw [if_neg e'] at hj'
        simp only [Ren.upd, if_neg e, if_neg e'] at f1 f2
        exact hr.inj j j' p p' b' k1 k2 hj hj' hp hp' f1 f2
  · intro j hj
    rw [AHeap.next_push] at hj
    have hne : j ≠ h.next := by omega
    refine ⟨by simp only [Ren.upd, if_neg hne]; exact (hr.fresh j (by omega)).1, ?_⟩
    rw [AHeap.get_push, if_neg hne]; exact (hr.fresh j (by omega)).2
/-- a new block -/
theorem Rep.new {k : Nat} {o : AObj} {O : Obj} (hr : Rep P w0 ρ h w) (hO : ORel P ρ k o O) : Rep P w0 (ρ.upd h.next (w.heap.size, k)) (h.push o) (w.alloc O) := by
  refine hr.add (hr.below.alloc hr.below.size O) (fun b' hne hlt => Below.heap_alloc w O b' hlt) ?_ ?_ hr.below.size hO
  · show (w.heap.push O)[w.heap.size]? = some O
    simp
  · intro i p k' hg hl hi
    obtain ⟨b, k1, O1, f1, _, f3, _⟩ := hr.obj i p hg hl
    rw [hi] at f1; cases f1
    have := (Array.getElem?_eq_some_iff.1 f3).1
    omega
end
end Go.Ev
