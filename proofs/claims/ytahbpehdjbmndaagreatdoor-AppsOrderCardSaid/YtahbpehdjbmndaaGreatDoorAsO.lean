/-
  errors.As at a fault, as an oracle's word; no condition.
-/
import Derived.Test.YtahbpehdjbmndaaGreatDoorAsHit
import Derived.Test.YtahbpehdjbmndaaGreatDoorBaseB
namespace Go.Proofs.YtahbpehdjbmndaaGreatDoor
open Go.Ev Go.RowKit
/-- errors.As: no error, or a fault whose target is a variable of its type -/
noncomputable def asO : List Value → AHeap → Option OrcR
  | [.nilIface, _], h => some (.val (.bool false) h)
  | [.iface a (.pointer (some ⟨b, 0, none⟩)), .iface c (.pointer (some ⟨t, 0, none⟩))], h => bif Nat.beq a 114 && Nat.beq c 116 then (match h.get t with
    | some (.cells [_] 114 true true) => some (.val (.bool true) (h.put t (.cells [.pointer (some ⟨b, 0, none⟩)] 114 true true)))
    | _ => none) else none
  | _, _ => none
theorem asO_ok {w0 w : World} (hg : w0.cell? ⟨0, 0, none⟩ = some (.iface 244 (.agg #[.pointer (some ⟨5, 28, none⟩)]))) {args args' : List Value} {h : AHeap} {r : OrcR} (ho : asO args h = some r) {ρ : Ren} (hr : Rep Tryz.prog w0 ρ h w) (ha : renL ρ args = some args') :
    ∃ v h', r = .val v h' ∧ Calls Tryz.prog 77 ⟨args'⟩ w (Gives Tryz.prog w0 ρ v h') := by
  unfold asO at ho
  split at ho
  · rename_i t
    cases ho
    refine ⟨_, _, rfl, ?_⟩
    obtain ⟨v1, l1, rfl, h1, h2⟩ := renL_cons ha
    obtain ⟨v2, l2, rfl, h3, h4⟩ := renL_cons h2
    have := renL_nil h4; subst this
    have : v1 = .nilIface := ren_plain_eq h1 rfl
    subst this
    refine (as_nil v2 w).mono ?_
    rintro e w' ⟨rfl, rfl⟩
    exact ⟨ρ, ρ.le_refl, ren_plain ρ _ rfl, hr⟩
  · rename_i a b c t
    cases hc : (Nat.beq a 114 && Nat.beq c 116) with
    | false => rw [hc] at ho; cases ho
    | true =>
      rw [hc] at ho
      simp only [cond_true] at ho
      simp only [Bool.and_eq_true, Nat.beq_eq] at hc
      obtain ⟨rfl, rfl⟩ := hc
      split at ho
      · rename_i x hx
        cases ho
        refine ⟨_, _, rfl, ?_⟩
        obtain ⟨v1, l1, rfl, h1, h2⟩ := renL_cons ha
        obtain ⟨v2, l2, rfl, h3, h4⟩ := renL_cons h2
        have := renL_nil h4; subst this
        obtain ⟨u1, e1, rfl⟩ := ren_iface h1
        obtain ⟨u2, e2, rfl⟩ := ren_iface h3
        obtain ⟨_, b', k, f1, rfl⟩ := ren_ptr e1
        obtain ⟨_, t', k', f2, rfl⟩ := ren_ptr e2
        obtain ⟨t2, k2, O, g1, g2, g3, g4⟩ := hr.obj t _ hx rfl
        rw [f2] at g1; cases g1
        cases O <;> simp only [ORel] at g4
        rename_i C e' fz
        obtain ⟨q1, q2, q3, c', junk, q4, q5, q6, q7, q8⟩ := g4
        have hk := q2 trivial
        subst hk
        have hj := q7 rfl
        subst hj
        obtain ⟨x', l', rfl, m1, m2⟩ := renL_cons q4
        have := renL_nil m2; subst this
        have hC : C = #[x'] := by
          apply Array.ext'
          simpa using q5
        subst hC
        subst q1
        have hsz : w0.heap.size ≤ w.heap.size := hr.below.size
        have h0 : 0 < w0.heap.size := by
          rcases Nat.eq_zero_or_pos w0.heap.size with h0 | h
          · simp [World.cell?, h0] at hg
          · exact h
        have hg' : w.cell? ⟨0, 0, none⟩ = some (.iface 244 (.agg #[.pointer (some ⟨5, 28, none⟩)])) := by
          rw [hr.below.cell (p := ⟨0, 0, none⟩) h0]; exact hg
        have ht0 : w.cell? ⟨t', 0, none⟩ = some x' := by simp [World.cell?, g3]
        have hf0 : w.frozen? ⟨t', 0, none⟩ = false := by
          obtain ⟨lo, hi⟩ := fz
          have := q3 trivial
          simp [World.frozen?, g3] at this ⊢
          omega
        refine (as_hit ⟨b', 0, none⟩ ⟨t', 0, none⟩ x' w hg' ht0 hf0).mono ?_
        rintro e w' ⟨rfl, rfl⟩
        have hlt : t' < w.heap.size := (Array.getElem?_eq_some_iff.1 g3).1
        refine ⟨ρ, ρ.le_refl, ren_plain ρ _ rfl, ?_⟩
        generalize hw : ((((w.alloc _).alloc _).alloc _).alloc _) = w4
        have hB : Below w.heap.size w w4 := by
          subst hw
          exact ((((Below.refl _ _).alloc (Nat.le_refl _) _).alloc (by simp) _).alloc (by simp; omega) _).alloc (by simp; omega) _
        have hr4 := hr.later hB
        have g5 : w4.heap[t']? = some (.cells #[x'] 114 fz) := by rw [hB.block t' hlt]; exact g3
        rw [setCell_eq g5]
        exact hr4.setAt hx rfl rfl f2 ⟨rfl, fun _ => rfl, fun _ => by simpa using q3 trivial, [.pointer (some ⟨b', 0, none⟩)], [], renL_cons_mk (ren_ptr_mk f1) rfl, by simp, fun h => absurd rfl h, fun _ => rfl, fun v hv => by cases hv⟩
      · cases ho
  · cases ho
end Go.Proofs.YtahbpehdjbmndaaGreatDoor
