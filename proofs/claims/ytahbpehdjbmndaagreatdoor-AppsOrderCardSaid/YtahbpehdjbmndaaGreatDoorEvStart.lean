/-
  The evaluator's heap for any world: every row as far as its cells are understood; no condition.
-/
import Derived.Test.YtahbpehdjbmndaaGreatDoorEvHl
namespace Go.Ev
open Go.RowKit
noncomputable section

section
variable {P : Program} {W : World}
/-- Slices of no room may have a place of no block: their blocks' numbers, too, lie under 'top'. -/
def topV (v : Value) : Nat := match v with
  | .slice (some a) _ _ => a.block + 1
  | _ => 0
def topL : List Value → Nat
  | [] => 0
  | v :: l => max (topV v) (topL l)
def topO (o : Option Obj) : Nat := match o with
  | some (.cells C _ _) => topL C.toList
  | _ => 0
def topT (W : World) : Nat → Nat
  | 0 => 0
  | n + 1 => max (topO W.heap[n]?) (topT W n)
def top (W : World) : Nat := max W.heap.size (topT W W.heap.size)
theorem topL_le {v : Value} : ∀ {l : List Value}, v ∈ l → topV v ≤ topL l
  | [], h => by cases h
  | u :: l, h => by
    simp only [topL]
    rcases List.mem_cons.1 h with rfl | h
    · omega
    · have := topL_le h; omega
theorem topT_le {i : Nat} : ∀ {n : Nat}, i < n → topO W.heap[i]? ≤ topT W n
  | 0, h => absurd h (Nat.not_lt_zero _)
  | n + 1, h => by
    simp only [topT]
    by_cases e : i = n
    · subst e; omega
    · have := topT_le (i := i) (n := n) (by omega); omega
theorem size_top : W.heap.size ≤ top W := by unfold top; omega
theorem cell_top {i : Nat} {C : Array Value} {e : TypeId} {fz : Nat × Nat} (hi : W.heap[i]? = some (.cells C e fz)) {v : Value} (hv : v ∈ C.toList) : topV v ≤ top W := by
  have h1 := topT_le (W := W) (Array.getElem?_eq_some_iff.1 hi).1
  rw [hi] at h1
  have h2 := topL_le hv
  simp only [topO] at h1
  unfold top
  omega
/-- how a cell is written -/
def enc (v : Value) : Value := match v with
  | .slice (some ⟨b, o, some s⟩) l c => .slice (some ⟨b, o, some (s + 2)⟩) l c
  | v => v
/-- a slice's cell stands for itself -/
theorem ren_cell {M : Nat} {a : Addr} {l c : Nat} (hb : a.spot = none → a.block < M) (hz : a.spot ≠ none → l = 0 ∧ c = 0) : ren (rho0 M) (enc (.slice (some a) l c)) = some (.slice (some a) l c) := by
  obtain ⟨b, o, sp⟩ := a
  cases sp with
  | none => simp only [enc]; rw [ren_slice_mk (b := b) (k := 0) (if_pos (hb rfl))]; rfl
  | some s =>
    have := hz (by simp)
    simp [enc, ren, this]
open Classical in
/-- a cell that is understood -/
def seen (N : Nat) (v : Value) : Option Value := if ren (rho0 N) (enc v) = some v then some (enc v) else none
def blockOf (N : Nat) (o : Option Obj) : Option AObj := match o with
  | some (.cells C e _) => some (.view (C.toList.map (seen N)) e)
  | _ => none
def startT (W : World) : Nat → T AObj
  | 0 => .leaf
  | n + 1 => match blockOf (top W) W.heap[n]? with
    | some o => T.put o (startT W n) n
    | none => startT W n
def start (W : World) : AHeap := .mk (top W) (startT W W.heap.size)
theorem start_next : (start W).next = top W := rfl
theorem startT_get : ∀ (n i : Nat), (startT W n).get i = if i < n then blockOf (top W) W.heap[i]? else none
  | 0, i => by simp [startT, T.get]
  | n + 1, i => by
    have ih := startT_get n i
    simp only [startT]
    cases hb : blockOf (top W) W.heap[n]? with
    | none =>
      simp only
      rw [ih]
      by_cases h1 : i < n
      · rw [if_pos h1, if_pos (by omega)]
      · rw [if_neg h1]
        by_cases h2 : i = n
        · subst h2; rw [if_pos (by omega), hb]
        · rw [if_neg (by omega)]
    | some o =>
      simp only
      rw [T.get_put, ih]
      by_cases h2 : i = n
      · subst h2; rw [if_pos rfl, if_pos (by omega), hb]
      · rw [if_neg h2]
        by_cases h1 : i < n
        · rw [if_pos h1, if_pos (by omega)]
        · rw [if_neg h1, if_neg (by omega)]
theorem start_get {i : Nat} {C : Array Value} {e : TypeId} {fz : Nat × Nat} (hi : W.heap[i]? = some (.cells C e fz)) : (start W).get i = some (.view (C.toList.map (seen (top W))) e) := by
  have hlt := (Array.getElem?_eq_some_iff.1 hi).1
  show (startT W W.heap.size).get i = _
  rw [startT_get, if_pos hlt, hi]; rfl
theorem start_some {i : Nat} {o : AObj} (h : (start W).get i = some o) : ∃ C e fz, W.heap[i]? = some (.cells C e fz) ∧ o = .view (C.toList.map (seen (top W))) e ∧ i < W.heap.size := by
  have h' : (startT W W.heap.size).get i = some o := h
  rw [startT_get] at h'
  split at h'
  · rename_i hlt
    cases hh : W.heap[i]? with
    | none => simp [hh, blockOf] at h'
    | some ob =>
      cases ob <;> simp only [hh, blockOf] at h' <;> first | (cases h'; done) | skip
      rename_i C e fz
      simp only [Option.some.injEq] at h'
      exact ⟨C, e, fz, rfl, h'.symm, hlt⟩
  · cases h'
theorem seen_some {N : Nat} {v u : Value} (h : seen N v = some u) : u = enc v ∧ ren (rho0 N) (enc v) = some v := by
  unfold seen at h
  split at h
  · rename_i hr; cases h; exact ⟨rfl, hr⟩
  · cases h
theorem seen_of {N : Nat} {v : Value} (h : ren (rho0 N) (enc v) = some v) : seen N v = some (enc v) := by unfold seen; rw [if_pos h]
theorem start_rep (hN : P.globals.size ≤ W.heap.size) : Rep P W (rho0 (top W)) (start W) W := by
  have hT := size_top (W := W)
  refine ⟨Below.refl _ _, ?_, ?_, ?_, fun g hg => if_pos (by omega)⟩
  · intro i o hi _
    obtain ⟨C, e, fz, h1, rfl, h3⟩ := start_some hi
    refine ⟨i, 0, _, if_pos (by omega), (fun h => by cases h), h1, rfl, by simp, fun j v hj => ?_⟩
    rw [List.getElem?_map] at hj
    cases hc : C.toList[j]? with
    | none => simp [hc] at hj
    | some u =>
      rw [hc] at hj
      simp only [Option.map_some, Option.some.injEq] at hj
      obtain ⟨rfl, h5⟩ := seen_some hj
      exact ⟨_, by rw [← Array.getElem?_toList]; exact hc, h5⟩
  · intro i j o o' b k k' hi hj _ _ h1 h2
    obtain ⟨_, _, _, _, _, h3⟩ := start_some hi
    obtain ⟨_, _, _, _, _, h4⟩ := start_some hj
    simp only [rho0, show i < top W by omega, show j < top W by omega, if_true, Option.some.injEq, Prod.mk.injEq] at h1 h2
    omega
  · intro i hi
    have hi : top W ≤ i := hi
    refine ⟨if_neg (by omega), ?_⟩
    cases hg : (start W).get i with
    | none => rfl
    | some o => obtain ⟨_, _, _, _, _, h3⟩ := start_some hg; omega
/-- cells that are understood are there to be read -/
theorem start_cut {i o n : Nat} {C : Array Value} {e : TypeId} {fz : Nat × Nat} (hi : W.heap[i]? = some (.cells C e fz)) {l : List Value} (hl : (C.toList.drop o).take n = l) (hn : o + n ≤ C.size)
    (hr : ∀ v ∈ l, ren (rho0 (top W)) (enc v) = some v) : rowCut (start W) i o n = some (l.map enc) := by
  unfold rowCut
  have hg := start_get hi
  have h0 : rowOf (start W) i = none := by simp [rowOf, hg]
  rw [h0]
  simp only [viewCut, hg, cutV, dropL_eq]
  rw [takeL_eq _ _ (by simp; omega)]
  simp only [← List.map_drop, ← List.map_take]
  rw [hl]
  have key : ∀ (l : List Value), (∀ v ∈ l, ren (rho0 (top W)) (enc v) = some v) → allSome (l.map (seen (top W))) = some (l.map enc) := by
    intro l
    induction l with
    | nil => intro _; rfl
    | cons v l ih =>
      intro h
      simp only [List.map_cons, seen_of (h v List.mem_cons_self), allSome, ih fun u hu => h u (List.mem_cons_of_mem _ hu)]
  exact key l hr
/-- **A CALL, OUT OF THE EVALUATOR, IN ANY WORLD.** -/
theorem start_calls {orc : Orc} (ho : OrcOk P W orc) (hN : P.globals.size ≤ W.heap.size) {f : FuncId} {args : List Value} (ha : renL (rho0 (top W)) args = some args) {b : Bool}
    (hc : CallW P orc f args (start W) fun v _ => v = .bool b) : Calls P f ⟨args⟩ W fun e w' => e = .returned (.bool b) ∧ Below W.heap.size W w' := by
  obtain ⟨v, h', ⟨fu, hl⟩, rfl⟩ := hc
  refine (ev_calls ho hl (start_rep hN) ha).mono ?_
  intro e w' hg
  cases e <;> simp only [Gives] at hg
  obtain ⟨σ, _, h1, h2⟩ := hg
  have := ren_plain_eq h1 rfl
  subst this
  exact ⟨rfl, h2.below⟩
end
end
end Go.Ev
