/-
  The evaluator's heap stands for the model's: 'Rep'; what reads, stores and new blocks do to it; no condition.
-/
import Derived.Test.YtahbpehdjbmndaaGreatDoorEvRel
namespace Go.Ev
open Go.RowKit

/-! ### The trie -/
def T.newT {α : Type} (x : α) : Nat → Nat → T α
  | 0, _ => .leaf
  | _ + 1, 0 => .node (some x) .leaf .leaf
  | f + 1, m + 1 => if m % 2 = 0 then .node none (T.newT x f (m / 2)) .leaf else .node none .leaf (T.newT x f (m / 2))
def T.put {α : Type} (x : α) : T α → Nat → T α
  | .leaf, n => T.newT x (n + 1) n
  | .node _ l r, 0 => .node (some x) l r
  | .node v l r, m + 1 => if m % 2 = 0 then .node v (T.put x l (m / 2)) r else .node v l (T.put x r (m / 2))
theorem boolRec_if {γ : Type} (a b : γ) (m : Nat) : (Bool.rec (motive := fun _ => γ) a b (Nat.beq (Nat.mod m 2) 0)) = if m % 2 = 0 then b else a := by
  cases hb : Nat.beq (Nat.mod m 2) 0 with
  | true => have h : m % 2 = 0 := Nat.eq_of_beq_eq_true hb; rw [if_pos h]
  | false => have h : ¬ m % 2 = 0 := fun h => by have : Nat.beq (m % 2) 0 = true := by rw [h]; rfl
                                                 rw [show Nat.beq (m % 2) 0 = false from hb] at this; cases this
             rw [if_neg h]
section
variable {α β : Type}
@[simp] theorem T.get_leaf (n : Nat) : (T.leaf : T α).get n = none := rfl
@[simp] theorem T.get_node_zero (v : Option α) (l r : T α) : (T.node v l r).get 0 = v := rfl
theorem T.get_node_succ (v : Option α) (l r : T α) (m : Nat) : (T.node v l r).get (m + 1) = if m % 2 = 0 then l.get (m / 2) else r.get (m / 2) := boolRec_if _ _ _
theorem T.newK_eq (x : α) (f : Nat) : ∀ (n : Nat) (k : T α → β), T.newK x f n k = k (T.newT x f n) := by
  induction f with
  | zero => intro n k; rfl
  | succ f ih =>
    intro n k
    cases n with
    | zero => rfl
    | succ m =>
      have h := boolRec_if (T.newK x f (Nat.div m 2) fun y => k (.node none .leaf y)) (T.newK x f (Nat.div m 2) fun y => k (.node none y .leaf)) m
      refine h.trans ?_
      simp only [T.newT, ih]
      split <;> rfl
theorem T.get_newT (x : α) (f : Nat) : ∀ (n m : Nat), n < f → (T.newT x f n).get m = if m = n then some x else none := by
  induction f with
  | zero => intro n m h; omega
  | succ f ih =>
    intro n m hn
    cases n with
    | zero =>
      cases m with
      | zero => simp [T.newT]
      | succ m => simp [T.newT, T.get_node_succ]
    | succ n =>
      simp only [T.newT]
      cases m with
      | zero => split <;> simp
      | succ m =>
        have := ih (n / 2) (m / 2) (by omega)
        split
        · rw [T.get_node_succ, this]
          split
          · by_cases h : m = n
            · subst h; simp
            · rw [if_neg (by omega), if_neg (by omega)]
          · rw [T.get_leaf, if_neg (by omega)]
        · rw [T.get_node_succ, this]
          split
          · rw [T.get_leaf, if_neg (by omega)]
          · by_cases h : m = n
            · subst h; simp
            · rw [if_neg (by omega), if_neg (by omega)]
theorem T.setK_eq (x : α) (t : T α) : ∀ (n : Nat) (k : T α → β), T.setK x t n k = k (T.put x t n) := by
  induction t with
  | leaf => intro n k; exact T.newK_eq x (n + 1) n k
  | node v l r ihl ihr =>
    intro n k
    cases n with
    | zero => rfl
    | succ m =>
      have h := boolRec_if (T.setK x r (Nat.div m 2) fun y => k (.node v l y)) (T.setK x l (Nat.div m 2) fun y => k (.node v y r)) m
      refine h.trans ?_
      simp only [T.put, ihl, ihr]
      split <;> rfl
theorem T.get_put (x : α) (t : T α) : ∀ (n m : Nat), (T.put x t n).get m = if m = n then some x else t.get m := by
  induction t with
  | leaf => intro n m; simp only [T.put]; rw [T.get_newT x _ _ _ (by omega)]; simp
  | node v l r ihl ihr =>
    intro n m
    cases n with
    | zero =>
      cases m with
      | zero => simp [T.put]
      | succ m => simp [T.put, T.get_node_succ]
    | succ n =>
      simp only [T.put]
      cases m with
      | zero => split <;> simp
      | succ m =>
        split
        · simp only [T.get_node_succ, ihl]
          split
          · by_cases h : m = n
            · subst h; simp
            · rw [if_neg (by omega), if_neg (by omega)]
          · rw [if_neg (by omega)]
        · simp only [T.get_node_succ, ihr]
          split
          · rw [if_neg (by omega)]
          · by_cases h : m = n
            · subst h; simp
            · rw [if_neg (by omega), if_neg (by omega)]
end

/-! ### The evaluator's heap -/
def AHeap.next : AHeap → Nat
  | .mk n _ => n
def AHeap.put (h : AHeap) (i : Nat) (o : AObj) : AHeap := match h with
  | .mk n t => .mk n (T.put o t i)
def AHeap.push (h : AHeap) (o : AObj) : AHeap := match h with
  | .mk n t => .mk (n + 1) (T.put o t n)
section
variable {β : Type} (h : AHeap) (o : AObj)
theorem AHeap.setK_eq (i : Nat) (k : AHeap → β) : h.setK i o k = k (h.put i o) := by cases h; exact T.setK_eq _ _ _ _
theorem AHeap.newK_eq (k : Nat → AHeap → β) : h.newK o k = k h.next (h.push o) := by
  cases h with
  | mk n t =>
    refine (T.setK_eq _ _ _ _).trans ?_
    cases n <;> rfl
@[simp] theorem AHeap.next_put (i : Nat) : (h.put i o).next = h.next := by cases h; rfl
@[simp] theorem AHeap.next_push : (h.push o).next = h.next + 1 := by cases h; rfl
theorem AHeap.get_put (i j : Nat) : (h.put i o).get j = if j = i then some o else h.get j := by cases h; exact T.get_put _ _ _ _
theorem AHeap.get_push (j : Nat) : (h.push o).get j = if j = h.next then some o else h.get j := by cases h; exact T.get_put _ _ _ _
end
theorem forceNat_eq {β : Type} (n : Nat) (k : Nat → β) : forceNat n k = k n := by cases n <;> rfl
theorem forceInt_eq {β : Type} (n : Int) (k : Int → β) : forceInt n k = k n := by cases n with
  | ofNat m => exact forceNat_eq m (fun m => k (.ofNat m))
  | negSucc m => exact forceNat_eq m (fun m => k (.negSucc m))
theorem forceBool_eq {β : Type} (b : Bool) (k : Bool → β) : forceBool b k = k b := by cases b <;> rfl
theorem forceList_eq {α β : Type} (l : List α) : ∀ (k : List α → β), forceList l k = k l := by
  induction l with
  | nil => intro k; rfl
  | cons x l ih => intro k; exact ih _
theorem forceV_eq {β : Type} (v : Value) (k : Value → β) : forceV v k = k v := by
  cases v with
  | int kd n => exact forceInt_eq n (fun n => k (.int kd n))
  | bool b => exact forceBool_eq b (fun b => k (.bool b))
  | string s => obtain ⟨⟨l⟩⟩ := s; exact forceList_eq _ _
  | _ => rfl

/-! ### Lists -/
theorem nthL_eq {α : Type} : ∀ (n : Nat) (l : List α), nthL n l = l[n]?
  | n, [] => by cases n <;> simp [nthL]
  | 0, x :: l => by simp [nthL]
  | n + 1, x :: l => by simp [nthL, nthL_eq n l]
theorem dropL_eq {α : Type} : ∀ (n : Nat) (l : List α), dropL n l = l.drop n
  | 0, l => by simp [dropL]
  | n + 1, [] => by simp [dropL]
  | n + 1, x :: l => by simp [dropL, dropL_eq n l]
theorem takeL_some {α : Type} : ∀ (n : Nat) (l m : List α), takeL n l = some m → m = l.take n ∧ n ≤ l.length
  | 0, l, m, h => by simp [takeL] at h; simp [h]
  | n + 1, [], m, h => by simp [takeL] at h
  | n + 1, x :: l, m, h => by
    simp only [takeL] at h
    cases e : takeL n l with
    | none => simp [e] at h
    | some l' =>
      simp only [e, Option.some.injEq] at h
      obtain ⟨h1, h2⟩ := takeL_some n l l' e
      subst h
      exact ⟨by simp [h1], by simp; omega⟩
theorem lenB_iff : ∀ (l : List Value) (n : Nat), lenB l n = true ↔ l.length = n
  | [], 0 => by simp [lenB]
  | [], n + 1 => by simp [lenB]
  | v :: l, 0 => by simp [lenB]
  | v :: l, n + 1 => by simp [lenB, lenB_iff l n]
section
variable {ρ : Ren}
theorem renL_drop {l m : List Value} (h : renL ρ l = some m) : ∀ n, renL ρ (l.drop n) = some (m.drop n) := by
  induction l generalizing m with
  | nil => intro n; rw [renL_nil h]; simp [renL]
  | cons v l ih =>
    obtain ⟨v', l', rfl, hv, hl⟩ := renL_cons h
    intro n
    cases n with
    | zero => simpa using h
    | succ n => simpa using ih hl n
theorem renL_take {l m : List Value} (h : renL ρ l = some m) : ∀ n, renL ρ (l.take n) = some (m.take n) := by
  induction l generalizing m with
  | nil => intro n; rw [renL_nil h]; simp [renL]
  | cons v l ih =>
    obtain ⟨v', l', rfl, hv, hl⟩ := renL_cons h
    intro n
    cases n with
    | zero => simp [renL]
    | succ n => simpa using renL_cons_mk hv (ih hl n)
theorem renL_get {l m : List Value} (h : renL ρ l = some m) {n : Nat} {v : Value} (hn : l[n]? = some v) : ∃ v', m[n]? = some v' ∧ ren ρ v = some v' := by
  induction l generalizing m n with
  | nil => simp at hn
  | cons u l ih =>
    obtain ⟨u', l', rfl, hu, hl⟩ := renL_cons h
    cases n with
    | zero => simp at hn; subst hn; exact ⟨u', by simp, hu⟩
    | succ n => simpa using ih hl (by simpa using hn)
theorem takeL_ren {l m : List Value} (h : renL ρ l = some m) {o s : Nat} {x : List Value} (hx : takeL s (dropL o l) = some x) :
    renL ρ x = some ((m.drop o).take s) ∧ s ≤ m.length - o := by
  obtain ⟨h1, h2⟩ := takeL_some _ _ _ hx
  rw [dropL_eq] at h1 h2
  subst h1
  refine ⟨renL_take (renL_drop h o) s, ?_⟩
  rw [renL_length h]; simpa using h2

/-- 'vs' laid over 'c' from place o on -/
def over (c : List Value) (o : Nat) (vs : List Value) : List Value := c.take o ++ vs ++ c.drop (o + vs.length)
theorem overL_some : ∀ (c vs d : List Value), overL c vs = some d → d = vs ++ c.drop vs.length ∧ vs.length ≤ c.length
  | c, [], d, h => by cases c <;> (simp [overL] at h; simp [h])
  | [], v :: vs, d, h => by simp [overL] at h
  | x :: c, v :: vs, d, h => by
    simp only [overL] at h
    cases e : overL c vs with
    | none => simp [e] at h
    | some d' =>
      simp only [e, Option.some.injEq] at h
      obtain ⟨h1, h2⟩ := overL_some c vs d' e
      subst h
      exact ⟨by simp [h1], by simp; omega⟩
theorem setCells_some : ∀ (o : Nat) (c vs d : List Value), setCells o c vs = some d → d = over c o vs ∧ o + vs.length ≤ c.length
  | 0, c, vs, d, h => by
    obtain ⟨h1, h2⟩ := overL_some c vs d (by cases c <;> simpa [setCells] using h)
    exact ⟨by simp [over, h1], by omega⟩
  | o + 1, [], vs, d, h => by simp [setCells] at h
  | o + 1, x :: c, vs, d, h => by
    simp only [setCells] at h
    cases e : setCells o c vs with
    | none => simp [e] at h
    | some d' =>
      simp only [e, Option.some.injEq] at h
      obtain ⟨h1, h2⟩ := setCells_some o c vs d' e
      subst h
      refine ⟨?_, by simp; omega⟩
      rw [h1]
      have : o + 1 + vs.length = (o + vs.length) + 1 := by omega
      simp [over, this]
theorem over_ren {c c' vs vs' : List Value} (hc : renL ρ c = some c') (hv : renL ρ vs = some vs') (o : Nat) : renL ρ (over c o vs) = some (over c' o vs') := by
  unfold over
  rw [← renL_length hv]
  exact renL_append (renL_append (renL_take hc o) hv) (renL_drop hc _)
theorem over_length {c vs : List Value} {o : Nat} (h : o + vs.length ≤ c.length) : (over c o vs).length = c.length := by
  unfold over; simp; omega
end
end Go.Ev
