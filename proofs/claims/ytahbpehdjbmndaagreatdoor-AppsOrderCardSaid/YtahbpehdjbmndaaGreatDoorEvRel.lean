/-
  How a value of the evaluator stands for one of the model: 'ren'; what is known of rows of values; no condition.
-/
import Derived.Test.YtahbpehdjbmndaaGreatDoorEvRun
import Derived.Below
namespace Go.Ev

/-- From the evaluator's block numbers to the model's: the block, and how many elements of room beyond what the evaluator sees. -/
abbrev Ren := Nat → Option (Nat × Nat)
def Ren.le (ρ σ : Ren) : Prop := ∀ i x, ρ i = some x → σ i = some x
theorem Ren.le_refl (ρ : Ren) : ρ.le ρ := fun _ _ h => h
theorem Ren.le_trans {ρ σ τ : Ren} (h : ρ.le σ) (k : σ.le τ) : ρ.le τ := fun i x e => k i x (h i x e)

def renFn (ρ : Ren) : Fn → Option Fn
  | .yield l => match ρ l with
    | some (b, _) => some (.yield b)
    | none => none
  | fn => some fn

mutual
def ren (ρ : Ren) : Value → Option Value
  | .bool b => some (.bool b)
  | .int k n => some (.int k n)
  | .float k n => some (.float k n)
  | .complex k a b => some (.complex k a b)
  | .string s => some (.string s)
  | .pointer none => some (.pointer none)
  | .pointer (some a) => match a.spot, ρ a.block with
    | none, some (b, _) => some (.pointer (some ⟨b, a.off, none⟩))
    | _, _ => none
  | .slice none l c => some (.slice none l c)
  | .slice (some a) l c => match a.spot with
    | none => match ρ a.block with
      | some (b, k) => some (.slice (some ⟨b, a.off, none⟩) l (c + k))
      | none => none
    | some 0 => match ρ a.block with
      | some (b, _) => some (.slice (some ⟨b, a.off, none⟩) l c)
      | none => none
    | some 1 => match ρ a.block with
      | some (b, k) => if l = 0 then some (.slice (some ⟨b, if k = 0 then a.off else a.off + c, none⟩) l k) else none
      | none => none
    | some (s + 2) => if l = 0 ∧ c = 0 then some (.slice (some ⟨a.block, a.off, some s⟩) l c) else none
  | .map none => some (.map none)
  | .map (some i) => match ρ i with
    | some (b, _) => some (.map (some b))
    | none => none
  | .chan _ => none
  | .func fn a b => match renFn ρ fn, renA ρ a, renA ρ b with
    | some fn', some a', some b' => some (.func fn' a' b')
    | _, _, _ => none
  | .nilFunc => some .nilFunc
  | .iface t v => match ren ρ v with
    | some v' => some (.iface t v')
    | none => none
  | .nilIface => some .nilIface
  | .agg a => match renA ρ a with
    | some a' => some (.agg a')
    | none => none
  | .tuple a => match renA ρ a with
    | some a' => some (.tuple a')
    | none => none
def renA (ρ : Ren) : Array Value → Option (Array Value)
  | ⟨l⟩ => match renL ρ l with
    | some l' => some ⟨l'⟩
    | none => none
def renL (ρ : Ren) : List Value → Option (List Value)
  | [] => some []
  | v :: l => match ren ρ v, renL ρ l with
    | some v', some l' => some (v' :: l')
    | _, _ => none
end

mutual
theorem ren_plain (ρ : Ren) : ∀ v : Value, plain v = true → ren ρ v = some v
  | .bool b, _ => by simp [ren]
  | .int k n, _ => by simp [ren]
  | .float k n, _ => by simp [ren]
  | .complex k a b, _ => by simp [ren]
  | .string s, _ => by simp [ren]
  | .pointer none, _ => by simp [ren]
  | .pointer (some a), h => by simp [plain] at h
  | .slice none l c, _ => by simp [ren]
  | .slice (some a) l c, h => by simp [plain] at h
  | .map none, _ => by simp [ren]
  | .map (some i), h => by simp [plain] at h
  | .chan r, h => by simp [plain] at h
  | .func fn a b, h => by
    simp only [plain, Bool.and_eq_true] at h
    have ha := renA_plain ρ a h.1.2
    have hb := renA_plain ρ b h.2
    have hf : renFn ρ fn = some fn := by cases fn <;> simp_all [renFn]
    simp [ren, ha, hb, hf]
  | .nilFunc, _ => by simp [ren]
  | .iface t v, h => by
    have := ren_plain ρ v (by simpa [plain] using h)
    simp [ren, this]
  | .nilIface, _ => by simp [ren]
  | .agg a, h => by
    have := renA_plain ρ a (by simpa [plain] using h)
    simp [ren, this]
  | .tuple a, h => by
    have := renA_plain ρ a (by simpa [plain] using h)
    simp [ren, this]
theorem renA_plain (ρ : Ren) : ∀ a : Array Value, plainA a = true → renA ρ a = some a
  | ⟨l⟩, h => by
    have := renL_plain ρ l (by simpa [plainA] using h)
    simp [renA, this]
theorem renL_plain (ρ : Ren) : ∀ l : List Value, plainL l = true → renL ρ l = some l
  | [], _ => by simp [renL]
  | v :: l, h => by
    simp only [plainL, Bool.and_eq_true] at h
    simp [renL, ren_plain ρ v h.1, renL_plain ρ l h.2]
end

theorem renFn_mono {ρ σ : Ren} (hle : ρ.le σ) {fn fn' : Fn} (h : renFn ρ fn = some fn') : renFn σ fn = some fn' := by
  cases fn <;> simp only [renFn] at h ⊢ <;> first | exact h | skip
  rename_i l
  cases e : ρ l with
  | none => simp [e] at h
  | some x => simp [e] at h; simp [hle _ _ e, h]

mutual
theorem ren_mono {ρ σ : Ren} (hle : ρ.le σ) : ∀ (v v' : Value), ren ρ v = some v' → ren σ v = some v'
  | .bool b, _, h => by simpa [ren] using h
  | .int k n, _, h => by simpa [ren] using h
  | .float k n, _, h => by simpa [ren] using h
  | .complex k a b, _, h => by simpa [ren] using h
  | .string s, _, h => by simpa [ren] using h
  | .pointer none, _, h => by simpa [ren] using h
  | .pointer (some a), _, h => by
    simp only [ren] at h ⊢
    cases e : ρ a.block with
    | none => simp [e] at h
    | some x => simp only [e] at h; simp only [hle _ _ e]; exact h
  | .slice none l c, _, h => by simpa [ren] using h
  | .slice (some a) l c, _, h => by
    simp only [ren] at h ⊢
    cases es : a.spot with
    | some s =>
      match s, es with
      | s + 2, es => simp only [es] at h ⊢; exact h
      | 1, es =>
        simp only [es] at h ⊢
        cases e : ρ a.block with
        | none => simp [e] at h
        | some x => simp only [e] at h; simp only [hle _ _ e]; exact h
      | 0, es =>
        simp only [es] at h ⊢
        cases e : ρ a.block with
        | none => simp [e] at h
        | some x => simp only [e] at h; simp only [hle _ _ e]; exact h
    | none =>
      simp only [es] at h ⊢
      cases e : ρ a.block with
      | none => simp [e] at h
      | some x => simp only [e] at h; simp only [hle _ _ e]; exact h
  | .map none, _, h => by simpa [ren] using h
  | .map (some i), _, h => by
    simp only [ren] at h ⊢
    cases e : ρ i with
    | none => simp [e] at h
    | some x => simp only [e] at h; simp only [hle _ _ e]; exact h
  | .chan r, _, h => by simp [ren] at h
  | .func fn a b, v', h => by
    simp only [ren] at h ⊢
    cases e1 : renFn ρ fn with
    | none => simp [e1] at h
    | some fn' =>
      cases e2 : renA ρ a with
      | none => simp [e1, e2] at h
      | some a' =>
        cases e3 : renA ρ b with
        | none => simp [e1, e2, e3] at h
        | some b' =>
          simp only [e1, e2, e3] at h
          simp only [renFn_mono hle e1, renA_mono hle a a' e2, renA_mono hle b b' e3]; exact h
  | .nilFunc, _, h => by simpa [ren] using h
  | .iface t v, v', h => by
    simp only [ren] at h ⊢
    cases e : ren ρ v with
    | none => simp [e] at h
    | some x => simp only [e] at h; simp only [ren_mono hle v x e]; exact h
  | .nilIface, _, h => by simpa [ren] using h
  | .agg a, v', h => by
    simp only [ren] at h ⊢
    cases e : renA ρ a with
    | none => simp [e] at h
    | some x => simp only [e] at h; simp only [renA_mono hle a x e]; exact h
  | .tuple a, v', h => by
    simp only [ren] at h ⊢
    cases e : renA ρ a with
    | none => simp [e] at h
    | some x => simp only [e] at h; simp only [renA_mono hle a x e]; exact h
theorem renA_mono {ρ σ : Ren} (hle : ρ.le σ) : ∀ (v v' : Array Value), renA ρ v = some v' → renA σ v = some v'
  | ⟨l⟩, v', h => by
    simp only [renA] at h ⊢
    cases e : renL ρ l with
    | none => simp [e] at h
    | some x => simp only [e] at h; simp only [renL_mono hle l x e]; exact h
theorem renL_mono {ρ σ : Ren} (hle : ρ.le σ) : ∀ (v v' : List Value), renL ρ v = some v' → renL σ v = some v'
  | [], _, h => by simpa [renL] using h
  | v :: l, v', h => by
    simp only [renL] at h ⊢
    cases e1 : ren ρ v with
    | none => simp [e1] at h
    | some x =>
      cases e2 : renL ρ l with
      | none => simp [e1, e2] at h
      | some y => simp only [e1, e2] at h; simp only [ren_mono hle v x e1, renL_mono hle l y e2]; exact h
end

/-! ### Inversions -/
section
variable {ρ : Ren}
theorem ren_plain_eq {v v' : Value} (h : ren ρ v = some v') (hp : plain v = true) : v' = v := by
  rw [ren_plain ρ v hp] at h; exact (Option.some.inj h).symm
theorem renL_plain_eq {v v' : List Value} (h : renL ρ v = some v') (hp : plainL v = true) : v' = v := by
  rw [renL_plain ρ v hp] at h; exact (Option.some.inj h).symm
theorem renA_mk {l : List Value} {a : Array Value} (h : renA ρ ⟨l⟩ = some a) : ∃ l', renL ρ l = some l' ∧ a = ⟨l'⟩ := by
  simp only [renA] at h
  cases e : renL ρ l with
  | none => simp [e] at h
  | some x => simp only [e, Option.some.injEq] at h; exact ⟨x, rfl, h.symm⟩
theorem renA_toList {a a' : Array Value} (h : renA ρ a = some a') : renL ρ a.toList = some a'.toList := by
  obtain ⟨l⟩ := a
  obtain ⟨l', h1, rfl⟩ := renA_mk h
  exact h1
theorem renL_cons {v : Value} {l m : List Value} (h : renL ρ (v :: l) = some m) : ∃ v' l', m = v' :: l' ∧ ren ρ v = some v' ∧ renL ρ l = some l' := by
  simp only [renL] at h
  cases e1 : ren ρ v with
  | none => simp [e1] at h
  | some x =>
    cases e2 : renL ρ l with
    | none => simp [e1, e2] at h
    | some y => simp only [e1, e2, Option.some.injEq] at h; exact ⟨x, y, h.symm, rfl, rfl⟩
theorem renL_cons_mk {v v' : Value} {l l' : List Value} (h1 : ren ρ v = some v') (h2 : renL ρ l = some l') : renL ρ (v :: l) = some (v' :: l') := by
  simp [renL, h1, h2]
theorem renL_nil {m : List Value} (h : renL ρ [] = some m) : m = [] := by simpa [renL] using h.symm
theorem renL_length {l m : List Value} (h : renL ρ l = some m) : m.length = l.length := by
  induction l generalizing m with
  | nil => rw [renL_nil h]
  | cons v l ih =>
    obtain ⟨v', l', rfl, _, h2⟩ := renL_cons h
    simp [ih h2]
theorem renL_append {l m : List Value} {l' m' : List Value} (h1 : renL ρ l = some l') (h2 : renL ρ m = some m') : renL ρ (l ++ m) = some (l' ++ m') := by
  induction l generalizing l' with
  | nil => rw [renL_nil h1]; simpa using h2
  | cons v l ih =>
    obtain ⟨v', l'', rfl, hv, hl⟩ := renL_cons h1
    simpa using renL_cons_mk hv (ih hl)

theorem ren_ptr {i o : Nat} {sp : Option Nat} {v' : Value} (h : ren ρ (.pointer (some ⟨i, o, sp⟩)) = some v') :
    sp = none ∧ ∃ b k, ρ i = some (b, k) ∧ v' = .pointer (some ⟨b, o, none⟩) := by
  simp only [ren] at h
  cases sp with
  | some s => simp at h
  | none =>
    cases e : ρ i with
    | none => simp [e] at h
    | some x => obtain ⟨b, k⟩ := x; simp only [e, Option.some.injEq] at h; exact ⟨rfl, b, k, rfl, h.symm⟩
theorem ren_ptr_mk {i o b k : Nat} (h : ρ i = some (b, k)) : ren ρ (.pointer (some ⟨i, o, none⟩)) = some (.pointer (some ⟨b, o, none⟩)) := by simp [ren, h]
theorem ren_slice {i o l c : Nat} {v' : Value} (h : ren ρ (.slice (some ⟨i, o, none⟩) l c) = some v') :
    ∃ b k, ρ i = some (b, k) ∧ v' = .slice (some ⟨b, o, none⟩) l (c + k) := by
  simp only [ren] at h
  cases e : ρ i with
  | none => simp [e] at h
  | some x => obtain ⟨b, k⟩ := x; simp only [e, Option.some.injEq] at h; exact ⟨b, k, rfl, h.symm⟩
/-- a slice whose room is just what is told -/
theorem ren_cap {i o l c : Nat} {v' : Value} (h : ren ρ (.slice (some ⟨i, o, some 0⟩) l c) = some v') :
    ∃ b k, ρ i = some (b, k) ∧ v' = .slice (some ⟨b, o, none⟩) l c := by
  simp only [ren] at h
  cases e : ρ i with
  | none => simp [e] at h
  | some x => obtain ⟨b, k⟩ := x; simp only [e, Option.some.injEq] at h; exact ⟨b, k, rfl, h.symm⟩
theorem ren_cap_mk {i o l c b k : Nat} (h : ρ i = some (b, k)) : ren ρ (.slice (some ⟨i, o, some 0⟩) l c) = some (.slice (some ⟨b, o, none⟩) l c) := by simp [ren, h]
/-- a slice of no room at a place that is no cell's -/
theorem ren_odd {i o l c s : Nat} {v' : Value} (h : ren ρ (.slice (some ⟨i, o, some (s + 2)⟩) l c) = some v') : l = 0 ∧ c = 0 ∧ v' = .slice (some ⟨i, o, some s⟩) l c := by
  simp only [ren] at h
  split at h
  · rename_i hz; cases h; exact ⟨hz.1, hz.2, rfl⟩
  · cases h
/-- a slice with a mark: its length, its room -/
theorem ren_mark {i o l c s : Nat} {v' : Value} (hs : s ≠ 1) (h : ren ρ (.slice (some ⟨i, o, some s⟩) l c) = some v') : ∃ a', v' = .slice (some a') l c := by
  match s, hs with
  | 0, _ => obtain ⟨b, k, _, rfl⟩ := ren_cap h; exact ⟨_, rfl⟩
  | s + 2, _ => obtain ⟨_, _, rfl⟩ := ren_odd h; exact ⟨_, rfl⟩
/-- the empty end of a row whose room is not known -/
theorem ren_tail {i o l c : Nat} {v' : Value} (h : ren ρ (.slice (some ⟨i, o, some 1⟩) l c) = some v') : ∃ b k, ρ i = some (b, k) ∧ l = 0 ∧ v' = .slice (some ⟨b, if k = 0 then o else o + c, none⟩) l k := by
  simp only [ren] at h
  cases e : ρ i with
  | none => simp [e] at h
  | some x =>
    obtain ⟨b, k⟩ := x
    simp only [e] at h
    split at h
    · rename_i hz; exact ⟨b, k, rfl, hz, (Option.some.inj h).symm⟩
    · cases h
theorem ren_tail_mk {i o c b k : Nat} (h : ρ i = some (b, k)) : ren ρ (.slice (some ⟨i, o, some 1⟩) 0 c) = some (.slice (some ⟨b, if k = 0 then o else o + c, none⟩) 0 k) := by simp [ren, h]
theorem ren_slice_any {a : Addr} {l c : Nat} {v' : Value} (h : ren ρ (.slice (some a) l c) = some v') : ∃ a' c', v' = .slice (some a') l c' := by
  obtain ⟨i, o, sp⟩ := a
  cases sp with
  | none => obtain ⟨b, k, _, rfl⟩ := ren_slice h; exact ⟨_, _, rfl⟩
  | some s =>
    by_cases hs : s = 1
    · subst hs; obtain ⟨_, _, _, _, rfl⟩ := ren_tail h; exact ⟨_, _, rfl⟩
    · obtain ⟨_, rfl⟩ := ren_mark hs h; exact ⟨_, _, rfl⟩
theorem ren_slice_mk {i o l c b k : Nat} (h : ρ i = some (b, k)) : ren ρ (.slice (some ⟨i, o, none⟩) l c) = some (.slice (some ⟨b, o, none⟩) l (c + k)) := by simp [ren, h]
theorem ren_map {i : Nat} {v' : Value} (h : ren ρ (.map (some i)) = some v') : ∃ b k, ρ i = some (b, k) ∧ v' = .map (some b) := by
  simp only [ren] at h
  cases e : ρ i with
  | none => simp [e] at h
  | some x => obtain ⟨b, k⟩ := x; simp only [e, Option.some.injEq] at h; exact ⟨b, k, rfl, h.symm⟩
theorem ren_map_mk {i b k : Nat} (h : ρ i = some (b, k)) : ren ρ (.map (some i)) = some (.map (some b)) := by simp [ren, h]
theorem ren_agg {a : Array Value} {v' : Value} (h : ren ρ (.agg a) = some v') : ∃ l, renL ρ a.toList = some l ∧ v' = .agg ⟨l⟩ := by
  simp only [ren] at h
  cases e : renA ρ a with
  | none => simp [e] at h
  | some x => simp only [e, Option.some.injEq] at h; exact ⟨x.toList, renA_toList e, h.symm⟩
theorem ren_agg_mk {l l' : List Value} (h : renL ρ l = some l') : ren ρ (.agg ⟨l⟩) = some (.agg ⟨l'⟩) := by simp [ren, renA, h]
theorem ren_tuple {a : Array Value} {v' : Value} (h : ren ρ (.tuple a) = some v') : ∃ l, renL ρ a.toList = some l ∧ v' = .tuple ⟨l⟩ := by
  simp only [ren] at h
  cases e : renA ρ a with
  | none => simp [e] at h
  | some x => simp only [e, Option.some.injEq] at h; exact ⟨x.toList, renA_toList e, h.symm⟩
theorem ren_tuple_mk {l l' : List Value} (h : renL ρ l = some l') : ren ρ (.tuple ⟨l⟩) = some (.tuple ⟨l'⟩) := by simp [ren, renA, h]
theorem ren_iface {t : TypeId} {v v' : Value} (h : ren ρ (.iface t v) = some v') : ∃ u, ren ρ v = some u ∧ v' = .iface t u := by
  simp only [ren] at h
  cases e : ren ρ v with
  | none => simp [e] at h
  | some x => simp only [e, Option.some.injEq] at h; exact ⟨x, rfl, h.symm⟩
theorem ren_iface_mk {t : TypeId} {v u : Value} (h : ren ρ v = some u) : ren ρ (.iface t v) = some (.iface t u) := by simp [ren, h]
theorem ren_func {fn : Fn} {a b : Array Value} {v' : Value} (h : ren ρ (.func fn a b) = some v') :
    ∃ fn' la lb, renFn ρ fn = some fn' ∧ renL ρ a.toList = some la ∧ renL ρ b.toList = some lb ∧ v' = .func fn' ⟨la⟩ ⟨lb⟩ := by
  simp only [ren] at h
  cases e1 : renFn ρ fn with
  | none => simp [e1] at h
  | some fn' =>
    cases e2 : renA ρ a with
    | none => simp [e1, e2] at h
    | some a' =>
      cases e3 : renA ρ b with
      | none => simp [e1, e2, e3] at h
      | some b' =>
        simp only [e1, e2, e3, Option.some.injEq] at h
        exact ⟨fn', a'.toList, b'.toList, rfl, renA_toList e2, renA_toList e3, h.symm⟩
theorem ren_func_mk {fn fn' : Fn} {a a' b b' : List Value} (h1 : renFn ρ fn = some fn') (h2 : renL ρ a = some a') (h3 : renL ρ b = some b') :
    ren ρ (.func fn ⟨a⟩ ⟨b⟩) = some (.func fn' ⟨a'⟩ ⟨b'⟩) := by simp [ren, renA, h1, h2, h3]
theorem ren_undef : ren ρ undef = some undef := ren_plain ρ _ rfl

def SameShape (v v' : Value) : Prop := match v with
  | .agg _ => ∃ a, v' = .agg a
  | .tuple _ => ∃ a, v' = .tuple a
  | _ => v'.oneCell' = true
theorem ren_shape {v v' : Value} (h : ren ρ v = some v') : SameShape v v' := by
  cases v with
  | agg a => obtain ⟨l, _, rfl⟩ := ren_agg h; exact ⟨_, rfl⟩
  | tuple a => obtain ⟨l, _, rfl⟩ := ren_tuple h; exact ⟨_, rfl⟩
  | pointer a =>
    cases a with
    | none => rw [ren_plain_eq h rfl]; rfl
    | some a => obtain ⟨i, o, sp⟩ := a; obtain ⟨_, b, k, _, rfl⟩ := ren_ptr h; rfl
  | slice a l c =>
    cases a with
    | none => rw [ren_plain_eq h rfl]; rfl
    | some a => obtain ⟨_, _, rfl⟩ := ren_slice_any h; rfl
  | map r =>
    cases r with
    | none => rw [ren_plain_eq h rfl]; rfl
    | some a => obtain ⟨b, k, _, rfl⟩ := ren_map h; rfl
  | func fn a b => obtain ⟨_, _, _, _, _, _, rfl⟩ := ren_func h; rfl
  | iface t v => obtain ⟨u, _, rfl⟩ := ren_iface h; rfl
  | chan r => simp [ren] at h
  | _ => rw [ren_plain_eq h rfl]; rfl
theorem cells_of_oneCell {v : Value} (h : v.oneCell' = true) : v.cells = #[v] := by cases v <;> first | rfl | simp [Value.oneCell'] at h
theorem cellsL_of_oneCell {v : Value} (h : oneCell v = true) : cellsL v = [v] := by cases v <;> first | rfl | simp [oneCell] at h
theorem cellsL_ren {v v' : Value} (h : ren ρ v = some v') : renL ρ (cellsL v) = some v'.cells.toList := by
  have hs := ren_shape h
  cases v with
  | agg a =>
    obtain ⟨l, h1, rfl⟩ := ren_agg h
    obtain ⟨m⟩ := a
    exact h1
  | tuple a =>
    obtain ⟨a', rfl⟩ := hs
    exact renL_cons_mk h (by simp [renL])
  | _ =>
    rw [cells_of_oneCell hs]
    exact renL_cons_mk h (by simp [renL])
theorem oneCell_ren {v v' : Value} (h : ren ρ v = some v') (ho : oneCell v = true) : v'.oneCell' = true := by
  have hs := ren_shape h
  cases v with
  | agg a => simp [oneCell] at ho
  | tuple a => simp [oneCell] at ho
  | _ => exact hs
end
end Go.Ev
