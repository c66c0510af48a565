/-
  The evaluator's operations are the model's: numbers, strings, nil, conversions; no condition.
-/
import Derived.Test.YtahbpehdjbmndaaGreatDoorEvOpsD
namespace Go.Ev
open Go.RowKit

/-! ### Bytes -/
theorem loop_toList (bs : ByteArray) : ∀ (k i : Nat) (r : List UInt8), bs.size - i = k → ByteArray.toList.loop bs i r = r.reverse ++ bs.data.toList.drop i := by
  intro k
  induction k with
  | zero =>
    intro i r hk
    rw [ByteArray.toList.loop, if_neg (by omega)]
    rw [List.drop_eq_nil_of_le (by have : bs.data.toList.length = bs.size := rfl; omega)]; simp
  | succ k ih =>
    intro i r hk
    have hlt : i < bs.size := by omega
    rw [ByteArray.toList.loop, if_pos hlt, ih (i + 1) _ (by omega)]
    have h2 : i < bs.data.toList.length := hlt
    rw [List.drop_eq_getElem_cons h2]
    have : bs.get! i = bs.data.toList[i] := by
      have h3 : i < bs.data.size := hlt
      show bs.data[i]! = _
      rw [getElem!_pos bs.data i h3]; simp
    rw [this]; simp
theorem toList_mk (s : List UInt8) : (⟨⟨s⟩⟩ : ByteArray).toList = s := by
  unfold ByteArray.toList
  rw [loop_toList _ _ 0 [] rfl]; simp
theorem eqBytes_iff : ∀ (a b : List UInt8), eqBytes a b = (a == b)
  | [], [] => rfl
  | [], _ :: _ => rfl
  | _ :: _, [] => rfl
  | a :: x, b :: y => by
    simp only [eqBytes, eqBytes_iff x y]
    by_cases h : a = b
    · subst h; simp
    · have hne : Nat.beq a.toNat b.toNat = false := by
        cases hb : Nat.beq a.toNat b.toNat with
        | false => rfl
        | true => exact absurd (UInt8.toNat_inj.1 (Nat.eq_of_beq_eq_true hb)) h
      have h2 : (a == b) = false := by simp [h]
      rw [hne]; simp [h]
theorem ltBytes_eq : ∀ (a b : List UInt8), ltBytes a b = Op.bytesLess a b
  | [], [] => rfl
  | _ :: _, [] => rfl
  | [], _ :: _ => rfl
  | a :: x, b :: y => by
    simp only [ltBytes, Op.bytesLess, ltBytes_eq x y]
    have h1 : Nat.blt a.toNat b.toNat = decide (a < b) := by
      rw [Bool.eq_iff_iff]
      simp only [decide_eq_true_eq, UInt8.lt_iff_toNat_lt]
      exact ⟨fun h => Nat.le_of_ble_eq_true h, fun h => Nat.ble_eq_true_of_le h⟩
    have h2 : Nat.beq a.toNat b.toNat = (a == b) := by
      rw [Bool.eq_iff_iff]
      simp only [beq_iff_eq]
      exact ⟨fun h => UInt8.toNat_inj.1 (Nat.eq_of_beq_eq_true h), fun h => by subst h; exact Nat.beq_refl _⟩
    rw [h1, h2]
    cases decide (a < b) <;> cases (a == b) <;> simp

/-! ### Integers -/
theorem intBeq_eq (a b : Int) : intBeq a b = (a == b) := by
  rw [Bool.eq_iff_iff]
  simp only [beq_iff_eq]
  cases a with
  | ofNat a =>
    cases b with
    | ofNat b => exact ⟨fun h => congrArg Int.ofNat (Nat.eq_of_beq_eq_true h), fun h => by cases h; exact Nat.beq_refl _⟩
    | negSucc b => exact ⟨(fun h => by cases h), (fun h => by cases h)⟩
  | negSucc a =>
    cases b with
    | ofNat b => exact ⟨(fun h => by cases h), (fun h => by cases h)⟩
    | negSucc b => exact ⟨fun h => congrArg Int.negSucc (Nat.eq_of_beq_eq_true h), fun h => by cases h; exact Nat.beq_refl _⟩
theorem intBlt_eq (a b : Int) : intBlt a b = decide (a < b) := by
  rw [Bool.eq_iff_iff]
  simp only [decide_eq_true_eq]
  have hblt : ∀ m n : Nat, Nat.blt m n = true ↔ m < n := fun m n => ⟨fun h => Nat.le_of_ble_eq_true h, fun h => Nat.ble_eq_true_of_le h⟩
  cases a <;> cases b <;> simp only [intBlt, hblt] <;> first | omega | skip
  all_goals simp <;> omega
theorem smallInt_wrap {n : Int} (h : smallInt n = true) : IntKind.i64.wrap n = n := by
  have hblt : ∀ m n : Nat, Nat.blt m n = true → m < n := fun m n h => Nat.le_of_ble_eq_true h
  cases n with
  | ofNat m => have := hblt _ _ h; rw [Int.ofNat_eq_natCast]; exact wrap64_small (by omega) (by omega)
  | negSucc m => have := hblt _ _ h; rw [Int.negSucc_eq]; exact wrap64_small (by omega) (by omega)
theorem wrapK_some {k : IntKind} {n : Int} {v : Value} (h : wrapK k n = some v) : v = .int k (k.wrap n) := by
  unfold wrapK at h
  cases k <;> simp only [forceInt_eq, Option.some.injEq] at h <;> first | exact h.symm | skip
  cases hs : smallInt n with
  | true => simp only [hs, cond_true, Option.some.injEq] at h; rw [smallInt_wrap hs]; exact h.symm
  | false => simp only [hs, cond_false, Option.some.injEq] at h; exact h.symm
theorem retB_some {b : Bool} {v : Value} (h : retB b = some v) : v = .bool b := by simp only [retB, forceBool_eq, Option.some.injEq] at h; exact h.symm

section
variable {P : Program} {w0 w : World} {ρ : Ren} {h : AHeap} {n : Nat} {tm : T Value} {A : Act}

theorem intOp_run {op : BinOp} {k : IntKind} {a b : Int} {v : Value} (he : intOp op k a b = some v) (t : TypeId) : (binOp op t (.int k a) (.int k b)).run P w = .ok v w := by
  unfold intOp at he
  cases op <;> simp only at he <;> first | (cases he; done) | skip
  case add => rw [wrapK_some he]; simp [binOp, Op.intArith]
  case sub => rw [wrapK_some he]; simp [binOp, Op.intArith]
  case mul => rw [wrapK_some he]; simp [binOp, Op.intArith]
  case eql => rw [retB_some he, intBeq_eq]; simp [binOp, Op.intCmp]
  case neq => rw [retB_some he, intBeq_eq]; simp [binOp, Op.intCmp, bne]
  case lss => rw [retB_some he, intBlt_eq]; simp [binOp, Op.intCmp]
  case leq => rw [retB_some he, intBlt_eq]; simp [binOp, Op.intCmp, ← Int.not_lt]
  case gtr => rw [retB_some he, intBlt_eq]; simp [binOp, Op.intCmp]
  case geq => rw [retB_some he, intBlt_eq]; simp [binOp, Op.intCmp, ← Int.not_lt]
theorem strOp_run {op : BinOp} {a b : List UInt8} {v : Value} (he : strOp op a b = some v) (t : TypeId) : (binOp op t (.string ⟨⟨a⟩⟩) (.string ⟨⟨b⟩⟩)).run P w = .ok v w ∧ plain v = true := by
  unfold strOp at he
  cases op <;> simp only at he <;> first | (cases he; done) | skip
  case add =>
    unfold addStr at he
    cases hb : Nat.ble (a.length + b.length) 9223372036854775807 with
    | false => simp [hb] at he
    | true =>
      simp only [hb, cond_true, forceList_eq, Option.some.injEq] at he
      subst he
      have hle := Nat.le_of_ble_eq_true hb
      have happ : (⟨⟨a⟩⟩ : ByteArray) ++ ⟨⟨b⟩⟩ = ⟨⟨a ++ b⟩⟩ := by
        apply ByteArray.ext; rw [ByteArray.data_append]; simp
      have hsz : (⟨⟨a⟩⟩ : ByteArray).size + (⟨⟨b⟩⟩ : ByteArray).size = a.length + b.length := rfl
      have hmax : IntKind.i64.max = 9223372036854775807 := by decide
      refine ⟨?_, rfl⟩
      simp only [binOp, Op.stringOp, hsz, hmax, happ]
      rw [if_neg (by omega)]
      rfl
  case eql => rw [retB_some he, eqBytes_iff]; exact ⟨by simp [binOp, Op.stringOp, toList_mk], rfl⟩
  case neq => rw [retB_some he, eqBytes_iff]; exact ⟨by simp [binOp, Op.stringOp, toList_mk], rfl⟩
  case lss => rw [retB_some he, ltBytes_eq]; exact ⟨by simp [binOp, Op.stringOp, toList_mk], rfl⟩
  case leq => rw [retB_some he, ltBytes_eq, eqBytes_iff]; exact ⟨by simp [binOp, Op.stringOp, toList_mk], rfl⟩
  case gtr => rw [retB_some he, ltBytes_eq, eqBytes_iff]; exact ⟨by simp [binOp, Op.stringOp, toList_mk], rfl⟩
  case geq => rw [retB_some he, ltBytes_eq]; exact ⟨by simp [binOp, Op.stringOp, toList_mk], rfl⟩

theorem unlike_run {t : TypeId} {x y x' y' : Value} (hu : unlikeNil (tk P t) x y = true) (hx : ren ρ x = some x') (hy : ren ρ y = some y') :
    (Op.equal t x' y').run P w = .ok false w ∧ (∀ op X Y, (eqGuard op t X Y x' y').run P w = .ok () w) ∧
      (∀ op, op = .eql ∨ op = .neq → binOp op t x' y' = (do let b ← Op.equal t x' y'; pure (.bool (if op = .neq then !b else b)))) := by
  have hd : ∃ d, Op.maxDepth = d + 1 := ⟨9999, rfl⟩
  obtain ⟨d, hd⟩ := hd
  unfold unlikeNil at hu
  simp only [Bool.or_eq_true, Bool.and_eq_true] at hu
  rcases hu with ⟨h1, h2⟩ | ⟨h1, h2⟩
  · unfold nilOf at h1
    split at h1
    · split at h1 <;> first | (cases h1; done) | skip
      rename_i hk
      obtain ⟨e, he⟩ := tk_ptr hk
      have hx' := ren_plain_eq hx rfl; subst hx'
      unfold notNil at h2
      rw [hk] at h2
      split at h2 <;> first | (simp at h2; done) | skip
      rename_i a
      obtain ⟨i, o, sp⟩ := a
      obtain ⟨_, b, k, _, rfl⟩ := ren_ptr hy
      refine ⟨by simp [Op.equal, hd, Op.equalIn, run_underlying' he], fun op X Y => by unfold eqGuard; split <;> simp, ?_⟩
      rintro op (rfl | rfl) <;> simp [binOp]
    · split at h1 <;> first | (cases h1; done) | skip
      rename_i hk
      have he := tk_slc hk
      have hx' := ren_plain_eq hx rfl; subst hx'
      unfold notNil at h2
      rw [hk] at h2
      split at h2 <;> first | (simp at h2; done) | skip
      obtain ⟨_, _, rfl⟩ := ren_slice_any hy
      refine ⟨by simp [Op.equal, hd, Op.equalIn, run_underlying' he], fun op X Y => by unfold eqGuard; split <;> simp, ?_⟩
      rintro op (rfl | rfl) <;> simp [binOp]
    · split at h1 <;> first | (cases h1; done) | skip
      rename_i hk
      have he := tk_map hk
      have hx' := ren_plain_eq hx rfl; subst hx'
      unfold notNil at h2
      rw [hk] at h2
      split at h2 <;> first | (simp at h2; done) | skip
      obtain ⟨b, k, _, rfl⟩ := ren_map hy
      refine ⟨by simp [Op.equal, hd, Op.equalIn, run_underlying' he], fun op X Y => by unfold eqGuard; split <;> simp, ?_⟩
      rintro op (rfl | rfl) <;> simp [binOp]
    · split at h1 <;> first | (cases h1; done) | skip
      rename_i hk
      obtain ⟨a1, a2, a3, he⟩ := tk_func hk
      have hx' := ren_plain_eq hx rfl; subst hx'
      unfold notNil at h2
      rw [hk] at h2
      split at h2 <;> first | (simp at h2; done) | skip
      obtain ⟨_, _, _, _, _, _, rfl⟩ := ren_func hy
      refine ⟨by simp [Op.equal, hd, Op.equalIn, run_underlying' he], fun op X Y => by unfold eqGuard; split <;> simp, ?_⟩
      rintro op (rfl | rfl) <;> simp [binOp]
    · split at h1 <;> first | (cases h1; done) | skip
      rename_i hk
      have he := tk_ifc hk
      have hx' := ren_plain_eq hx rfl; subst hx'
      unfold notNil at h2
      rw [hk] at h2
      split at h2 <;> first | (simp at h2; done) | skip
      obtain ⟨_, _, rfl⟩ := ren_iface hy
      refine ⟨by simp [Op.equal, hd, Op.equalIn, run_underlying' he], fun op X Y => by unfold eqGuard; split <;> simp, ?_⟩
      rintro op (rfl | rfl) <;> simp [binOp]
    · cases h1
  · unfold nilOf at h2
    split at h2
    · split at h2 <;> first | (cases h2; done) | skip
      rename_i hk
      obtain ⟨e, he⟩ := tk_ptr hk
      have hy' := ren_plain_eq hy rfl; subst hy'
      unfold notNil at h1
      rw [hk] at h1
      split at h1 <;> first | (simp at h1; done) | skip
      rename_i a
      obtain ⟨i, o, sp⟩ := a
      obtain ⟨_, b, k, _, rfl⟩ := ren_ptr hx
      refine ⟨by simp [Op.equal, hd, Op.equalIn, run_underlying' he], fun op X Y => by unfold eqGuard; split <;> simp, ?_⟩
      rintro op (rfl | rfl) <;> simp [binOp]
    · split at h2 <;> first | (cases h2; done) | skip
      rename_i hk
      have he := tk_slc hk
      have hy' := ren_plain_eq hy rfl; subst hy'
      unfold notNil at h1
      rw [hk] at h1
      split at h1 <;> first | (simp at h1; done) | skip
      obtain ⟨_, _, rfl⟩ := ren_slice_any hx
      refine ⟨by simp [Op.equal, hd, Op.equalIn, run_underlying' he], fun op X Y => by unfold eqGuard; split <;> simp, ?_⟩
      rintro op (rfl | rfl) <;> simp [binOp]
    · split at h2 <;> first | (cases h2; done) | skip
      rename_i hk
      have he := tk_map hk
      have hy' := ren_plain_eq hy rfl; subst hy'
      unfold notNil at h1
      rw [hk] at h1
      split at h1 <;> first | (simp at h1; done) | skip
      obtain ⟨b, k, _, rfl⟩ := ren_map hx
      refine ⟨by simp [Op.equal, hd, Op.equalIn, run_underlying' he], fun op X Y => by unfold eqGuard; split <;> simp, ?_⟩
      rintro op (rfl | rfl) <;> simp [binOp]
    · split at h2 <;> first | (cases h2; done) | skip
      rename_i hk
      obtain ⟨a1, a2, a3, he⟩ := tk_func hk
      have hy' := ren_plain_eq hy rfl; subst hy'
      unfold notNil at h1
      rw [hk] at h1
      split at h1 <;> first | (simp at h1; done) | skip
      obtain ⟨_, _, _, _, _, _, rfl⟩ := ren_func hx
      refine ⟨by simp [Op.equal, hd, Op.equalIn, run_underlying' he], fun op X Y => by unfold eqGuard; split <;> simp, ?_⟩
      rintro op (rfl | rfl) <;> simp [binOp]
    · split at h2 <;> first | (cases h2; done) | skip
      rename_i hk
      have he := tk_ifc hk
      have hy' := ren_plain_eq hy rfl; subst hy'
      unfold notNil at h1
      rw [hk] at h1
      split at h1 <;> first | (simp at h1; done) | skip
      obtain ⟨_, _, rfl⟩ := ren_iface hx
      refine ⟨by simp [Op.equal, hd, Op.equalIn, run_underlying' he], fun op X Y => by unfold eqGuard; split <;> simp, ?_⟩
      rintro op (rfl | rfl) <;> simp [binOp]
    · cases h2
theorem orGen_some {r : Option Value} {o : Oper} {v : Value} {h' : AHeap} (he : orGen r P o tm h = some (v, h')) : (r = some v ∧ h' = h) ∨ gen P o tm h = some (v, h') := by
  unfold orGen at he
  cases r with
  | none => exact .inr he
  | some u => simp only [Option.some.injEq, Prod.mk.injEq] at he; exact .inl ⟨by rw [he.1], he.2.symm⟩
/-! ### '==' of structs -/
theorem eqFields_ok {F : TypeId → Value → Value → Option Bool} {G : TypeId → Value → Value → Sem Bool} {xs ys xs' ys' : List Value} (hx : renL ρ xs = some xs') (hy : renL ρ ys = some ys')
    (hF : ∀ t a b a' b' r, F t a b = some r → ren ρ a = some a' → ren ρ b = some b' → (G t a' b').run P w = .ok r w) : ∀ (l : List Field) (r : Bool), eqFields P F xs ys l = some r →
    (forIn l ((none : Option Bool), ()) (fun f __s => (do
        if f.name ≠ "_" then
          let a ← part f.type ⟨xs'⟩ f.offset
          let b ← part f.type ⟨ys'⟩ f.offset
          let e ← G f.type a b
          if (!e) = true then pure (ForInStep.done (some false, ())) else pure (ForInStep.yield (none, ()))
        else pure (ForInStep.yield (none, ())) : Sem (ForInStep (Option Bool × Unit))))).run P w = .ok ((if r = true then none else some false), ()) w
  | [], r, he => by
    simp only [eqFields, Option.some.injEq] at he
    subst he
    simp
  | f :: l, r, he => by
    simp only [eqFields] at he
    rw [List.forIn_cons]
    by_cases hn : f.name = "_"
    · simp only [hn, beq_self_eq_true, cond_true] at he
      have ih := eqFields_ok hx hy hF l r he
      simp only [hn, ne_eq, not_true_eq_false, if_false, pure_bind]
      exact ih
    · have hb : (f.name == "_") = false := by simpa using hn
      simp only [hb, cond_false] at he
      cases h1 : partOf (shapeOf P f.type) xs f.offset with
      | none => simp [h1] at he
      | some a =>
        cases h2 : partOf (shapeOf P f.type) ys f.offset with
        | none => simp [h1, h2] at he
        | some b =>
          cases h3 : F f.type a b with
          | none => simp [h1, h2, h3] at he
          | some e =>
            cases h4 : eqFields P F xs ys l with
            | none => simp [h1, h2, h3, h4] at he
            | some r' =>
              simp only [h1, h2, h3, h4, Option.some.injEq] at he
              subst he
              obtain ⟨a', g1, g2⟩ := partOf_ok hx h1 w
              obtain ⟨b', g3, g4⟩ := partOf_ok hy h2 w
              have g5 := hF _ _ _ _ _ _ h3 g2 g4
              have ih := eqFields_ok hx hy hF l r' h4
              simp only [ne_eq, hn, not_false_eq_true, if_true, Sem.run_bind, g1, g3, g5, Result.andThen_ok]
              cases e with
              | false => simp
              | true => simpa using ih
theorem eqV_ok : ∀ (d k : Nat) (t : TypeId) (x y x' y' : Value) (r : Bool), eqV P d t x y = some r → ren ρ x = some x' → ren ρ y = some y' → (Op.equalIn (d + k) t x' y').run P w = .ok r w
  | 0, _, _, _, _, _, _, _, he, _, _ => by simp [eqV] at he
  | d + 1, k, t, x, y, x', y', r, he, hx, hy => by
    simp only [eqV] at he
    rw [show d + 1 + k = (d + k) + 1 by omega]
    cases hk : tk P t <;> simp only [hk] at he <;> first | (cases he; done) | skip
    case bool =>
      cases x <;> simp only at he <;> first | (cases he; done) | skip
      cases y <;> simp only at he <;> first | (cases he; done) | skip
      have e1 := ren_plain_eq hx rfl
      have e2 := ren_plain_eq hy rfl
      subst e1; subst e2
      simp only [Option.some.injEq] at he
      subst he
      have ht : P.underlying t = some .bool := by
        unfold tk at hk
        cases hd : P.underlying t with
        | none => simp [hd, tkOf] at hk
        | some d => cases d <;> simp [hd, tkOf] at hk; rfl
      unfold Op.equalIn
      simp only [Sem.run_bind, run_underlying' ht, Result.andThen_ok, Sem.run_pure]
      congr 1
    case int kd =>
      cases x <;> simp only at he <;> first | (cases he; done) | skip
      cases y <;> simp only at he <;> first | (cases he; done) | skip
      rename_i k1 a k2 b
      have e1 := ren_plain_eq hx rfl
      have e2 := ren_plain_eq hy rfl
      subst e1; subst e2
      cases hs : sameKind k1 k2 with
      | false => simp [hs] at he
      | true =>
        simp only [hs, cond_true, Option.some.injEq] at he
        subst he
        have : k1 = k2 := by simpa [sameKind] using hs
        subst this
        unfold Op.equalIn
        simp only [Sem.run_bind, run_underlying' (tk_int hk), Result.andThen_ok, if_true, Sem.run_pure]
        congr 1
    case str =>
      cases x <;> simp only at he <;> first | (cases he; done) | skip
      cases y <;> simp only at he <;> first | (cases he; done) | skip
      rename_i a b
      have e1 := ren_plain_eq hx rfl
      have e2 := ren_plain_eq hy rfl
      subst e1; subst e2
      obtain ⟨⟨a⟩⟩ := a
      obtain ⟨⟨b⟩⟩ := b
      simp only [Option.some.injEq] at he
      subst he
      unfold Op.equalIn
      simp only [Sem.run_bind, run_underlying' (tk_str hk), Result.andThen_ok, Sem.run_pure]
      have hb : ((⟨⟨a⟩⟩ : ByteArray) == ⟨⟨b⟩⟩) = ((⟨a⟩ : Array UInt8) == ⟨b⟩) := rfl
      rw [hb]
      congr 1
      rw [Bool.eq_iff_iff]; simp
    case strct fs =>
      cases x <;> simp only at he <;> first | (cases he; done) | skip
      cases y <;> simp only at he <;> first | (cases he; done) | skip
      rename_i a b
      obtain ⟨xs⟩ := a
      obtain ⟨ys⟩ := b
      simp only at he
      cases hs : P.stoodInHeld t with
      | true => simp [hs] at he
      | false =>
        simp only [hs, cond_false] at he
        obtain ⟨xs', h1, rfl⟩ := ren_agg hx
        obtain ⟨ys', h2, rfl⟩ := ren_agg hy
        have hf := eqFields_ok (w := w) h1 h2 (G := Op.equalIn (d + k)) (fun t a b a' b' r h3 h4 h5 => eqV_ok d k t a b a' b' r h3 h4 h5) fs.toList r he
        unfold Op.equalIn
        simp only [Sem.run_bind, run_underlying' (tk_strct hk), Result.andThen_ok, run_program, hs, Bool.false_eq_true, if_false]
        rw [← Array.forIn_toList, hf]
        cases r <;> simp
theorem opBin_ok (hr : Rep P w0 ρ h w) (ht : TRel ρ n tm A.tmps) {o : Oper} {op : BinOp} {t ty : TypeId} {x y : Operand} (hop : o.op = .binOp op t x y ty) {v : Value} {h' : AHeap}
    (he : opBin op t x y P o tm h = some (v, h')) : Yield P w0 ρ ((execOp A.eval o).run P w) v h' := by
  obtain ⟨a, h1, h2⟩ := with1_some he
  obtain ⟨b, h3, h4⟩ := with1_some h2
  rcases orGen_some h4 with ⟨h5, rfl⟩ | h5
  · have hav := val_ren hr ht h1
    have hbv := val_ren hr ht h3
    unfold binVal at h5
    have href : ∀ {v : Value}, refOp op (tk P t) a b = some v → Yield P w0 ρ ((execOp A.eval o).run P w) v h' := by
      intro v h5
      unfold refOp at h5
      cases op <;> simp only at h5 <;> first | (cases h5; done) | skip
      case eql =>
        cases hu : unlikeNil (tk P t) a b with
        | false => simp [hu] at h5
        | true =>
          simp only [hu, cond_true, Option.some.injEq] at h5
          subst h5
          obtain ⟨g1, g2, g3⟩ := unlike_run (w := w) hu hav hbv
          refine Yield.keep hr (v' := .bool false) ?_ (by simp [ren])
          simp [execOp, hop, g2, g3 .eql (.inl rfl), g1]
      case neq =>
        cases hu : unlikeNil (tk P t) a b with
        | false => simp [hu] at h5
        | true =>
          simp only [hu, cond_true, Option.some.injEq] at h5
          subst h5
          obtain ⟨g1, g2, g3⟩ := unlike_run (w := w) hu hav hbv
          refine Yield.keep hr (v' := .bool true) ?_ (by simp [ren])
          simp [execOp, hop, g2, g3 .neq (.inr rfl), g1]
    cases a <;> simp only at h5 <;> first | exact href h5 | skip
    case agg xs =>
      unfold aggVal at h5
      cases hgt : P.eqGuardType P.depth t with
      | true => simp [hgt] at h5
      | false =>
        simp only [hgt, cond_false] at h5
        obtain ⟨xs', g1, g2⟩ := ren_agg hav
        have hcase : ∀ e, eqV P 20 t (.agg xs) b = some e → (op = .eql ∨ op = .neq) → ∃ ys, A.eval y = .agg ys ∧ (eqGuard op t x y (A.eval x) (A.eval y)).run P w = .ok () w ∧ (Op.equal t (A.eval x) (A.eval y)).run P w = .ok e w := by
          intro e hev hop2
          have hb : ∃ ys, b = .agg ys := by
            unfold eqV at hev
            cases hk : tk P t <;> simp only [hk] at hev <;> first | (cases hev; done) | skip
            cases b <;> simp only at hev <;> first | (cases hev; done) | exact ⟨_, rfl⟩
          obtain ⟨ys, rfl⟩ := hb
          obtain ⟨ys', g3, g4⟩ := ren_agg hbv
          refine ⟨⟨ys'⟩, g4, ?_, ?_⟩
          · rw [g2, g4]
            unfold eqGuard
            rcases hop2 with rfl | rfl <;> simp [hgt]
          · exact eqV_ok 20 9980 t _ _ _ _ e hev hav hbv
        cases op <;> simp only at h5 <;> first | (cases h5; done) | skip
        case eql =>
          cases hev : eqV P 20 t (.agg xs) b with
          | none => simp [hev] at h5
          | some e =>
            simp only [hev] at h5
            rw [retB_some h5]
            obtain ⟨ys, k1, k2, k3⟩ := hcase e hev (.inl rfl)
            refine Yield.keep hr ?_ (ren_plain ρ _ rfl)
            rw [g2, k1] at k2 k3
            have hbin : (binOp .eql t (.agg ⟨xs'⟩) (.agg ys)).run P w = .ok (.bool e) w := by
              show (do pure (.bool (← Op.equal t (.agg ⟨xs'⟩) (.agg ys))) : Sem Value).run P w = _
              simp [k3]
            simp only [execOp, hop, g2, k1, Sem.run_bind, k2, Result.andThen_ok, hbin, Sem.run_pure]
        case neq =>
          cases hev : eqV P 20 t (.agg xs) b with
          | none => simp [hev] at h5
          | some e =>
            simp only [hev] at h5
            rw [retB_some h5]
            obtain ⟨ys, k1, k2, k3⟩ := hcase e hev (.inr rfl)
            refine Yield.keep hr ?_ (ren_plain ρ _ rfl)
            rw [g2, k1] at k2 k3
            have hbin : (binOp .neq t (.agg ⟨xs'⟩) (.agg ys)).run P w = .ok (.bool !e) w := by
              show (do pure (.bool (!(← Op.equal t (.agg ⟨xs'⟩) (.agg ys)))) : Sem Value).run P w = _
              simp [k3]
            simp only [execOp, hop, g2, k1, Sem.run_bind, k2, Result.andThen_ok, hbin, Sem.run_pure]
    case int k p =>
      cases b <;> simp only at h5 <;> first | (cases h5; done) | skip
      rename_i k' q
      cases hk : sameKind k k' with
      | false => simp [hk] at h5
      | true =>
        simp only [hk, cond_true] at h5
        have : k = k' := by simpa [sameKind] using hk
        subst this
        have e1 := ren_plain_eq hav rfl
        have e2 := ren_plain_eq hbv rfl
        have hv : plain v = true := by
          unfold intOp at h5
          cases op <;> simp only at h5 <;> first | (cases h5; done) | (rw [wrapK_some h5]; rfl) | (rw [retB_some h5]; rfl)
        refine Yield.keep hr ?_ (ren_plain ρ _ hv)
        have hg : (eqGuard op t x y (.int k p) (.int k q)).run P w = .ok () w := by unfold eqGuard; split <;> simp
        simp [execOp, hop, e1, e2, hg, intOp_run h5 t]
    case string s =>
      obtain ⟨⟨s⟩⟩ := s
      cases b <;> simp only at h5 <;> first | (cases h5; done) | skip
      rename_i s'
      obtain ⟨⟨s'⟩⟩ := s'
      have e1 := ren_plain_eq hav rfl
      have e2 := ren_plain_eq hbv rfl
      obtain ⟨g1, g2⟩ := strOp_run (P := P) (w := w) h5 t
      refine Yield.keep hr ?_ (ren_plain ρ _ g2)
      have hg : (eqGuard op t x y (.string ⟨⟨s⟩⟩) (.string ⟨⟨s'⟩⟩)).run P w = .ok () w := by unfold eqGuard; split <;> simp
      simp [execOp, hop, e1, e2, hg, g1]
  · exact (gen_ok hr ht h5).1
end
end Go.Ev
