/-
  The symbolic executor is the evaluator: operations; no condition.
-/
import Derived.Test.YtahbpehdjbmndaaGreatDoorEvSx
namespace Go.Ev
open Go.RowKit

section
variable {P : Program} {orc : Orc} {tm : T Value} {h : AHeap} {o : Oper} {K : OpK} {n : Nat}

def OperOk (P : Program) (orc : Orc) (o : Oper) (tm : T Value) (h : AHeap) (K : OpK) : Prop :=
  ∃ f v h', (∀ g, f ≤ g → evOper o.op (ev P orc g) P o tm h = some (v, h')) ∧ K v h'
theorem OpW.ok {x : Out} (hx : OpW x K) (hr : ∀ g, evOper o.op (ev P orc g) P o tm h = x) : OperOk P orc o tm h K := by
  obtain ⟨v, h', h1, h2⟩ := hx
  exact ⟨0, v, h', fun g _ => (hr g).trans h1, h2⟩
theorem okV {v : Value} {h' : AHeap} (hk : K v h') (hr : ∀ g, evOper o.op (ev P orc g) P o tm h = some (v, h')) : OperOk P orc o tm h K := ⟨0, v, h', fun g _ => hr g, hk⟩
theorem sx1_some {x : Operand} {k : Value → Prop} (hs : sx1 P x tm k) : ∃ v, val? P x tm = some v ∧ k v := by
  unfold sx1 at hs
  cases e : val? P x tm with
  | none => simp [e] at hs
  | some v => simp only [e] at hs; exact ⟨v, rfl, hs⟩
theorem with1_mk {x : Operand} {v : Value} {k : Value → Out} (hv : val? P x tm = some v) : with1 P x tm k = k v := by
  unfold with1; rw [hv]
theorem ptrW_some {v : Value} {k : Nat → Nat → Prop} (hs : ptrW v k) : ∃ i o, v = .pointer (some ⟨i, o, none⟩) ∧ k i o := by
  unfold ptrW at hs
  cases v <;> simp only at hs <;> first | (exact hs.elim) | skip
  rename_i a
  cases a with
  | none => exact hs.elim
  | some a =>
    obtain ⟨i, o, sp⟩ := a
    cases sp with
    | some s => exact hs.elim
    | none => exact ⟨i, o, rfl, hs⟩
theorem sliceW_some {v : Value} {k : Nat → Nat → Nat → Nat → Prop} (hs : sliceW v k) : ∃ i o l c, v = .slice (some ⟨i, o, none⟩) l c ∧ k i o l c := by
  unfold sliceW at hs
  cases v <;> simp only at hs <;> first | (exact hs.elim) | skip
  rename_i a l c
  cases a with
  | none => exact hs.elim
  | some a =>
    obtain ⟨i, o, sp⟩ := a
    cases sp with
    | some s => exact hs.elim
    | none => exact ⟨i, o, l, c, rfl, hs⟩
theorem intW_some {v : Value} {k : Int → Prop} (hs : intW' v k) : ∃ kd z, v = .int kd z ∧ k z := by
  unfold intW' at hs
  cases v <;> simp only at hs <;> first | (exact hs.elim) | skip
  exact ⟨_, _, rfl, hs⟩
theorem CondW.elim {b : Bool} {p q : Prop} (hc : CondW b p q) : if b = true then p else q := by
  obtain ⟨hp, hq⟩ := hc
  cases b with
  | true => simpa using hp rfl
  | false => simpa using hq rfl
theorem pickW_ok {t : Bool} {av bv : Value} {k : Value → Prop} (hs : pickW t av bv k) : k (if t = true then av else bv) := by
  have hsplit : ∀ {av bv : Value}, CondW t (k av) (k bv) → k (if t = true then av else bv) := by
    intro av bv hc
    have := hc.elim
    cases t <;> simpa using this
  unfold pickW at hs
  cases av with
  | bool p =>
    cases bv with
    | bool q => cases t <;> simpa using hs
    | tuple b => cases t <;> simpa using hs
    | _ => exact hsplit hs
  | tuple a => cases t <;> simpa using hs
  | _ => exact hsplit hs
theorem litN_ok {s : Nat} {k : Nat → Prop} (hs : litN s k) : k s := by
  unfold litN at hs
  have step : ∀ {s j : Nat} {q : Prop}, (bif Nat.beq s j then k j else q) → (¬ s = j → q → k s) → k s := by
    intro s j q h1 h2
    cases hb : Nat.beq s j with
    | true => rw [hb] at h1; rw [Nat.eq_of_beq_eq_true hb]; exact h1
    | false => rw [hb] at h1; exact h2 (fun e => by subst e; rw [Nat.beq_refl] at hb; cases hb) h1
  refine step hs fun _ hs => step hs fun _ hs => step hs fun _ hs => step hs fun _ hs => step hs fun _ hs => step hs fun _ hs => step hs fun _ hs => step hs fun _ hs => step hs fun _ hs => step hs fun _ hs => step hs fun _ hs => step hs fun _ hs => step hs fun _ hs => step hs fun _ hs => step hs fun _ hs => step hs fun _ hs => step hs fun _ hs => hs
theorem shape_ok {sh : Shape} {i off : Nat} {k : Value → Prop} (hs : ldShape h sh i off k) : ∃ v, loadAt h sh i off = some v ∧ k v := by
  unfold ldShape at hs
  cases sh with
  | one => obtain ⟨v, h1, h2⟩ := hs; exact ⟨v, h1, h2⟩
  | bad => exact hs.elim
  | agg s => obtain ⟨v, h1, h2⟩ := litN_ok hs; exact ⟨v, h1, h2⟩
theorem offW_ok {a off : Nat} {k : Nat → Prop} (hs : offW a off k) : k (a + off) := by
  unfold offW at hs
  cases hb : Nat.beq off 0 with
  | true => rw [hb] at hs; rw [Nat.eq_of_beq_eq_true hb]; exact hs
  | false => rw [hb] at hs; exact litN_ok (k := fun off => k (a + off)) hs
theorem natOf_int {kd : IntKind} {i : Int} (h0 : 0 ≤ i) : natOf (.int kd i) = some i.toNat := by
  cases i with
  | ofNat m => rfl
  | negSucc m => exact absurd h0 (by omega)
theorem elemW_ok {i : Int} {len b off : Nat} {sz : Option Nat} (hs : elemW i len b off sz h K) {kd : IntKind} : ∃ s, sz = some s ∧ natOf (.int kd i) = some i.toNat ∧ elemAddr i.toNat len b off sz = some (.pointer (some ⟨b, off + i.toNat * s, none⟩)) ∧ K (.pointer (some ⟨b, off + i.toNat * s, none⟩)) h := by
  unfold elemW at hs
  cases sz with
  | none => exact hs.elim
  | some s =>
    obtain ⟨⟨h1, h2⟩, h3⟩ := hs
    have h3 : K (.pointer (some ⟨b, off + i.toNat * s, none⟩)) h := by
      cases hb : Nat.beq s 1 with
      | true => rw [hb] at h3; rw [Nat.eq_of_beq_eq_true hb, Nat.mul_one]; exact h3
      | false => rw [hb] at h3; exact litN_ok (k := fun s => K (.pointer (some ⟨b, off + i.toNat * s, none⟩)) h) h3
    refine ⟨s, rfl, natOf_int h1, ?_, h3⟩
    have hb : Nat.blt i.toNat len = true := Nat.ble_eq_true_of_le (show i.toNat + 1 ≤ len by omega)
    simp [elemAddr, hb, ptrTo, forceNat_eq]
theorem wrap_small {x : Int} (h1 : -9223372036854775808 ≤ x ∧ x ≤ 9223372036854775807) : IntKind.i64.wrap x = x := wrap64_small (by omega) (by omega)
theorem wrapK_eq (k : IntKind) (x : Int) : wrapK k x = some (.int k (k.wrap x)) := by
  unfold wrapK
  cases k <;> simp only [forceInt_eq]
  cases hs : smallInt x with
  | true => simp only [cond_true, smallInt_wrap hs]
  | false => rfl
theorem arW_ok {k : IntKind} {x : Int} {kk : Int → Prop} (hs : arW k x kk) : kk (k.wrap x) := by
  unfold arW at hs
  cases k with
  | i64 =>
    cases hs with
    | small h1 h2 => rw [wrap_small h1]; exact h2
    | any h1 => exact h1
  | _ => exact hs
theorem retB_eq (b : Bool) : retB b = some (.bool b) := by simp [retB, forceBool_eq]
theorem decide_le_not (a b : Int) : decide (a ≤ b) = !decide (b < a) := by
  rw [← decide_not, decide_eq_decide]; omega
theorem intBin_ok {op : BinOp} {k : IntKind} {x y : Int} {dflt : Prop} {kk : Value → Prop} (hs : intBinW op k x y dflt kk) : (∃ v, intOp op k x y = some v ∧ kk v) ∨ dflt := by
  unfold intBinW at hs
  cases op <;> simp only at hs <;> first | (exact .inr hs) | (left; skip)
  case add => exact ⟨_, wrapK_eq k _, arW_ok hs⟩
  case sub => exact ⟨_, wrapK_eq k _, arW_ok hs⟩
  case mul => exact ⟨_, wrapK_eq k _, arW_ok hs⟩
  case eql => exact ⟨_, by simp only [intOp, retB_eq, intBeq_eq]; rfl, hs⟩
  case neq => exact ⟨_, by simp only [intOp, retB_eq, intBeq_eq]; rfl, hs⟩
  case lss => exact ⟨_, by simp only [intOp, retB_eq, intBlt_eq], hs⟩
  case leq => exact ⟨_, by simp only [intOp, retB_eq, intBlt_eq, decide_le_not], hs⟩
  case gtr => exact ⟨_, by simp only [intOp, retB_eq, intBlt_eq], hs⟩
  case geq => exact ⟨_, by simp only [intOp, retB_eq, intBlt_eq, decide_le_not], hs⟩
theorem agg_ok {op : BinOp} {t : TypeId} {x y : Value} {dflt : Prop} {kk : Value → Prop} (hs : aggW P op t x y dflt kk) : (∃ v, aggVal P op t x y = some v ∧ kk v) ∨ dflt := by
  unfold aggW at hs
  cases op <;> simp only at hs <;> first | (exact .inr hs) | skip
  case eql =>
    cases hs with
    | other hd => exact .inr hd
    | mk b hg he hk => exact .inl ⟨_, by simp only [aggVal, hg, cond_false, he, retB_eq], hk⟩
  case neq =>
    cases hs with
    | other hd => exact .inr hd
    | mk b hg he hk => exact .inl ⟨_, by simp only [aggVal, hg, cond_false, he, retB_eq], hk⟩
theorem eqBytes_dec (a b : List UInt8) : eqBytes a b = decide (a = b) := by rw [eqBytes_iff]; exact Bool.eq_iff_iff.2 (by simp)
theorem strBin_ok {op : BinOp} {a b : List UInt8} {dflt : Prop} {kk : Value → Prop} (hs : strBinW op a b dflt kk) : (∃ v, strOp op a b = some v ∧ kk v) ∨ dflt := by
  unfold strBinW at hs
  cases op <;> simp only at hs <;> first | (exact .inr hs) | (left; skip)
  case add =>
    obtain ⟨h1, h2⟩ := hs
    refine ⟨_, ?_, h2⟩
    simp only [strOp, addStr, Nat.ble_eq_true_of_le h1, cond_true, forceList_eq]
  case eql => exact ⟨_, by simp only [strOp, retB_eq, eqBytes_dec], hs⟩
  case neq => exact ⟨_, by simp only [strOp, retB_eq, eqBytes_dec], hs⟩
  case lss => exact ⟨_, by simp only [strOp, retB_eq], hs⟩
theorem orGen_mk {v : Value} : orGen (some v) P o tm h = some (v, h) := rfl
theorem takeL_all : ∀ (m : Nat) (l : List UInt8), m ≤ l.length → takeL m l = some (l.take m)
  | 0, l, _ => by simp [takeL]
  | m + 1, [], hl => by simp at hl
  | m + 1, x :: l, hl => by
    have := takeL_all m l (by simpa using hl)
    simp [takeL, this]
theorem cutW_ok {s : List UInt8} {lo hi : Option Value} (hs : cutW s lo hi h K) : ∃ v, cutStr s lo hi = some v ∧ K v h := by
  have key : ∀ (l u : Nat), l ≤ u → u ≤ s.length → boundOf 0 lo = some l → boundOf s.length hi = some u → cutStr s lo hi = some (.string ⟨⟨(s.drop l).take (u - l)⟩⟩) := by
    intro l u h1 h2 h3 h4
    simp only [cutStr, h3, h4, Nat.ble_eq_true_of_le h1, Nat.ble_eq_true_of_le h2, Bool.and_self, cond_true, dropL_eq]
    rw [takeL_all _ _ (by simp; omega)]
  unfold cutW at hs
  cases lo with
  | none =>
    cases hi with
    | none =>
      refine ⟨_, key 0 s.length (by omega) (Nat.le_refl _) rfl rfl, ?_⟩
      simpa using hs
    | some u =>
      obtain ⟨kd, z, rfl, h0⟩ := intW_some hs
      obtain ⟨⟨h1, h2⟩, h3⟩ := h0
      refine ⟨_, key 0 z.toNat (by omega) (by omega) rfl (natOf_int (kd := kd) h1), ?_⟩
      simpa using h3
  | some l =>
    obtain ⟨kd, z, rfl, hs1⟩ := intW_some hs
    cases hi with
    | none =>
      obtain ⟨⟨h1, h2⟩, h3⟩ := hs1
      refine ⟨_, key z.toNat s.length (by omega) (Nat.le_refl _) (natOf_int (kd := kd) h1) rfl, ?_⟩
      rw [List.take_of_length_le (by simp)]
      exact h3
    | some u =>
      obtain ⟨kd', y, rfl, h0⟩ := intW_some hs1
      obtain ⟨⟨h1, h2, h4⟩, h3⟩ := h0
      exact ⟨_, key z.toNat y.toNat (by omega) (by omega) (natOf_int (kd := kd) h1) (natOf_int (kd := kd') (by omega)), h3⟩
theorem args_ok : ∀ {l : List Operand} {k : List Value → Prop}, sxArgs P tm l k → ∃ vs, vals? P tm l = some vs ∧ k vs
  | [], k, hs => ⟨[], rfl, hs⟩
  | x :: l, k, hs => by
    have hs' : sx1 P x tm fun v => sxArgs P tm l fun vs => k (v :: vs) := hs
    obtain ⟨v, h1, h2⟩ := sx1_some hs'
    obtain ⟨vs, h3, h4⟩ := args_ok h2
    exact ⟨v :: vs, by simp [vals?, h1, h3], h4⟩
theorem arg1_ok {args : List Operand} {k : Value → Prop} (hs : sxArg1 P args tm k) : ∃ x v, args = [x] ∧ val? P x tm = some v ∧ k v := by
  unfold sxArg1 at hs
  cases args with
  | nil => exact hs.elim
  | cons x l =>
    cases l with
    | cons y l => exact hs.elim
    | nil => obtain ⟨v, h1, h2⟩ := sx1_some hs; exact ⟨x, v, rfl, h1, h2⟩
theorem arg2_ok {args : List Operand} {k : Value → Value → Prop} (hs : sxArg2 P args tm k) : ∃ x y v w, args = [x, y] ∧ val? P x tm = some v ∧ val? P y tm = some w ∧ k v w := by
  unfold sxArg2 at hs
  cases args with
  | nil => exact hs.elim
  | cons x l =>
    obtain ⟨v, h1, h2⟩ := sx1_some hs
    obtain ⟨y, w, rfl, h3, h4⟩ := arg1_ok h2
    exact ⟨x, y, v, w, rfl, h1, h3, h4⟩
theorem optW_ok {x : Option Operand} {k : Option Value → Prop} (hs : optW P tm x k) : ∃ v, (∀ q : Option Value → Out, optVal P tm x q = q v) ∧ k v := by
  unfold optW at hs
  cases x with
  | none => exact ⟨none, fun q => rfl, hs⟩
  | some x =>
    obtain ⟨v, h1, h2⟩ := sx1_some hs
    exact ⟨some v, fun q => by simp [optVal, h1], h2⟩

theorem sxCall_ok {c : Call} (hop : o.op = .call c) (hs : sxCall P orc c o tm h K) : OperOk P orc o tm h K := by
  have hrun : ∀ g, evOper o.op (ev P orc g) P o tm h = opCall c (ev P orc g) P o tm h := fun g => by rw [hop]; rfl
  unfold sxCall at hs
  cases hc : c.callee with
  | invoke r name =>
    simp only [hc] at hs
    obtain ⟨rv, h1, ha⟩ := sx1_some hs
    obtain ⟨vs, h2, hb⟩ := args_ok ha
    clear hs ha
    unfold ifaceW at hb
    cases rv <;> simp only at hb <;> first | (exact hb.elim) | skip
    rename_i t u
    cases hm : methodA P t name with
    | none => simp [hm] at hb
    | some g0 =>
      simp only [hm] at hb
      have hrun' : ∀ g, evOper o.op (ev P orc g) P o tm h = evWhom (ev P orc g) h (whomFn P h g0 (u :: vs)) := fun g => by
        rw [hrun]; simp only [opCall, hc, whomOf, h1, h2, ifaceOf, hm]
      have hs := hb
      clear hb
      unfold sxWhomFn at hs
      cases hgo : isGo P g0 with
      | true =>
        simp only [hgo, cond_true] at hs
        obtain ⟨v, h', ⟨f, hl⟩, hk⟩ := hs
        refine ⟨f, v, h', fun g hg => ?_, hk⟩
        rw [hrun']
        simp only [whomFn, hgo, cond_true, evWhom, ev_mono hg _ _ hl, valRes]
      | false =>
        simp only [hgo, cond_false] at hs
        obtain ⟨v, h', hx, hk⟩ := hs
        refine okV hk fun g => ?_
        rw [hrun']
        simp only [whomFn, hgo, cond_false]
        unfold outV at hx
        cases he : externV P h g0 (u :: vs) with
        | none => simp [he] at hx
        | some wh => cases wh <;> simp only [he] at hx <;> first | (cases hx; done) | exact hx
  | builtin b =>
    simp only [hc] at hs
    have hrun' : ∀ g, evOper o.op (ev P orc g) P o tm h = opBuiltin b c.args c.argTypes P o tm h := fun g => by rw [hrun]; simp only [opCall, hc]
    unfold sxBuiltin at hs
    cases b <;> simp only at hs <;> first | (exact hs.ok hrun') | skip
    case append =>
      cases h0 : nthL 0 c.argTypes.toList with
      | none => simp [h0] at hs
      | some t =>
        cases h9 : nthL 1 c.argTypes.toList with
        | none => simp [h0, h9] at hs
        | some u =>
          simp only [h0, h9] at hs
          obtain ⟨x, y, v, w, h1, h2, h3, h4⟩ := arg2_ok hs
          exact h4.ok fun g => by rw [hrun']; simp only [opBuiltin, h0, h9, h1, arg2, arg1, with1_mk h2, with1_mk h3]
    case copy =>
      cases h0 : nthL 0 c.argTypes.toList with
      | none => simp [h0] at hs
      | some t =>
        simp only [h0] at hs
        obtain ⟨x, y, v, w, h1, h2, h3, h4⟩ := arg2_ok hs
        exact h4.ok fun g => by rw [hrun']; simp only [opBuiltin, h0, h1, arg2, arg1, with1_mk h2, with1_mk h3]
    case len =>
    cases h0 : nthL 0 c.argTypes.toList with
    | none => simp [h0] at hs
    | some t =>
      simp only [h0] at hs
      obtain ⟨x, v, h1, h2, h3⟩ := arg1_ok hs
      have hrun2 : ∀ g, evOper o.op (ev P orc g) P o tm h = orGen (lenOp P t v h) P o tm h := fun g => by
        rw [hrun']
        simp only [opBuiltin, h0, h1, arg1, with1_mk h2]
      unfold sxLen at h3
      cases v with
      | string s =>
        obtain ⟨⟨s⟩⟩ := s
        simp only at h3
        cases hk : tk P t <;> simp only [hk] at h3
        exact okV h3 fun g => by rw [hrun2]; simp [lenOp, hk, retN, forceNat_eq, orGen]
      | slice a l c =>
        simp only at h3
        cases hk : tk P t <;> simp only [hk] at h3
        exact okV h3 fun g => by rw [hrun2]; simp [lenOp, hk, orGen]
      | _ => exact h3.ok hrun2
  | value f =>
    simp only [hc] at hs
    obtain ⟨fv, h1, ha⟩ := sx1_some hs
    obtain ⟨vs, h2, hb⟩ := args_ok ha
    clear hs ha
    have hrun' : ∀ g, evOper o.op (ev P orc g) P o tm h = evWhom (ev P orc g) h (whomVal P h fv vs) := fun g => by
      rw [hrun]; simp only [opCall, hc, whomOf, h1, h2]
    have hs := hb
    clear hb
    unfold sxWhom at hs
    cases fv <;> simp only at hs <;> first | (exact hs.elim) | skip
    rename_i fn first cap
    cases fn <;> simp only at hs <;> first | (exact hs.elim) | skip
    next g0 =>
      unfold sxWhomFn at hs
      cases hgo : isGo P g0 with
      | true =>
        simp only [hgo, cond_true] at hs
        obtain ⟨v, h', ⟨f, hl⟩, hk⟩ := hs
        refine ⟨f, v, h', fun g hg => ?_, hk⟩
        rw [hrun']
        simp only [whomVal, whomFn, hgo, cond_true, evWhom, ev_mono hg _ _ hl, valRes]
      | false =>
        simp only [hgo, cond_false] at hs
        obtain ⟨v, h', hx, hk⟩ := hs
        refine okV hk fun g => ?_
        rw [hrun']
        simp only [whomVal, whomFn, hgo, cond_false]
        unfold outV at hx
        cases he : externV P h g0 (first.toList ++ (vs ++ cap.toList)) with
        | none => simp [he] at hx
        | some wh => cases wh <;> simp only [he] at hx <;> first | (cases hx; done) | exact hx
    next l =>
      obtain ⟨v, h', ⟨f, hl⟩, hk⟩ := hs
      refine ⟨f, v, h', fun g hg => ?_, hk⟩
      rw [hrun']
      simp only [whomVal, evWhom]
      exact hl g hg
theorem sxOper_ok (hs : sxOper o.op P orc o tm h K) : OperOk P orc o tm h K := by
  cases hop : o.op <;> rw [hop] at hs <;> first | (exact (show False from hs).elim) | skip
  case move x =>
    obtain ⟨v, h1, h2⟩ := sx1_some (show sx1 P x tm _ from hs)
    exact okV h2 fun g => by rw [hop]; show opMove x P o tm h = _; simp [opMove, keepO, h1]
  case assign x =>
    obtain ⟨v, h1, h2⟩ := sx1_some (show sx1 P x tm _ from hs)
    exact okV h2 fun g => by rw [hop]; show opMove x P o tm h = _; simp [opMove, keepO, h1]
  case pick c a b =>
    obtain ⟨cv, h1, hs1⟩ := sx1_some (show sx1 P c tm _ from hs)
    obtain ⟨av, h2, hs2⟩ := sx1_some hs1
    obtain ⟨bv, h3, hs3⟩ := sx1_some hs2
    clear hs hs1 hs2
    cases cv <;> simp only at hs3
    rename_i t
    have hk := pickW_ok hs3
    refine okV hk fun g => ?_
    rw [hop]
    show opPick c a b P o tm h = _
    simp only [opPick, with1_mk h1]
    cases t <;> simp [keepO, h2, h3]
  case alloc e =>
    have hs' : sxAlloc P e h K := hs
    unfold sxAlloc at hs'
    cases hz : zeroV P e with
    | none => simp [hz] at hs'
    | some z =>
      simp only [hz] at hs'
      exact okV hs' fun g => by rw [hop]; show opAlloc e P o tm h = _; simp only [opAlloc, hz, AHeap.newK_eq]
  case box e x =>
    obtain ⟨v, h1, h2⟩ := sx1_some (show sx1 P x tm _ from hs)
    exact okV h2 fun g => by rw [hop]; show opBox e x P o tm h = _; simp only [opBox, with1_mk h1, AHeap.newK_eq]
  case build t ps => exact (show OpW _ K from hs).ok fun g => by rw [hop]; rfl
  case buildSlice t m ps =>
    have hs' : sxBuildSlice P t m ps tm h K := hs
    unfold sxBuildSlice at hs'
    cases hk : tk P t <;> simp only [hk] at hs' <;> first | (exact hs'.elim) | skip
    rename_i e
    obtain ⟨vs, h1, h2⟩ := args_ok hs'
    cases hz : zeroV P e with
    | none => simp [hz] at h2
    | some z =>
      simp only [hz, litW] at h2
      cases hsz : szOf P e with
      | none => simp [hsz] at h2
      | some s =>
        simp only [hsz] at h2
        cases hb : (Nat.ble (m * s) 4096 && lenB (cellsL z) s) with
        | false => simp [hb] at h2
        | true =>
          simp only [hb, cond_true] at h2
          cases hf : fillL (arrPlace s) (repL m (cellsL z)) (zipParts ps.toList vs) with
          | none => simp [hf] at h2
          | some c =>
            simp only [hf] at h2
            exact okV h2 fun g => by rw [hop]; show opBuildSlice t m ps P o tm h = _; simp only [opBuildSlice, hk, h1, hz, sliceLit, hsz, hb, cond_true, hf, newSlice, forceList_eq, AHeap.newK_eq]
  case load t a =>
    obtain ⟨pv, h1, hs⟩ := sx1_some (show sx1 P a tm _ from hs)
    obtain ⟨i, off, rfl, hs1⟩ := ptrW_some hs
    obtain ⟨v, h2, h3⟩ := shape_ok hs1
    exact okV h3 fun g => by rw [hop]; show opLoad t a P o tm h = _; simp only [opLoad, with1_mk h1, loadA, atAddr, h2, keepO]
  case store t a x =>
    obtain ⟨pv, h1, hs⟩ := sx1_some (show sx1 P a tm _ from hs)
    obtain ⟨v, h2, hs⟩ := sx1_some hs
    cases hz : szOf P t with
    | none => simp [hz] at hs
    | some s =>
      simp only [hz] at hs
      cases h3 : lenB (cellsL v) s with
      | false => simp [h3] at hs
      | true =>
      simp only [h3, cond_true] at hs
      obtain ⟨i, off, rfl, hs1⟩ := ptrW_some hs
      obtain ⟨h', h4, h5⟩ := hs1
      exact okV h5 fun g => by rw [hop]; show opStore t a x P o tm h = _; simp only [opStore, with2, with1_mk h1, with1_mk h2, storeA, hz, h3, cond_true, atAddr, h4, wroteO]
  case nilCheck x => exact (show OpW _ K from hs).ok fun g => by rw [hop]; rfl
  case binOp op t x y ty =>
    obtain ⟨a, h1, hs⟩ := sx1_some (show sx1 P x tm _ from hs)
    obtain ⟨b, h2, hs⟩ := sx1_some hs
    have hrun : ∀ g, evOper o.op (ev P orc g) P o tm h = orGen (binVal P op t a b) P o tm h := fun g => by
      rw [hop]; show opBin op t x y P o tm h = _; simp only [opBin, with2, with1_mk h1, with1_mk h2]
    unfold binW at hs
    cases a with
    | int k p =>
      cases b <;> simp only at hs
      rename_i k' q
      cases h3 : sameKind k k' with
      | false => simp [h3] at hs
      | true =>
      simp only [h3, cond_true] at hs
      rcases intBin_ok hs with ⟨v, h4, h5⟩ | h4
      · exact okV h5 fun g => by rw [hrun]; simp only [binVal, h3, cond_true, h4, orGen]
      · exact h4.ok hrun
    | string s =>
      obtain ⟨⟨s⟩⟩ := s
      cases b <;> simp only at hs
      rename_i u
      obtain ⟨⟨u⟩⟩ := u
      simp only at hs
      rcases strBin_ok hs with ⟨v, h4, h5⟩ | h4
      · exact okV h5 fun g => by rw [hrun]; simp only [binVal, h4, orGen]
      · exact h4.ok hrun
    | agg xs =>
      simp only at hs
      rcases agg_ok hs with ⟨v, h4, h5⟩ | h4
      · exact okV h5 fun g => by rw [hrun]; simp only [binVal, h4, orGen]
      · exact h4.ok hrun
    | _ => exact hs.ok hrun
  case unOp op t x =>
    have hs' : sxUn P op x o tm h K := hs
    unfold sxUn at hs'
    cases op <;> simp only at hs' <;> first | (exact hs'.ok fun g => by rw [hop]; rfl) | skip
    obtain ⟨v, h1, hs'⟩ := sx1_some hs'
    cases v <;> simp only at hs'
    rename_i b
    refine okV hs' fun g => ?_
    rw [hop]
    show gen P o tm h = _
    have hvs : vals? P tm o.op.operands.toList = some [.bool b] := by simp [hop, Op.operands, vals?, h1]
    have hq : quick P (execOp (slot P tm) o) = some (.value (.bool !b)) := by
      have hsl : slot P tm x = .bool b := by simp [slot, h1]
      simp only [execOp, hop, hsl]
      rfl
    unfold gen
    rw [hvs, hq]
    simp [plainL, plain, isSelect, hop, nextOf, forceV, forceBool_eq]
  case convert s d x =>
    obtain ⟨v, h1, hs⟩ := sx1_some (show sx1 P x tm _ from hs)
    have hrun : ∀ g, evOper o.op (ev P orc g) P o tm h = convTo P s d v o tm h := fun g => by
      rw [hop]; show opConvert s d x P o tm h = _; simp only [opConvert, with1_mk h1]
    cases v with
    | int k z =>
      simp only at hs
      cases hd : tk P d <;> simp only [hd] at hs <;> first | (exact hs.ok fun g => by rw [hrun]; simp only [convTo, hd]) | skip
      cases hsk : tk P s <;> simp only [hsk] at hs <;> first | (exact hs.ok fun g => by rw [hrun]; simp only [convTo, hd, hsk]) | skip
      exact okV (arW_ok hs) fun g => by rw [hrun]; simp only [convTo, hd, hsk, wrapK_eq, keepO]
    | _ => exact hs.ok hrun
  case makeInterface t x => exact (show OpW _ K from hs).ok fun g => by rw [hop]; rfl
  case makeFunc fn a b => exact (show OpW _ K from hs).ok fun g => by rw [hop]; rfl
  case makeMap t r =>
    have hs' : sxMakeMap P t r tm h K := hs
    unfold sxMakeMap at hs'
    cases hk : tk P t <;> simp only [hk] at hs' <;> first | (exact hs'.elim) | skip
    cases hb : hintOk P tm r with
    | false => simp [hb] at hs'
    | true =>
      simp only [hb, cond_true] at hs'
      exact okV hs' fun g => by rw [hop]; show opMakeMap t r P o tm h = _; simp only [opMakeMap, hk, hb, cond_true, AHeap.newK_eq]
  case makeSlice t l c => exact (show OpW _ K from hs).ok fun g => by rw [hop]; rfl
  case slice t x lo hi mx =>
    have hs' : sxSlice P t x lo hi mx tm h K := hs
    unfold sxSlice at hs'
    cases mx with
    | some m =>
      simp only at hs'
      obtain ⟨v, h1, hs'⟩ := sx1_some hs'
      obtain ⟨l, h2, hs'⟩ := optW_ok hs'
      obtain ⟨u, h3, hs'⟩ := optW_ok hs'
      cases hi with
      | none => exact hs'.elim
      | some y =>
        simp only at hs'
        obtain ⟨mv, h4, hs'⟩ := sx1_some hs'
        refine hs'.ok fun g => ?_
        rw [hop]; show opSlice t x lo (some y) (some m) P o tm h = _; simp only [opSlice, with1_mk h1, h2, h3, with1_mk h4]
    | none =>
      simp only at hs'
      obtain ⟨v, h1, hs'⟩ := sx1_some hs'
      obtain ⟨l, h2, hs'⟩ := optW_ok hs'
      obtain ⟨u, h3, hs'⟩ := optW_ok hs'
      have hrun : ∀ g, evOper o.op (ev P orc g) P o tm h = keepO (sliceA P t v l u h) h := fun g => by
        rw [hop]; show opSlice t x lo hi none P o tm h = _; simp only [opSlice, with1_mk h1, h2, h3]
      cases v with
      | string s =>
        obtain ⟨⟨s⟩⟩ := s
        simp only at hs'
        cases hk : tk P t <;> simp only [hk] at hs'
        obtain ⟨v', h4, h5⟩ := cutW_ok hs'
        exact okV h5 fun g => by rw [hrun]; simp only [sliceA, hk, h4, keepO]
      | _ => exact hs'.ok hrun
  case fieldAddr s x f =>
    have hs' : sxFieldAddr P s x f tm h K := hs
    unfold sxFieldAddr at hs'
    cases hp : fieldPlaceA P s f with
    | none => simp [hp] at hs'
    | some off =>
      simp only [hp] at hs'
      obtain ⟨v, h1, hs1⟩ := sx1_some hs'
      obtain ⟨i, o0, rfl, hs2⟩ := ptrW_some hs1
      have hk := offW_ok hs2
      exact okV hk fun g => by rw [hop]; show opFieldAddr s x f P o tm h = _; simp only [opFieldAddr, with1_mk h1, fieldAddrA, hp, atAddr, ptrTo, forceNat_eq, keepO]
  case field t x f => exact (show OpW _ K from hs).ok fun g => by rw [hop]; rfl
  case indexAddr t x ix =>
    obtain ⟨v, h1, hs⟩ := sx1_some (show sx1 P x tm _ from hs)
    obtain ⟨iv, h2, hs0⟩ := sx1_some hs
    obtain ⟨kd, i, rfl, hs1⟩ := intW_some hs0
    clear hs0
    have hrun : ∀ g, evOper o.op (ev P orc g) P o tm h = keepO (indexAddrA P t v (.int kd i)) h := fun g => by
      rw [hop]; show opIndexAddr t x ix P o tm h = _; simp only [opIndexAddr, with2, with1_mk h1, with1_mk h2]
    cases hk : tk P t <;> simp only [hk] at hs1 <;> first | (exact hs1.elim) | skip
    case slc e =>
      obtain ⟨b, off, l, c, rfl, hs2⟩ := sliceW_some hs1
      obtain ⟨s, h3, h4, h5, h6⟩ := elemW_ok hs2 (kd := kd)
      exact okV h6 fun g => by rw [hrun]; simp only [indexAddrA, h4, hk, sliceBase, h5, keepO]
    case arr m e =>
      obtain ⟨b, off, rfl, hs2⟩ := ptrW_some hs1
      obtain ⟨s, h3, h4, h5, h6⟩ := elemW_ok hs2 (kd := kd)
      exact okV h6 fun g => by rw [hrun]; simp only [indexAddrA, h4, hk, atAddr, h5, keepO]
  case index t x ix =>
    obtain ⟨v, h1, hs⟩ := sx1_some (show sx1 P x tm _ from hs)
    obtain ⟨iv, h2, hs⟩ := sx1_some hs
    have hrun : ∀ g, evOper o.op (ev P orc g) P o tm h = keepO (indexA P t v iv) h := fun g => by
      rw [hop]; show opIndex t x ix P o tm h = _; simp only [opIndex, with2, with1_mk h1, with1_mk h2]
    cases v with
    | string s =>
      obtain ⟨⟨s⟩⟩ := s
      simp only at hs
      cases hk : tk P t <;> simp only [hk] at hs
      obtain ⟨kd, i, rfl, hs1⟩ := intW_some hs
      obtain ⟨⟨h3, h4⟩, h5⟩ := hs1
      refine okV h5 fun g => ?_
      rw [hrun]
      have hn : nthL i.toNat s = some (s.getD i.toNat 0) := by
        rw [nthL_eq, List.getD_eq_getElem?_getD, List.getElem?_eq_getElem (by omega)]; rfl
      simp only [indexA, natOf_int h3, hk, hn, forceNat_eq, keepO]
      rfl
    | _ => exact hs.ok hrun
  case lookup t x k ok => exact (show OpW _ K from hs).ok fun g => by rw [hop]; rfl
  case mapUpdate t m k x => exact (show OpW _ K from hs).ok fun g => by rw [hop]; rfl
  case insert t m k x => exact (show OpW _ K from hs).ok fun g => by rw [hop]; rfl
  case typeAssert x t a ok => exact (show OpW _ K from hs).ok fun g => by rw [hop]; rfl
  case extract x i => exact (show OpW _ K from hs).ok fun g => by rw [hop]; rfl
  case call c => exact sxCall_ok hop hs
end
end Go.Ev
