/-
  The evaluator's operations: what they look at, which of them touch the heap; equal values; no condition.
-/
import Derived.Test.YtahbpehdjbmndaaGreatDoorEvCall3
namespace Go.Ev
open Go.RowKit

section
variable {P : Program} {h : AHeap} {tm tm' : T Value} {ih : IH}

theorem vals_congr : ∀ {l : List Operand}, (∀ x ∈ l, val? P x tm = val? P x tm') → vals? P tm l = vals? P tm' l
  | [], _ => rfl
  | x :: l, hx => by
    simp only [vals?]
    rw [hx x List.mem_cons_self, vals_congr (fun y hy => hx y (List.mem_cons_of_mem _ hy))]
theorem gen_congr {o : Oper} (hx : ∀ x ∈ o.op.operands, val? P x tm = val? P x tm') : gen P o tm h = gen P o tm' h := by
  unfold gen
  rw [vals_congr (l := o.op.operands.toList) (fun x hm => hx x (by simpa using hm))]
  cases vals? P tm' o.op.operands.toList with
  | none => rfl
  | some vs =>
    simp only
    cases hb : (plainL vs && !isSelect o.op) with
    | false => rfl
    | true =>
      simp only [cond_true]
      simp only [Bool.and_eq_true, Bool.not_eq_true'] at hb
      rw [execOp_congr o (fun cs b hs => by rw [hs] at hb; simp [isSelect] at hb) (ρ' := slot P tm') (fun x hm => by unfold slot; rw [hx x hm])]
theorem with1_congr {x : Operand} {k k' : Value → Out} (hx : val? P x tm = val? P x tm') (hk : ∀ v, k v = k' v) : with1 P x tm k = with1 P x tm' k' := by
  unfold with1
  rw [hx]
  cases val? P x tm' with
  | none => rfl
  | some v => exact hk v
theorem with2_congr {x y : Operand} {k k' : Value → Value → Out} (hx : val? P x tm = val? P x tm') (hy : val? P y tm = val? P y tm') (hk : ∀ v u, k v u = k' v u) : with2 P x y tm k = with2 P x y tm' k' :=
  with1_congr hx fun v => with1_congr hy fun u => hk v u
theorem optVal_congr {x : Option Operand} {k k' : Option Value → Out} (hx : ∀ y, x = some y → val? P y tm = val? P y tm') (hk : ∀ v, k v = k' v) : optVal P tm x k = optVal P tm' x k' := by
  unfold optVal
  cases x with
  | none => exact hk none
  | some y =>
    simp only
    rw [hx y rfl]
    cases val? P y tm' with
    | none => rfl
    | some v => exact hk _
theorem arg1_congr {l : List Operand} {k k' : Value → Out} (hx : ∀ x ∈ l, val? P x tm = val? P x tm') (hk : ∀ v, k v = k' v) : arg1 P l tm k = arg1 P l tm' k' := by
  unfold arg1
  cases l with
  | nil => rfl
  | cons x l =>
    cases l with
    | nil => exact with1_congr (hx x (by simp)) hk
    | cons y l => rfl
theorem arg2_congr {l : List Operand} {k k' : Value → Value → Out} (hx : ∀ x ∈ l, val? P x tm = val? P x tm') (hk : ∀ v u, k v u = k' v u) : arg2 P l tm k = arg2 P l tm' k' := by
  unfold arg2
  cases l with
  | nil => rfl
  | cons x l => exact with1_congr (hx x (by simp)) fun v => arg1_congr (fun y hy => hx y (List.mem_cons_of_mem _ hy)) fun u => hk v u
theorem orGen_congr {o : Oper} {r : Option Value} (hx : ∀ x ∈ o.op.operands, val? P x tm = val? P x tm') : orGen r P o tm h = orGen r P o tm' h := by
  unfold orGen
  cases r with
  | none => exact gen_congr hx
  | some v => rfl
theorem convTo_congr {o : Oper} {s d : TypeId} {v : Value} (hx : ∀ x ∈ o.op.operands, val? P x tm = val? P x tm') : convTo P s d v o tm h = convTo P s d v o tm' h := by
  unfold convTo
  have hg : gen P o tm h = gen P o tm' h := gen_congr hx
  rw [hg]
theorem builtin_congr {o : Oper} {b : Builtin} {args : Array Operand} {ts : Array TypeId} (hx : ∀ x ∈ o.op.operands, val? P x tm = val? P x tm') (ha : ∀ x ∈ args.toList, val? P x tm = val? P x tm') :
    opBuiltin b args ts P o tm h = opBuiltin b args ts P o tm' h := by
  have hg : gen P o tm h = gen P o tm' h := gen_congr hx
  cases b <;> simp only [opBuiltin] <;> first | exact hg | skip
  case len => cases nthL 0 ts.toList with
    | none => rfl
    | some t => exact arg1_congr ha fun v => orGen_congr hx
  case cap => cases nthL 0 ts.toList with
    | none => rfl
    | some t => exact arg1_congr ha fun v => orGen_congr hx
  case append => cases nthL 0 ts.toList with
    | none => rfl
    | some t => cases nthL 1 ts.toList with
      | none => rfl
      | some u => exact arg2_congr ha fun _ _ => rfl
  case copy => cases nthL 0 ts.toList with
    | none => rfl
    | some t => exact arg2_congr ha fun _ _ => rfl
  case clear => cases nthL 0 ts.toList with
    | none => rfl
    | some t => exact arg1_congr ha fun _ => rfl
theorem evOper_congr {o : Oper} (hx : ∀ x ∈ o.op.operands, val? P x tm = val? P x tm') : evOper o.op ih P o tm h = evOper o.op ih P o tm' h := by
  have hg : gen P o tm h = gen P o tm' h := gen_congr hx
  have hx0 := hx
  cases hop : o.op <;> rw [hop] at hx <;> first | rfl | skip
  case move x => show opMove x P o tm h = opMove x P o tm' h; unfold opMove; rw [hx x (by simp [Op.operands])]
  case assign x => show opMove x P o tm h = opMove x P o tm' h; unfold opMove; rw [hx x (by simp [Op.operands])]
  case pick c a b =>
    show opPick c a b P o tm h = opPick c a b P o tm' h
    refine with1_congr (hx c (by simp [Op.operands])) fun v => ?_
    rw [hx a (by simp [Op.operands]), hx b (by simp [Op.operands])]
  case box e x => exact with1_congr (hx x (by simp [Op.operands])) fun v => rfl
  case build t ps =>
    show opBuild t ps P o tm h = opBuild t ps P o tm' h
    unfold opBuild
    rw [vals_congr (l := ps.toList.map (·.2)) (fun x hm => hx x (by simpa [Op.operands] using hm))]
  case buildSlice t len ps =>
    show opBuildSlice t len ps P o tm h = opBuildSlice t len ps P o tm' h
    unfold opBuildSlice
    rw [vals_congr (l := ps.toList.map (·.2)) (fun x hm => hx x (by simpa [Op.operands] using hm))]
  case load t x => exact with1_congr (hx x (by simp [Op.operands])) fun v => rfl
  case store t x y => exact with2_congr (hx x (by simp [Op.operands])) (hx y (by simp [Op.operands])) fun _ _ => rfl
  case nilCheck x => exact with1_congr (hx x (by simp [Op.operands])) fun v => rfl
  case binOp b t x y ty => exact with2_congr (hx x (by simp [Op.operands])) (hx y (by simp [Op.operands])) fun _ _ => orGen_congr hx0
  case unOp => exact hg
  case convert s d x => exact with1_congr (hx x (by simp [Op.operands])) fun v => convTo_congr hx0
  case makeInterface t x => exact with1_congr (hx x (by simp [Op.operands])) fun v => rfl
  case makeFunc fn a b =>
    show opMakeFunc fn a b P o tm h = opMakeFunc fn a b P o tm' h
    unfold opMakeFunc
    rw [vals_congr (l := a.toList) (fun x hm => hx x (by simp [Op.operands]; simp at hm; exact .inl hm)), vals_congr (l := b.toList) (fun x hm => hx x (by simp [Op.operands]; simp at hm; exact .inr hm))]
  case makeMap t r =>
    show opMakeMap t r P o tm h = opMakeMap t r P o tm' h
    unfold opMakeMap hintOk
    cases r with
    | none => rfl
    | some x => simp only [hx x (by simp [Op.operands])]
  case makeSlice t x y => 
    show opMakeSlice t x y P o tm h = opMakeSlice t x y P o tm' h
    unfold opMakeSlice
    cases tk P t <;> first | rfl | exact with2_congr (hx x (by simp [Op.operands])) (hx y (by simp [Op.operands])) fun _ _ => rfl
  case slice t x lo hi mx =>
    show opSlice t x lo hi mx P o tm h = opSlice t x lo hi mx P o tm' h
    unfold opSlice
    cases mx with
    | some m =>
      refine with1_congr (hx x (by simp [Op.operands])) fun v => optVal_congr (fun y hy => hx y ?_) fun l => optVal_congr (fun y hy => hx y ?_) fun u => ?_
      · subst hy; simp [Op.operands]
      · subst hy; simp [Op.operands]
      · cases hi with
        | none => rfl
        | some y => exact with1_congr (hx m (by simp [Op.operands])) fun _ => rfl
    | none =>
      refine with1_congr (hx x (by simp [Op.operands])) fun v => optVal_congr (fun y hy => hx y ?_) fun l => optVal_congr (fun y hy => hx y ?_) fun u => rfl
      · subst hy; simp [Op.operands]
      · subst hy; simp [Op.operands]
  case fieldAddr t x f => exact with1_congr (hx x (by simp [Op.operands])) fun v => rfl
  case field t x f => exact with1_congr (hx x (by simp [Op.operands])) fun v => rfl
  case indexAddr t x y => exact with2_congr (hx x (by simp [Op.operands])) (hx y (by simp [Op.operands])) fun _ _ => rfl
  case index t x y => exact with2_congr (hx x (by simp [Op.operands])) (hx y (by simp [Op.operands])) fun _ _ => rfl
  case lookup t x y ok => exact with2_congr (hx x (by simp [Op.operands])) (hx y (by simp [Op.operands])) fun _ _ => rfl
  case mapUpdate t m k x => exact with2_congr (hx m (by simp [Op.operands])) (hx k (by simp [Op.operands])) fun _ _ => with1_congr (hx x (by simp [Op.operands])) fun _ => rfl
  case insert t m k x => exact with2_congr (hx m (by simp [Op.operands])) (hx k (by simp [Op.operands])) fun _ _ => with1_congr (hx x (by simp [Op.operands])) fun _ => rfl
  case typeAssert x t a ok => exact with1_congr (hx x (by simp [Op.operands])) fun v => rfl
  case extract x i => exact with1_congr (hx x (by simp [Op.operands])) fun v => rfl
  case call c =>
    have ha : ∀ x ∈ c.args.toList, val? P x tm = val? P x tm' := fun x hm => hx x (by
      have hm : x ∈ c.args := by simpa using hm
      simp only [Op.operands, Call.operands]
      cases c.callee <;> simp [hm])
    show opCall c ih P o tm h = opCall c ih P o tm' h
    unfold opCall
    cases hc : c.callee with
    | builtin b => exact builtin_congr hx0 ha
    | invoke r b =>
      simp only [whomOf, hc]
      rw [vals_congr ha, hx r (by simp [Op.operands, Call.operands, hc])]
    | value f =>
      simp only [whomOf, hc]
      rw [vals_congr ha, hx f (by simp [Op.operands, Call.operands, hc])]

/-! ### Which operations leave the heap; which do not look at it -/
theorem keepO_heap {x : Option Value} {v : Value} {h' : AHeap} (he : keepO x h = some (v, h')) (h2 : AHeap) : h' = h ∧ keepO x h2 = some (v, h2) := by
  obtain ⟨rfl, rfl⟩ := keepO_some he
  exact ⟨rfl, rfl⟩
theorem gen_heap {o : Oper} {v : Value} {h' : AHeap} (he : gen P o tm h = some (v, h')) (h2 : AHeap) : h' = h ∧ gen P o tm h2 = some (v, h2) := by
  unfold gen at he ⊢
  cases hv : vals? P tm o.op.operands.toList with
  | none => simp [hv] at he
  | some vs =>
    simp only [hv] at he ⊢
    cases hb : (plainL vs && !isSelect o.op) with
    | false => simp [hb] at he
    | true =>
      simp only [hb, cond_true] at he ⊢
      unfold nextOf at he ⊢
      cases hq : quick P (execOp (slot P tm) o) with
      | none => simp [hq] at he
      | some nx =>
        cases nx <;> simp only [hq] at he ⊢ <;> first | (cases he; done) | skip
        case value u =>
          cases hp : plain u with
          | false => simp [hp] at he
          | true =>
            simp only [hp, cond_true, forceV_eq, Option.some.injEq, Prod.mk.injEq] at he ⊢
            exact ⟨he.2.symm, he.1, by trivial⟩
        case skip =>
          simp only [Option.some.injEq, Prod.mk.injEq] at he ⊢
          exact ⟨he.2.symm, he.1, by trivial⟩
theorem orGen_heap {r : Option Value} {o : Oper} {v : Value} {h' : AHeap} (he : orGen r P o tm h = some (v, h')) (h2 : AHeap) : h' = h ∧ orGen r P o tm h2 = some (v, h2) := by
  unfold orGen at he ⊢
  cases r with
  | none => exact gen_heap he h2
  | some u =>
    simp only [Option.some.injEq, Prod.mk.injEq] at he ⊢
    exact ⟨he.2.symm, he.1, by trivial⟩
/-- an operation's answer does not hang on the heap, and leaves it -/
def Apart (P : Program) (tm : T Value) (o : Oper) (h : AHeap) (ih : IH) (v : Value) (h' : AHeap) : Prop := h' = h ∧ ∀ h2, evOper o.op ih P o tm h2 = some (v, h2)
theorem isBuiltinPure {b : Builtin} {args : Array Operand} {ts : Array TypeId} {o : Oper} {v : Value} {h' : AHeap} (hb : b = .min ∨ b = .max) (he : opBuiltin b args ts P o tm h = some (v, h')) (h2 : AHeap) :
    h' = h ∧ opBuiltin b args ts P o tm h2 = some (v, h2) := by
  rcases hb with rfl | rfl <;> exact gen_heap he h2
theorem convTo_pure {o : Oper} {s d : TypeId} {x : Value} {v : Value} {h' : AHeap} (hk : (match tk P s with | .str => (match tk P d with | .slc _ => Kind.eff | _ => .pure) | .int _ => .pure | _ => .read) = .pure)
    (he : convTo P s d x o tm h = some (v, h')) (h2 : AHeap) : h' = h ∧ convTo P s d x o tm h2 = some (v, h2) := by
  unfold convTo at he ⊢
  cases x with
  | int k n =>
    simp only at he ⊢
    cases hd : tk P d <;> simp only [hd] at he ⊢ <;> first | exact gen_heap he h2 | skip
    cases hs : tk P s <;> simp only [hs] at he ⊢ <;> first | exact gen_heap he h2 | exact keepO_heap he h2
  | string b =>
    obtain ⟨⟨b⟩⟩ := b
    simp only at he ⊢
    cases hd : tk P d <;> simp only [hd] at he hk ⊢ <;> first | exact gen_heap he h2 | skip
    rename_i e
    cases hi : isByte P e with
    | false => simp [hi] at he
    | true =>
      simp only [hi, cond_true] at he
      cases hs : tk P s <;> simp only [hs] at he hk <;> first | (cases he; done) | (cases hk; done)
  | slice a l c =>
    simp only at he ⊢
    cases hs : tk P s <;> simp only [hs] at he hk ⊢ <;> first | exact gen_heap he h2 | (cases hk; done) | (cases he; done)
  | _ => exact gen_heap he h2
theorem pure_apart {o : Oper} {v : Value} {h' : AHeap} (hk : kindOf P o = .pure) (he : evOper o.op ih P o tm h = some (v, h')) (h2 : AHeap) (ih2 : IH) : h' = h ∧ evOper o.op ih2 P o tm h2 = some (v, h2) := by
  have hk0 := hk
  unfold kindOf at hk
  cases hop : o.op <;> rw [hop] at he <;> simp only [hop] at hk <;> first | (cases hk; done) | (have he' : (none : Out) = some (v, h') := he; cases he'; done) | skip
  case move x => exact keepO_heap (x := val? P x tm) he h2
  case assign x => exact keepO_heap (x := val? P x tm) he h2
  case pick c a b =>
    have he' : opPick c a b P o tm h = some (v, h') := he
    show h' = h ∧ opPick c a b P o tm h2 = some (v, h2)
    unfold opPick with1 at he' ⊢
    cases hc : val? P c tm with
    | none => simp [hc] at he'
    | some u =>
      simp only [hc] at he' ⊢
      cases u <;> simp only at he' ⊢ <;> first | (cases he'; done) | skip
      rename_i t
      cases t <;> exact keepO_heap he' h2
  case build t ps =>
    have he' : opBuild t ps P o tm h = some (v, h') := he
    show h' = h ∧ opBuild t ps P o tm h2 = some (v, h2)
    unfold opBuild at he' ⊢
    cases h1 : vals? P tm (ps.toList.map (·.2)) with
    | none => simp [h1] at he'
    | some vs =>
      cases hz : zeroV P t with
      | none => simp [h1, hz] at he'
      | some z =>
        simp only [h1, hz] at he' ⊢
        exact keepO_heap he' h2
  case nilCheck x =>
    have he' : opNilCheck x P o tm h = some (v, h') := he
    show h' = h ∧ opNilCheck x P o tm h2 = some (v, h2)
    unfold opNilCheck with1 at he' ⊢
    cases hc : val? P x tm with
    | none => simp [hc] at he'
    | some u =>
      simp only [hc] at he' ⊢
      cases u <;> simp only at he' ⊢ <;> first | (cases he'; done) | skip
      case pointer a =>
        cases a with
        | none => cases he'
        | some a => simp only [Option.some.injEq, Prod.mk.injEq] at he' ⊢; exact ⟨he'.2.symm, he'.1, by trivial⟩
      case iface t u => simp only [Option.some.injEq, Prod.mk.injEq] at he' ⊢; exact ⟨he'.2.symm, he'.1, by trivial⟩
      case func fn a b =>
        cases fn <;> simp only at he' ⊢ <;> first | (cases he'; done) | (simp only [Option.some.injEq, Prod.mk.injEq] at he' ⊢; exact ⟨he'.2.symm, he'.1, by trivial⟩)
  case binOp b t x y ty =>
    have he' : opBin b t x y P o tm h = some (v, h') := he
    show h' = h ∧ opBin b t x y P o tm h2 = some (v, h2)
    unfold opBin with2 with1 at he' ⊢
    cases hc : val? P x tm with
    | none => simp [hc] at he'
    | some u =>
      simp only [hc] at he' ⊢
      cases hc2 : val? P y tm with
      | none => simp [hc2] at he'
      | some u2 => simp only [hc2] at he' ⊢; exact orGen_heap he' h2
  case unOp => exact gen_heap he h2
  case convert s d x =>
    have he' : opConvert s d x P o tm h = some (v, h') := he
    show h' = h ∧ opConvert s d x P o tm h2 = some (v, h2)
    unfold opConvert with1 at he' ⊢
    cases hc : val? P x tm with
    | none => simp [hc] at he'
    | some u => simp only [hc] at he' ⊢; exact convTo_pure hk he' h2
  case makeInterface t x =>
    have he' : opMakeIface t x P o tm h = some (v, h') := he
    show h' = h ∧ opMakeIface t x P o tm h2 = some (v, h2)
    unfold opMakeIface with1 at he' ⊢
    cases hc : val? P x tm with
    | none => simp [hc] at he'
    | some u =>
      simp only [hc] at he' ⊢
      cases hk' : tk P t <;> simp only [hk'] at he' ⊢ <;> first | (cases he'; done) | (simp only [Option.some.injEq, Prod.mk.injEq] at he' ⊢; exact ⟨he'.2.symm, he'.1, by trivial⟩)
  case makeFunc fn a b =>
    have he' : opMakeFunc fn a b P o tm h = some (v, h') := he
    show h' = h ∧ opMakeFunc fn a b P o tm h2 = some (v, h2)
    unfold opMakeFunc at he' ⊢
    cases hy : isYield fn with
    | true => simp [hy] at he'
    | false =>
      simp only [hy, cond_false] at he' ⊢
      cases h1 : vals? P tm a.toList with
      | none => simp [h1] at he'
      | some vs =>
        cases h3 : vals? P tm b.toList with
        | none => simp [h1, h3] at he'
        | some us => simp only [h1, h3, Option.some.injEq, Prod.mk.injEq] at he' ⊢; exact ⟨he'.2.symm, he'.1, by trivial⟩
  case fieldAddr t x f =>
    have he' : opFieldAddr t x f P o tm h = some (v, h') := he
    show h' = h ∧ opFieldAddr t x f P o tm h2 = some (v, h2)
    unfold opFieldAddr with1 at he' ⊢
    cases hc : val? P x tm with
    | none => simp [hc] at he'
    | some u => simp only [hc] at he' ⊢; exact keepO_heap he' h2
  case field t x f =>
    have he' : opField t x f P o tm h = some (v, h') := he
    show h' = h ∧ opField t x f P o tm h2 = some (v, h2)
    unfold opField with1 at he' ⊢
    cases hc : val? P x tm with
    | none => simp [hc] at he'
    | some u => simp only [hc] at he' ⊢; exact keepO_heap he' h2
  case indexAddr t x y =>
    have he' : opIndexAddr t x y P o tm h = some (v, h') := he
    show h' = h ∧ opIndexAddr t x y P o tm h2 = some (v, h2)
    unfold opIndexAddr with2 with1 at he' ⊢
    cases hc : val? P x tm with
    | none => simp [hc] at he'
    | some u =>
      simp only [hc] at he' ⊢
      cases hc2 : val? P y tm with
      | none => simp [hc2] at he'
      | some u2 => simp only [hc2] at he' ⊢; exact keepO_heap he' h2
  case index t x y =>
    have he' : opIndex t x y P o tm h = some (v, h') := he
    show h' = h ∧ opIndex t x y P o tm h2 = some (v, h2)
    unfold opIndex with2 with1 at he' ⊢
    cases hc : val? P x tm with
    | none => simp [hc] at he'
    | some u =>
      simp only [hc] at he' ⊢
      cases hc2 : val? P y tm with
      | none => simp [hc2] at he'
      | some u2 => simp only [hc2] at he' ⊢; exact keepO_heap he' h2
  case typeAssert x t a ok =>
    have he' : opAssert x a ok P o tm h = some (v, h') := he
    show h' = h ∧ opAssert x a ok P o tm h2 = some (v, h2)
    unfold opAssert with1 at he' ⊢
    cases hc : val? P x tm with
    | none => simp [hc] at he'
    | some u => simp only [hc] at he' ⊢; exact keepO_heap he' h2
  case extract x i =>
    have he' : opExtract x i P o tm h = some (v, h') := he
    show h' = h ∧ opExtract x i P o tm h2 = some (v, h2)
    unfold opExtract with1 at he' ⊢
    cases hc : val? P x tm with
    | none => simp [hc] at he'
    | some u =>
      simp only [hc] at he' ⊢
      cases u <;> simp only at he' ⊢ <;> first | (cases he'; done) | exact keepO_heap he' h2
  case call c =>
    have he' : opCall c ih P o tm h = some (v, h') := he
    show h' = h ∧ opCall c ih2 P o tm h2 = some (v, h2)
    unfold opCall at he' ⊢
    cases hc : c.callee <;> simp only [hc] at hk he' ⊢ <;> first | (cases hk; done) | skip
    rename_i b
    cases b <;> simp only at hk <;> first | (cases hk; done) | exact isBuiltinPure (by simp) he' h2
/-- a read leaves the heap; it needs no smaller run -/
theorem read_keeps {o : Oper} {v : Value} {h' : AHeap} (hk : kindOf P o = .read) (he : evOper o.op ih P o tm h = some (v, h')) (ih2 : IH) : h' = h ∧ ∀ h2, evOper o.op ih2 P o tm h2 = evOper o.op ih P o tm h2 := by
  unfold kindOf at hk
  cases hop : o.op <;> rw [hop] at he <;> simp only [hop] at hk <;> first | (cases hk; done) | skip
  case load t x =>
    have he' : opLoad t x P o tm h = some (v, h') := he
    refine ⟨?_, fun _ => rfl⟩
    obtain ⟨_, _, he'⟩ := with1_some he'
    exact (keepO_some he').2
  case convert s d x =>
    have he' : opConvert s d x P o tm h = some (v, h') := he
    refine ⟨?_, fun _ => rfl⟩
    obtain ⟨u, _, he'⟩ := with1_some he'
    unfold convTo at he'
    cases u with
    | int k n =>
      simp only at he'
      cases hd : tk P d <;> simp only [hd] at he' <;> first | exact (gen_heap he' h).1 | skip
      cases hs : tk P s <;> simp only [hs] at he' <;> first | exact (gen_heap he' h).1 | exact (keepO_some he').2
    | string b =>
      obtain ⟨⟨b⟩⟩ := b
      simp only at he'
      cases hd : tk P d <;> simp only [hd] at he' <;> first | exact (gen_heap he' h).1 | skip
      rename_i e
      cases hi : isByte P e with
      | false => simp [hi] at he'
      | true =>
        simp only [hi, cond_true] at he'
        cases hs : tk P s <;> simp only [hs] at he' <;> first | (cases he'; done) | (simp only [hs, hd] at hk; cases hk)
    | slice a l c =>
      simp only at he'
      cases hs : tk P s <;> simp only [hs] at he' <;> first | (cases he'; done) | skip
      rename_i e
      cases hd : tk P d <;> simp only [hd] at he' <;> first | (cases he'; done) | skip
      case str =>
        cases hi : isByte P e with
        | false => simp [hi] at he'
        | true => simp only [hi, cond_true] at he'; exact (keepO_some he').2
      case slc e' =>
        cases hi : (Nat.beq s d && isByte P e') with
        | false => simp [hi] at he'
        | true => simp only [hi, cond_true] at he'; exact (keepO_some he').2
    | _ => exact (gen_heap he' h).1
  case slice t x lo hi mx =>
    have he' : opSlice t x lo hi mx P o tm h = some (v, h') := he
    refine ⟨?_, fun _ => rfl⟩
    unfold opSlice at he'
    cases mx with
    | some m =>
      obtain ⟨u, _, he'⟩ := with1_some he'
      have hin : ∀ {l uu : Option Value}, (match hi with
          | some _ => with1 P m tm fun mv => keepO (sliceMax P t u l uu mv) h
          | none => none) = some (v, h') → h' = h := by
        intro l uu hh
        cases hi with
        | none => cases hh
        | some y =>
          obtain ⟨_, _, hh⟩ := with1_some hh
          exact (keepO_some hh).2
      unfold optVal at he'
      cases lo with
      | none =>
        cases hi with
        | none => cases he'
        | some y =>
          simp only at he' hin
          cases hy : val? P y tm with
          | none => simp [hy] at he'
          | some yv => simp only [hy] at he'; exact hin he'
      | some z =>
        simp only at he'
        cases hz : val? P z tm with
        | none => simp [hz] at he'
        | some zv =>
          simp only [hz] at he'
          cases hi with
          | none => cases he'
          | some y =>
            simp only at he' hin
            cases hy : val? P y tm with
            | none => simp [hy] at he'
            | some yv => simp only [hy] at he'; exact hin he'
    | none =>
      obtain ⟨u, _, he'⟩ := with1_some he'
      unfold optVal at he'
      cases lo with
      | none =>
        cases hi with
        | none => exact (keepO_some he').2
        | some y =>
          simp only at he'
          cases hy : val? P y tm with
          | none => simp [hy] at he'
          | some yv => simp only [hy] at he'; exact (keepO_some he').2
      | some z =>
        simp only at he'
        cases hz : val? P z tm with
        | none => simp [hz] at he'
        | some zv =>
          simp only [hz] at he'
          cases hi with
          | none => exact (keepO_some he').2
          | some y =>
            simp only at he'
            cases hy : val? P y tm with
            | none => simp [hy] at he'
            | some yv => simp only [hy] at he'; exact (keepO_some he').2
  case lookup t x k ok =>
    have he' : opLookup t x k ok P o tm h = some (v, h') := he
    refine ⟨?_, fun _ => rfl⟩
    obtain ⟨_, _, he'⟩ := with1_some he'
    obtain ⟨_, _, he'⟩ := with1_some he'
    exact (keepO_some he').2
  case call c =>
    have he' : opCall c ih P o tm h = some (v, h') := he
    cases hc : c.callee <;> simp only [hc] at hk <;> first | (cases hk; done) | skip
    rename_i b
    refine ⟨?_, fun h2 => ?_⟩
    · unfold opCall at he'
      simp only [hc] at he'
      cases b <;> simp only at hk <;> first | (cases hk; done) | skip
      all_goals
        simp only [opBuiltin] at he'
        cases h0 : nthL 0 c.argTypes.toList with
        | none => simp [h0] at he'
        | some t =>
          simp only [h0] at he'
          obtain ⟨_, _, _, _, he'⟩ := arg1_some he'
          exact (orGen_heap he' h).1
    · show opCall c ih2 P o tm h2 = opCall c ih P o tm h2
      unfold opCall
      simp only [hc]

/-! ### Equal values -/
theorem intBeq_eq' {a b : Int} (he : intBeq a b = true) : a = b := by
  cases a <;> cases b <;> simp [intBeq] at he <;> rw [he]
theorem eqBytes_eq {a b : List UInt8} (he : eqBytes a b = true) : a = b := by rw [eqBytes_iff] at he; simpa using he
mutual
theorem sameV_eq : ∀ (a b : Value), sameV a b = true → a = b
  | .bool a, b, h => by cases b <;> simp [sameV] at h; rw [h]
  | .int k a, b, h => by
    cases b <;> simp [sameV] at h
    rename_i k' b
    have h1 : k = k' := by simpa [sameKind] using h.1
    rw [h1, intBeq_eq' h.2]
  | .string ⟨⟨a⟩⟩, b, h => by
    cases b with
    | string b =>
      obtain ⟨⟨b⟩⟩ := b
      rw [show a = b from eqBytes_eq (by simpa [sameV] using h)]
    | _ => simp [sameV] at h
  | .pointer none, b, h => by
    cases b with
    | pointer b => cases b with
      | none => rfl
      | some b => simp [sameV] at h
    | _ => simp [sameV] at h
  | .pointer (some ⟨i, o, sp⟩), b, h => by
    cases b with
    | pointer b => cases b with
      | none => cases sp <;> simp [sameV] at h
      | some b =>
        obtain ⟨j, o', sp'⟩ := b
        cases sp <;> cases sp' <;> simp [sameV] at h
        rw [h.1, h.2]
    | _ => cases sp <;> simp [sameV] at h
  | .slice none l c, b, h => by
    cases b with
    | slice b l' c' => cases b with
      | none => simp [sameV] at h; rw [h.1, h.2]
      | some b => simp [sameV] at h
    | _ => simp [sameV] at h
  | .slice (some ⟨i, o, sp⟩) l c, b, h => by
    cases b with
    | slice b l' c' => cases b with
      | none => cases sp <;> simp [sameV] at h
      | some b =>
        obtain ⟨j, o', sp'⟩ := b
        cases sp <;> cases sp' <;> simp [sameV] at h
        obtain ⟨⟨⟨h1, h2⟩, h3⟩, h4⟩ := h
        rw [h1, h2, h3, h4]
    | _ => cases sp <;> simp [sameV] at h
  | .map none, b, h => by
    cases b with
    | map b => cases b with
      | none => rfl
      | some b => simp [sameV] at h
    | _ => simp [sameV] at h
  | .map (some a), b, h => by
    cases b with
    | map b => cases b with
      | none => simp [sameV] at h
      | some b => simp [sameV] at h; rw [h]
    | _ => simp [sameV] at h
  | .nilFunc, b, h => by cases b <;> simp [sameV] at h; rfl
  | .nilIface, b, h => by cases b <;> simp [sameV] at h; rfl
  | .func fn x y, b, h => by
    cases b with
    | func fn' x' y' =>
      have hh : fn = fn' ∧ sameA x x' = true ∧ sameA y y' = true := by
        cases fn <;> cases fn' <;> simp [sameV] at h
        · obtain ⟨⟨h1, h2⟩, h3⟩ := h; exact ⟨by rw [h1], h2, h3⟩
        · obtain ⟨⟨h1, h2⟩, h3⟩ := h; exact ⟨by rw [h1], h2, h3⟩
      obtain ⟨h1, h2, h3⟩ := hh
      rw [h1, sameA_eq x x' h2, sameA_eq y y' h3]
    | _ => cases fn <;> simp [sameV] at h
  | .iface t v, b, h => by
    cases b with
    | iface t' v' =>
      have hh : t = t' ∧ sameV v v' = true := by simpa [sameV] using h
      rw [hh.1, sameV_eq v v' hh.2]
    | _ => simp [sameV] at h
  | .agg a, b, h => by
    cases b with
    | agg b => rw [sameA_eq a b (by simpa [sameV] using h)]
    | _ => simp [sameV] at h
  | .tuple a, b, h => by
    cases b with
    | tuple b => rw [sameA_eq a b (by simpa [sameV] using h)]
    | _ => simp [sameV] at h
  | .float a b, c, h => by cases c <;> simp [sameV] at h
  | .complex a b c, d, h => by cases d <;> simp [sameV] at h
  | .chan a, c, h => by cases c <;> simp [sameV] at h
theorem sameA_eq : ∀ (a b : Array Value), sameA a b = true → a = b
  | ⟨a⟩, ⟨b⟩, h => by rw [sameL_eq a b (by simpa [sameA] using h)]
theorem sameL_eq : ∀ (a b : List Value), sameL a b = true → a = b
  | [], [], _ => rfl
  | x :: a, y :: b, h => by
    simp only [sameL, Bool.and_eq_true] at h
    rw [sameV_eq x y h.1, sameL_eq a b h.2]
  | [], _ :: _, h => by simp [sameL] at h
  | _ :: _, [], h => by simp [sameL] at h
end
theorem sameOr_eq {a b : Value} (h : sameOr a b = true) : a = b := by
  unfold sameOr at h
  rw [Bool.or_eq_true] at h
  rcases h with h | h
  · exact sameV_eq a b h
  · exact @of_decide_eq_true _ (Classical.propDecidable _) h
theorem sameOr_self (a : Value) : sameOr a a = true := by
  unfold sameOr
  rw [Bool.or_eq_true]
  exact .inr (@decide_eq_true _ (Classical.propDecidable _) rfl)
end
end Go.Ev
