/-
  The evaluator is sound: calls, rounds, regions in the text's order; no condition.
-/
import Derived.Test.YtahbpehdjbmndaaGreatDoorEvOpsI
import Derived.Test.YtahbpehdjbmndaaGreatDoorEvRun
namespace Go.Ev
open Go.RowKit

/-- the widest fence; within a round of a loop, or in none -/
def FF (ro : Option Nat) : Fence := { fn := fun _ => True, depth := none, alive := false, round := ro }

section
variable {P : Program} {w0 w : World} {ρ : Ren} {h : AHeap} {n : Nat} {tm : T Value} {A : Act}

def RoRel (ρ : Ren) : Option Nat → Option Nat → Prop
  | none, none => True
  | some i, some b => ∃ k, ρ i = some (b, k)
  | _, _ => False
def MRel (ρ : Ren) : List Nat → List Deferred → Prop
  | [], [] => True
  | i :: mk, d :: ds => (∃ b k, ρ i = some (b, k) ∧ d.target = .collected b) ∧ MRel ρ mk ds
  | _, _ => False
theorem RoRel.mono {σ : Ren} (hle : ρ.le σ) : ∀ {a b : Option Nat}, RoRel ρ a b → RoRel σ a b
  | none, none, _ => trivial
  | some _, some _, ⟨k, h⟩ => ⟨k, hle _ _ h⟩
  | none, some _, h => h.elim
  | some _, none, h => h.elim
theorem MRel.mono {σ : Ren} (hle : ρ.le σ) : ∀ {mk : List Nat} {ds : List Deferred}, MRel ρ mk ds → MRel σ mk ds
  | [], [], _ => trivial
  | _ :: _, _ :: _, ⟨⟨b, k, h1, h2⟩, h3⟩ => ⟨⟨b, k, hle _ _ h1, h2⟩, h3.mono hle⟩
  | [], _ :: _, h => h.elim
  | _ :: _, [], h => h.elim

/-- what a call comes to -/
def Gives (P : Program) (w0 : World) (ρ : Ren) (v : Value) (h' : AHeap) : Ending → World → Prop
  | .returned v', w' => ∃ σ, ρ.le σ ∧ ren σ v = some v' ∧ Rep P w0 σ h' w'
  | _, _ => False
def exitOf : AExit → Exit
  | .normal => .normal
  | .exit id => .exit id
  | .goto l => .goto l
  | .ret => .ret
/-- what a piece of code comes to -/
def Ends (P : Program) (w0 : World) (ρ : Ren) (n : Nat) (e : AExit) (tm : T Value) (mk : List Nat) (h : AHeap) (e' : Exit) (A : Act) (w : World) : Prop :=
  e' = exitOf e ∧ ∃ σ, ρ.le σ ∧ Rep P w0 σ h w ∧ TRel σ n tm A.tmps ∧ MRel σ mk A.defers
theorem Gives.mono {σ : Ren} (hle : ρ.le σ) {v : Value} {h' : AHeap} {e : Ending} {w : World} (hg : Gives P w0 σ v h' e w) : Gives P w0 ρ v h' e w := by
  cases e <;> simp only [Gives] at hg ⊢
  obtain ⟨τ, h1, h2⟩ := hg
  exact ⟨τ, Ren.le_trans hle h1, h2⟩
theorem Ends.mono {σ : Ren} (hle : ρ.le σ) {e : AExit} {mk : List Nat} {e' : Exit} (he : Ends P w0 σ n e tm mk h e' A w) : Ends P w0 ρ n e tm mk h e' A w := by
  obtain ⟨h1, τ, h2, h3⟩ := he
  exact ⟨h1, τ, Ren.le_trans hle h2, h3⟩

/-- What is owed of the smaller runs. -/
structure Sound (P : Program) (w0 : World) (ih : IH) : Prop where
  call : ∀ f args h r, ih (.call f args h) = some r → ∃ v h', r = .val v h' ∧ ∀ ρ w args' m, Rep P w0 ρ h w → renL ρ args = some args' → CallsIn (FF none) m P f ⟨args'⟩ w (Gives P w0 ρ v h')
  code : ∀ c n ro tm mk h r, ih (.code c n ro tm mk h) = some r → ∃ e tm' mk' h', r = .code e tm' mk' h' ∧
    ∀ ρ w A ro' m, Rep P w0 ρ h w → TRel ρ n tm A.tmps → MRel ρ mk A.defers → RoRel ρ ro ro' → c.wpIn (FF ro') m P (Ends P w0 ρ n e tm' mk' h') A w

theorem callsIn_round {ro : Option Nat} {m : Nat} {f : FuncId} {args : Array Value} {R : Ending → World → Prop} (hc : CallsIn (FF none) m P f args w R) : CallsIn (FF ro) m P f args w R := hc

/-! ### Temporaries -/
theorem getT_put (t i : Nat) (v : Value) : getT (T.put v tm i) t = if t = i then v else getT tm t := by
  unfold getT
  rw [T.get_put]
  split <;> rfl
theorem TRel.put (ht : TRel ρ n tm A.tmps) {d : Nat} {v v' : Value} (hd : d < n) (hv : ren ρ v = some v') : TRel ρ n (T.put v tm d) (A.put (some d) v').tmps := by
  refine ⟨by simpa [Act.put] using ht.1, fun t => ?_⟩
  rw [getT_put]
  simp only [Act.put]
  by_cases e : t = d
  · subst e
    rw [if_pos rfl, hv]
    have : t < A.tmps.size := by rw [ht.1]; exact hd
    simp [Array.getD, this]
  · rw [if_neg e, ht.2 t]
    simp only [Array.getD_eq_getD_getElem?]
    rw [Array.getElem?_setIfInBounds_ne (by omega)]
theorem Act.put_defers (A : Act) (d : Option Tmp) (v : Value) : (A.put d v).defers = A.defers := by cases d <;> rfl
theorem putK_some {β : Type} (ht : TRel ρ n tm A.tmps) {dst : Option Tmp} {v v' : Value} (hv : ren ρ v = some v') {k : T Value → Option β} {r : β} (he : putK n tm dst v k = some r) :
    ∃ tm', k tm' = some r ∧ TRel ρ n tm' (A.put dst v').tmps := by
  unfold putK at he
  cases dst with
  | none => exact ⟨tm, he, ht⟩
  | some d =>
    simp only at he
    cases hb : Nat.blt d n with
    | false => simp [hb] at he
    | true =>
      simp only [hb, T.setK_eq] at he
      exact ⟨_, he, ht.put (Nat.le_of_ble_eq_true hb) hv⟩

theorem ren_bool {v : Value} {b : Bool} (hv : ren ρ v = some (.bool b)) : v = .bool b := by
  cases v with
  | bool c => simpa [ren] using hv
  | pointer a => cases a with
    | none => have := ren_plain_eq hv rfl; cases this
    | some a => obtain ⟨i, o, sp⟩ := a; obtain ⟨_, b, k, _, h⟩ := ren_ptr hv; cases h
  | slice a l c => cases a with
    | none => have := ren_plain_eq hv rfl; cases this
    | some a => obtain ⟨_, _, h⟩ := ren_slice_any hv; cases h
  | map a => cases a with
    | none => have := ren_plain_eq hv rfl; cases this
    | some a => obtain ⟨b, k, _, h⟩ := ren_map hv; cases h
  | agg a => obtain ⟨_, _, h⟩ := ren_agg hv; cases h
  | tuple a => obtain ⟨_, _, h⟩ := ren_tuple hv; cases h
  | iface t v => obtain ⟨_, _, h⟩ := ren_iface hv; cases h
  | func fn a b => obtain ⟨_, _, _, _, _, _, h⟩ := ren_func hv; cases h
  | _ => simp [ren] at hv
theorem dstOf_eq : ∀ (l : List Oper) (i : Nat), dstOf l i = (l[i]?).bind (·.dst)
  | [], i => by simp [dstOf]
  | o :: l, 0 => by simp [dstOf]
  | o :: l, i + 1 => by simp [dstOf, dstOf_eq l i]
theorem wanted_eq (ht : TRel ρ n tm A.tmps) (ops : Array Oper) (o : Oper) : wantedA ops.toList tm o.guard = Region.wanted o (yielded ops A.tmps) := by
  unfold wantedA Region.wanted
  cases o.guard with
  | none => rfl
  | some jw =>
    obtain ⟨j, want⟩ := jw
    show wantedG ops.toList tm (j, want) = (yielded ops A.tmps j == some want)
    unfold wantedG yielded
    simp only [dstOf_eq, Array.getElem?_toList]
    cases hd : (ops[j]?).bind (·.dst) with
    | none => simp
    | some t =>
      simp only [Option.bind_some]
      have h1 := ht.2 t
      unfold getT at h1
      cases hg : tm.get t with
      | none =>
        simp only [hg] at h1
        have h2 : A.tmps.getD t undef = undef := ren_plain_eq h1 rfl
        simp only [isBool]
        cases hx : A.tmps[t]? with
        | none => rfl
        | some x =>
          have : x = undef := by simpa [Array.getD_eq_getD_getElem?, hx] using h2
          subst this
          rfl
      | some v =>
        simp only [hg] at h1
        have key : ∀ b, A.tmps[t]? = some (.bool b) → v = .bool b := by
          intro b hb
          refine ren_bool (ρ := ρ) ?_
          rw [h1, Array.getD_eq_getD_getElem?, hb]; rfl
        cases v with
        | bool b =>
          have h2 : A.tmps.getD t undef = .bool b := ren_plain_eq h1 rfl
          have h3 : A.tmps[t]? = some (.bool b) := by
            cases hx : A.tmps[t]? with
            | none => simp [Array.getD_eq_getD_getElem?, hx, undef] at h2
            | some x => simp [Array.getD_eq_getD_getElem?, hx] at h2; rw [h2]
          simp only [isBool, h3]
          cases b <;> cases want <;> rfl
        | _ =>
          simp only [isBool]
          cases hx : A.tmps[t]? with
          | none => rfl
          | some x =>
            cases x with
            | bool b => have := key b hx; cases this
            | _ => rfl

end
end Go.Ev
