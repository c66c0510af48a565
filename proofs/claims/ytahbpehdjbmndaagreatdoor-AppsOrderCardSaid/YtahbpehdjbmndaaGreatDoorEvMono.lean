/-
  The evaluator: more fuel, the same answer; what it comes to with fuel enough; no condition.
-/
import Derived.Test.YtahbpehdjbmndaaGreatDoorEvLaid
namespace Go.Ev
open Go.RowKit

def IHle (ih ih' : IH) : Prop := ∀ t r, ih t = some r → ih' t = some r
section
variable {P : Program} {ih ih' : IH}
theorem valRes_mono {x x' : Option Res} (hx : ∀ r, x = some r → x' = some r) {o : Value × AHeap} (h : valRes x = some o) : valRes x' = some o := by
  cases x with
  | none => simp [valRes] at h
  | some r => rw [hx r rfl]; exact h
theorem putK_mono {β : Type} {n : Nat} {tm : T Value} {dst : Option Tmp} {v : Value} {k k' : T Value → Option β} (hk : ∀ tm r, k tm = some r → k' tm = some r) {r : β} (h : putK n tm dst v k = some r) : putK n tm dst v k' = some r := by
  unfold putK at h ⊢
  cases dst with
  | none => exact hk _ _ h
  | some d =>
    simp only at h ⊢
    cases hb : Nat.blt d n with
    | false => simp [hb] at h
    | true =>
      simp only [hb, T.setK_eq] at h ⊢
      exact hk _ _ h
theorem putAllK_mono {β : Type} {n : Nat} {k k' : T Value → Option β} (hk : ∀ tm r, k tm = some r → k' tm = some r) : ∀ (ts : List Tmp) (vs : List Value) (tm : T Value) (r : β), putAllK n ts vs tm k = some r → putAllK n ts vs tm k' = some r
  | [], [], tm, r, h => hk _ _ h
  | [], _ :: _, tm, r, h => by simp [putAllK] at h
  | t :: ts, [], tm, r, h => by simp [putAllK] at h
  | t :: ts, v :: vs, tm, r, h => by
    simp only [putAllK] at h ⊢
    exact putK_mono (fun tm r h => putAllK_mono hk ts vs tm r h) h
theorem evRound_mono (hle : IHle ih ih') {l : Nat} {args : List Value} {h : AHeap} {o : Value × AHeap} (he : evRound ih l args h = some o) : evRound ih' l args h = some o := by
  unfold evRound at he ⊢
  cases hg : h.get l with
  | none => simp [hg] at he
  | some ob =>
    cases ob <;> simp only [hg] at he ⊢ <;> first | (cases he; done) | skip
    rename_i st pe n tm ps a b d
    refine putAllK_mono (fun tm r h1 => ?_) _ _ _ _ he
    cases hc : ih (.code a n (some l) tm [] h) with
    | none => simp [hc, bodyRound] at h1
    | some r1 =>
      rw [hle _ _ hc]
      rw [hc] at h1
      unfold bodyRound at h1 ⊢
      cases r1 <;> simp only at h1 ⊢ <;> first | (cases h1; done) | skip
      rename_i e tm1 mk1 h2
      cases hb : (noMarks mk1 && isNormal e) with
      | false => simp [hb] at h1
      | true =>
        simp only [hb, cond_true] at h1 ⊢
        cases hba : beginA h2 l with
        | none => simp [hba] at h1
        | some h3 =>
          simp only [hba] at h1 ⊢
          cases hc2 : ih (.code b n (some l) tm1 [] h3) with
          | none => simp [hc2, endRoundA] at h1
          | some r2 => rw [hle _ _ hc2]; rw [hc2] at h1; exact h1
theorem evOper_mono (hle : IHle ih ih') {o : Oper} {tm : T Value} {h : AHeap} {x : Value × AHeap} (he : evOper o.op ih P o tm h = some x) : evOper o.op ih' P o tm h = some x := by
  by_cases hc : ∃ c, o.op = .call c
  · obtain ⟨c, hop⟩ := hc
    have h1 : opCall c ih P o tm h = some x := by rw [hop] at he; exact he
    have h2 : evOper o.op ih' P o tm h = opCall c ih' P o tm h := by rw [hop]; rfl
    rw [h2]
    unfold opCall at h1 ⊢
    cases hcc : c.callee with
    | builtin b => simp only [hcc] at h1 ⊢; exact h1
    | invoke a b =>
      simp only [hcc] at h1 ⊢
      cases hw : whomOf P h c tm with
      | none => simp [hw, evWhom] at h1
      | some wh =>
        cases wh <;> simp only [hw, evWhom] at h1 ⊢
        · exact valRes_mono (fun r hr => hle _ _ hr) h1
        · exact evRound_mono hle h1
        · exact h1
    | value f =>
      simp only [hcc] at h1 ⊢
      cases hw : whomOf P h c tm with
      | none => simp [hw, evWhom] at h1
      | some wh =>
        cases wh <;> simp only [hw, evWhom] at h1 ⊢
        · exact valRes_mono (fun r hr => hle _ _ hr) h1
        · exact evRound_mono hle h1
        · exact h1
  · have h2 : evOper o.op ih' P o tm h = evOper o.op ih P o tm h := by
      cases hop : o.op <;> first | rfl | exact absurd ⟨_, hop⟩ hc
    rw [h2]; exact he
theorem stepOp_mono (hle : IHle ih ih') {ops : List Oper} {n : Nat} {o : Oper} {tm : T Value} {h : AHeap} {k k' : T Value → AHeap → Option Res} (hk : ∀ tm h r, k tm h = some r → k' tm h = some r) {r : Res} (he : stepOp P ih ops n o tm h k = some r) :
    stepOp P ih' ops n o tm h k' = some r := by
  unfold stepOp at he ⊢
  cases hw : wantedA ops tm o.guard with
  | false => simp only [hw] at he ⊢; exact putK_mono (fun tm r h1 => hk _ _ _ h1) he
  | true =>
    simp only [hw] at he ⊢
    unfold contOp at he ⊢
    cases hev : evOper o.op ih P o tm h with
    | none => simp [hev] at he
    | some vh =>
      obtain ⟨v, h1⟩ := vh
      rw [evOper_mono hle hev]
      simp only [hev] at he ⊢
      exact putK_mono (fun tm r h1 => hk _ _ _ h1) he
theorem evOps_mono (hle : IHle ih ih') {ops : List Oper} {n : Nat} {k k' : T Value → AHeap → Option Res} (hk : ∀ tm h r, k tm h = some r → k' tm h = some r) : ∀ (l : List Oper) (tm : T Value) (h : AHeap) (r : Res), evOps P ih ops n l tm h k = some r → evOps P ih' ops n l tm h k' = some r
  | [], _, _, _, he => hk _ _ _ he
  | o :: l, tm, h, r, he => by
    have he' : stepOp P ih ops n o tm h (fun tm' h' => evOps P ih ops n l tm' h' k) = some r := he
    show stepOp P ih' ops n o tm h (fun tm' h' => evOps P ih' ops n l tm' h' k') = some r
    exact stepOp_mono hle (fun tm h r h1 => evOps_mono hle hk l tm h r h1) he'
theorem noteOp_mono {ops : List Oper} {b : List Nat} {i : Nat} {o : Oper} {w : Bool} {tm : T Value} {v : Value} {h : AHeap} {hs : List AHeap} {ms : List Met} {k k' : List AHeap → List Met → Option Res} (hk : ∀ hs ms r, k hs ms = some r → k' hs ms = some r) {r : Res}
    (he : noteOp P ops b i o w tm v h hs ms k = some r) : noteOp P ops b i o w tm v h hs ms k' = some r := by
  unfold noteOp at he ⊢
  cases hk' : kindOf P o with
  | eff => simp only [hk'] at he ⊢; exact hk _ _ _ he
  | pure => simp only [hk'] at he ⊢; exact hk _ _ _ he
  | read =>
    simp only [hk'] at he ⊢
    cases w with
    | true => simp only [cond_true] at he ⊢; exact hk _ _ _ he
    | false => simp only [cond_false] at he ⊢; exact hk _ _ _ he
theorem evText_mono (hle : IHle ih ih') {ops : List Oper} {b : List Nat} {n : Nat} {k k' : T Value → AHeap → Option Res} (hk : ∀ tm h r, k tm h = some r → k' tm h = some r) : ∀ (l : List Oper) (i : Nat) (tm : T Value) (h : AHeap) (hs : List AHeap) (ms : List Met) (r : Res),
    evText P ih ops b n k l i tm h hs ms = some r → evText P ih' ops b n k' l i tm h hs ms = some r
  | [], i, tm, h, hs, ms, r, he => by
    simp only [evText] at he ⊢
    cases ha : allHold P hs.reverse ms with
    | false => simp [ha] at he
    | true => simp only [ha, cond_true] at he ⊢; exact hk _ _ _ he
  | o :: l, i, tm, h, hs, ms, r, he => by
    simp only [evText, stepText] at he ⊢
    have hrec : ∀ tm' h' hs' ms' r, evText P ih ops b n k l (i + 1) tm' h' hs' ms' = some r → evText P ih' ops b n k' l (i + 1) tm' h' hs' ms' = some r := fun tm' h' hs' ms' r h1 => evText_mono hle hk l (i + 1) tm' h' hs' ms' r h1
    cases hw : wantedA ops tm o.guard with
    | false =>
      simp only [hw, cond_false] at he ⊢
      exact putK_mono (fun tm r h1 => noteOp_mono (fun hs ms r h2 => hrec _ _ _ _ _ h2) h1) he
    | true =>
      simp only [hw, cond_true, contText] at he ⊢
      cases hev : evOper o.op ih P o tm h with
      | none => simp [hev] at he
      | some vh =>
        obtain ⟨v, h1⟩ := vh
        rw [evOper_mono hle hev]
        simp only [hev] at he ⊢
        exact putK_mono (fun tm r h1 => noteOp_mono (fun hs ms r h2 => hrec _ _ _ _ _ h2) h1) he
theorem evDraw_mono (hle : IHle ih ih') {ops : List Oper} {n : Nat} {tm : T Value} {h : AHeap} {k k' : T Value → AHeap → Option Res} (hk : ∀ tm h r, k tm h = some r → k' tm h = some r) {r : Res} (he : evDraw P ih ops n tm h k = some r) : evDraw P ih' ops n tm h k' = some r := by
  unfold evDraw at he ⊢
  cases hd : drawOk P ops with
  | false => simp [hd] at he
  | true => simp only [hd, cond_true] at he ⊢; exact evText_mono hle hk _ _ _ _ _ _ _ he
theorem thenCode_mono {x x' : Option Res} (hx : ∀ r, x = some r → x' = some r) {k k' : T Value → List Nat → AHeap → Option Res} (hk : ∀ tm mk h r, k tm mk h = some r → k' tm mk h = some r) {r : Res} (he : thenCode x k = some r) : thenCode x' k' = some r := by
  rcases thenCode_some he with ⟨tm, mk, h, h1, h2⟩ | ⟨e, tm, mk, h, h1, h2, rfl⟩
  · rw [hx _ h1]
    exact hk _ _ _ _ h2
  · rw [hx _ h1]
    cases e <;> first | exact absurd rfl h2 | rfl
theorem blockEnd_mono {x x' : Option Res} (hx : ∀ r, x = some r → x' = some r) {id : Nat} {r : Res} (he : blockEnd id x = some r) : blockEnd id x' = some r := by
  cases x with
  | none => simp [blockEnd] at he
  | some y => rw [hx y rfl]; exact he
theorem evCode_mono (hle : IHle ih ih') {c : Code} {n : Nat} {ro : Option Nat} {tm : T Value} {mk : List Nat} {h : AHeap} {r : Res} (he : evCode c ih P n ro tm mk h = some r) : evCode c ih' P n ro tm mk h = some r := by
  cases c with
  | skip => exact he
  | region id ops draw =>
    have he' : cRegion ops draw ih P n ro tm mk h = some r := he
    show cRegion ops draw ih' P n ro tm mk h = some r
    unfold cRegion at he' ⊢
    cases draw with
    | false => exact evOps_mono hle (fun _ _ _ h1 => h1) _ _ _ _ he'
    | true => exact evDraw_mono hle (fun _ _ _ h1 => h1) he'
  | seq a b => exact thenCode_mono (fun r h1 => hle _ _ h1) (fun _ _ _ _ h1 => hle _ _ h1) he
  | cond x a b =>
    have he' : cCond x a b ih P n ro tm mk h = some r := he
    show cCond x a b ih' P n ro tm mk h = some r
    unfold cCond at he' ⊢
    cases hx : val? P x tm with
    | none => simp [hx] at he'
    | some v =>
      simp only [hx] at he' ⊢
      cases v <;> simp only at he' ⊢ <;> first | (cases he'; done) | skip
      rename_i t
      cases t <;> exact hle _ _ he'
  | block id b => exact blockEnd_mono (fun r h1 => hle _ _ h1) he
  | loop b => exact thenCode_mono (fun r h1 => hle _ _ h1) (fun _ _ _ _ h1 => hle _ _ h1) he
  | rangeFunc g ps a b =>
    have he' : cRange g ps a b ih P n ro tm mk h = some r := he
    show cRange g ps a b ih' P n ro tm mk h = some r
    unfold cRange at he' ⊢
    cases hx : val? P g tm with
    | none => simp [hx] at he'
    | some gv =>
      simp only [hx] at he' ⊢
      cases gv <;> simp only at he' ⊢ <;> first | (cases he'; done) | skip
      rename_i fn first cap
      cases fn <;> simp only at he' ⊢ <;> first | (cases he'; done) | skip
      rename_i f
      cases hgo : isGo P f with
      | false => simp [hgo] at he'
      | true =>
        simp only [hgo, cond_true] at he' ⊢
        have hR : ∀ (d : Nat) (mk : List Nat) (h : AHeap) r, evRange ih f first.toList cap.toList ps a b n ro tm d mk h = some r → evRange ih' f first.toList cap.toList ps a b n ro tm d mk h = some r := by
          intro d mk h r he
          unfold evRange at he ⊢
          rw [AHeap.newK_eq] at he ⊢
          cases hv : valRes (ih (.call f (first.toList ++ (.func (.yield h.next) #[] #[] :: cap.toList)) (h.push (.loop .ready none n tm ps a b d)))) with
          | none => simp [hv, endRange] at he
          | some vh =>
            rw [valRes_mono (fun r h1 => hle _ _ h1) hv]
            simp only [hv, endRange] at he ⊢
            unfold endLoopA at he ⊢
            cases hg : vh.2.get h.next with
            | none => simp [hg] at he
            | some ob =>
              cases ob <;> simp only [hg] at he ⊢ <;> first | (cases he; done) | skip
              rename_i st pe N tm' ps' a' b' d'
              by_cases hst : st = .busy
              · simp [hst] at he
              · simp only [hst, decide_false, cond_false, AHeap.setK_eq] at he ⊢
                cases pe with
                | none => exact he
                | some c => exact hle _ _ he
        unfold rangeAt at he' ⊢
        cases ro with
        | none => simp only [AHeap.newK_eq] at he' ⊢; exact hR _ _ _ _ he'
        | some l =>
          simp only at he' ⊢
          cases hdf : defersOf h l with
          | none => simp [hdf] at he'
          | some d => simp only [hdf] at he' ⊢; exact hR _ _ _ _ he'
  | exit id => exact he
  | scope b => cases he
  | label l => exact he
  | goto l => exact he
  | ret => exact he
  | refuse s => cases he
theorem initK_mono {β : Type} {k k' : T Value → Option β} (hk : ∀ tm r, k tm = some r → k' tm = some r) : ∀ (vs : List Value) (i : Nat) (tm : T Value) (r : β), initK vs i tm k = some r → initK vs i tm k' = some r
  | [], _, _, _, h => hk _ _ h
  | v :: vs, i, tm, r, h => by
    simp only [initK, T.setK_eq] at h ⊢
    exact initK_mono hk vs _ _ _ h
theorem evCall_mono {orc : Orc} (hle : IHle ih ih') {f : FuncId} {args : List Value} {h : AHeap} {r : Res} (he : evCall P orc ih f args h = some r) : evCall P orc ih' f args h = some r := by
  unfold evCall at he ⊢
  cases ho : orc f args h with
  | some v =>
    cases v with
    | val v h' => simp only [ho] at he ⊢; exact he
    | to g args' => simp only [ho] at he ⊢; exact hle _ _ he
  | none =>
    simp only [ho, evFn] at he ⊢
    cases hf : P.funcs[f]? with
    | none => simp [hf] at he
    | some fn =>
      simp only [hf, enter] at he ⊢
      cases hb : fn.body with
      | none => simp [hb] at he
      | some c =>
        simp only [hb] at he ⊢
        cases hl : Nat.ble args.length fn.ntmps with
        | false => simp [hl] at he
        | true =>
          simp only [hl, cond_true] at he ⊢
          refine initK_mono (fun tm r h1 => ?_) _ _ _ _ he
          cases hc : ih (.code c fn.ntmps none tm [] h) with
          | none => simp [hc, leave] at h1
          | some r1 => rw [hle _ _ hc]; rw [hc] at h1; exact h1
theorem ev_step {orc : Orc} : ∀ f, IHle (ev P orc f) (ev P orc (f + 1))
  | 0 => fun t r h => by cases h
  | f + 1 => fun t r h => by
    cases t with
    | code c n ro tm mk h' => exact evCode_mono (ev_step f) h
    | call g args h' => exact evCall_mono (ev_step f) h
theorem ev_mono {orc : Orc} {f g : Nat} (hfg : f ≤ g) : IHle (ev P orc f) (ev P orc g) := by
  induction hfg with
  | refl => exact fun _ _ h => h
  | step _ ih => exact fun t r h => ev_step _ _ _ (ih t r h)

/-- With fuel enough. -/
def Lim (P : Program) (orc : Orc) (t : Task) (r : Res) : Prop := ∃ f, ev P orc f t = some r
theorem Lim.fn {orc : Orc} {t : Task} {r r' : Res} (h : Lim P orc t r) (h' : Lim P orc t r') : r = r' := by
  obtain ⟨f, h⟩ := h
  obtain ⟨g, h'⟩ := h'
  have h1 := ev_mono (Nat.le_max_left f g) _ _ h
  have h2 := ev_mono (Nat.le_max_right f g) _ _ h'
  rw [h1] at h2; exact Option.some.inj h2
end
end Go.Ev
