/-
  The evaluator is sound: code; ranges over functions; no condition.
-/
import Derived.Test.YtahbpehdjbmndaaGreatDoorEvDraw3
import Derived.Sort.LoopGhostIn
namespace Go.Ev
open Go.RowKit

section
variable {P : Program} {w0 : World} {orc : Orc} {ρ : Ren}

/-- what is owed of a piece of code -/
def CodeOk (P : Program) (w0 : World) (c : Code) (n : Nat) (ro : Option Nat) (tm : T Value) (mk : List Nat) (h : AHeap) (r : Res) : Prop :=
  ∃ e tm' mk' h', r = .code e tm' mk' h' ∧
    ∀ ρ w A ro' m, Rep P w0 ρ h w → TRel ρ n tm A.tmps → MRel ρ mk A.defers → RoRel ρ ro ro' → c.wpIn (FF ro') m P (Ends P w0 ρ n e tm' mk' h') A w

theorem thenCode_some {x : Option Res} {k : T Value → List Nat → AHeap → Option Res} {r : Res} (he : thenCode x k = some r) :
    (∃ tm mk h, x = some (.code .normal tm mk h) ∧ k tm mk h = some r) ∨ (∃ e tm mk h, x = some (.code e tm mk h) ∧ e ≠ .normal ∧ r = .code e tm mk h) := by
  cases x with
  | none => cases he
  | some y =>
    cases y with
    | val v h => cases he
    | code e tm mk h =>
      cases e with
      | normal => exact .inl ⟨tm, mk, h, rfl, he⟩
      | exit id =>
        have he' : some (Res.code (.exit id) tm mk h) = some r := he
        cases he'
        exact .inr ⟨_, _, _, _, rfl, by simp, rfl⟩
      | goto id =>
        have he' : some (Res.code (.goto id) tm mk h) = some r := he
        cases he'
        exact .inr ⟨_, _, _, _, rfl, by simp, rfl⟩
      | ret =>
        have he' : some (Res.code .ret tm mk h) = some r := he
        cases he'
        exact .inr ⟨_, _, _, _, rfl, by simp, rfl⟩
theorem exitOf_ne {e : AExit} (he : e ≠ .normal) : exitOf e ≠ .normal := by cases e <;> simp [exitOf] at he ⊢
theorem then_other {next : Act → World → Prop} {Q : Exit → Act → World → Prop} {e : AExit} (he : e ≠ .normal) {a : Act} {w : World} (hq : Q (exitOf e) a w) : Exit.then next Q (exitOf e) a w := by
  cases e <;> first | exact absurd rfl he | exact hq

theorem seq_ok {ih : IH} (hs : Sound P w0 ih) {a b : Code} {n : Nat} {ro : Option Nat} {tm : T Value} {mk : List Nat} {h : AHeap} {r : Res} (he : cSeq a b ih P n ro tm mk h = some r) : CodeOk P w0 (.seq a b) n ro tm mk h r := by
  unfold cSeq at he
  rcases thenCode_some he with ⟨tm1, mk1, h1, g1, g2⟩ | ⟨e, tm1, mk1, h1, g1, g2, rfl⟩
  · obtain ⟨e1, tm', mk', h', q1, q2⟩ := hs.code _ _ _ _ _ _ _ g1
    cases q1
    obtain ⟨e2, tm2, mk2, h2, rfl, q4⟩ := hs.code _ _ _ _ _ _ _ g2
    refine ⟨e2, tm2, mk2, h2, rfl, fun ρ w A ro' m hr ht hm hro => wpIn_seq (wpIn_mono (q2 ρ w A ro' m hr ht hm hro) ?_)⟩
    rintro e a1 w1 ⟨rfl, σ, hle, hr1, ht1, hm1⟩
    exact wpIn_mono (q4 σ w1 a1 ro' m hr1 ht1 hm1 (hro.mono hle)) (fun _ _ _ hx => Ends.mono hle hx)
  · obtain ⟨e1, tm', mk', h', q1, q2⟩ := hs.code _ _ _ _ _ _ _ g1
    cases q1
    refine ⟨e, tm1, mk1, h1, rfl, fun ρ w A ro' m hr ht hm hro => wpIn_seq (wpIn_mono (q2 ρ w A ro' m hr ht hm hro) ?_)⟩
    rintro e' a1 w1 ⟨rfl, hx⟩
    exact then_other g2 ⟨rfl, hx⟩
theorem cond_ok {ih : IH} (hs : Sound P w0 ih) {x : Operand} {a b : Code} {n : Nat} {ro : Option Nat} {tm : T Value} {mk : List Nat} {h : AHeap} {r : Res} (he : cCond x a b ih P n ro tm mk h = some r) : CodeOk P w0 (.cond x a b) n ro tm mk h r := by
  unfold cCond at he
  cases hx : val? P x tm with
  | none => simp [hx] at he
  | some v =>
    simp only [hx] at he
    cases v <;> simp only at he <;> first | (cases he; done) | skip
    rename_i t
    cases t with
    | true =>
      obtain ⟨e, tm', mk', h', rfl, q⟩ := hs.code _ _ _ _ _ _ _ he
      exact ⟨e, tm', mk', h', rfl, fun ρ w A ro' m hr ht hm hro => wpIn_cond_true (ren_plain_eq (val_ren hr ht hx) rfl) (q ρ w A ro' m hr ht hm hro)⟩
    | false =>
      obtain ⟨e, tm', mk', h', rfl, q⟩ := hs.code _ _ _ _ _ _ _ he
      exact ⟨e, tm', mk', h', rfl, fun ρ w A ro' m hr ht hm hro => wpIn_cond_false (ren_plain_eq (val_ren hr ht hx) rfl) (q ρ w A ro' m hr ht hm hro)⟩
theorem block_ok {ih : IH} (hs : Sound P w0 ih) {id : Nat} {b : Code} {n : Nat} {ro : Option Nat} {tm : T Value} {mk : List Nat} {h : AHeap} {r : Res} (he : cBlock id b ih P n ro tm mk h = some r) : CodeOk P w0 (.block id b) n ro tm mk h r := by
  unfold cBlock at he
  cases hx : ih (.code b n ro tm mk h) with
  | none => simp [hx, blockEnd] at he
  | some r1 =>
    obtain ⟨e1, tm1, mk1, h1, rfl, q⟩ := hs.code _ _ _ _ _ _ _ hx
    simp only [hx, blockEnd] at he
    cases e1 with
    | exit id' =>
      simp only at he
      by_cases hid : id' = id
      · subst hid
        simp only [Nat.beq_refl, cond_true, Option.some.injEq] at he
        subst he
        refine ⟨.normal, tm1, mk1, h1, rfl, fun ρ w A ro' m hr ht hm hro => wpIn_block (wpIn_mono (q ρ w A ro' m hr ht hm hro) ?_)⟩
        rintro e a1 w1 ⟨rfl, hx⟩
        simp only [exitOf, Exit.inBlock, if_true]
        exact ⟨rfl, hx⟩
      · have hb : Nat.beq id' id = false := by
          cases hb : Nat.beq id' id with
          | false => rfl
          | true => exact absurd (Nat.eq_of_beq_eq_true hb) hid
        simp only [hb, cond_false, Option.some.injEq] at he
        subst he
        refine ⟨.exit id', tm1, mk1, h1, rfl, fun ρ w A ro' m hr ht hm hro => wpIn_block (wpIn_mono (q ρ w A ro' m hr ht hm hro) ?_)⟩
        rintro e a1 w1 ⟨rfl, hx⟩
        simp only [exitOf, Exit.inBlock, hid, if_false]
        exact ⟨rfl, hx⟩
    | normal =>
      simp only [Option.some.injEq] at he
      subst he
      refine ⟨_, tm1, mk1, h1, rfl, fun ρ w A ro' m hr ht hm hro => wpIn_block (wpIn_mono (q ρ w A ro' m hr ht hm hro) ?_)⟩
      rintro e a1 w1 ⟨rfl, hx⟩
      exact ⟨rfl, hx⟩
    | goto l =>
      simp only [Option.some.injEq] at he
      subst he
      refine ⟨_, tm1, mk1, h1, rfl, fun ρ w A ro' m hr ht hm hro => wpIn_block (wpIn_mono (q ρ w A ro' m hr ht hm hro) ?_)⟩
      rintro e a1 w1 ⟨rfl, hx⟩
      exact ⟨rfl, hx⟩
    | ret =>
      simp only [Option.some.injEq] at he
      subst he
      refine ⟨_, tm1, mk1, h1, rfl, fun ρ w A ro' m hr ht hm hro => wpIn_block (wpIn_mono (q ρ w A ro' m hr ht hm hro) ?_)⟩
      rintro e a1 w1 ⟨rfl, hx⟩
      exact ⟨rfl, hx⟩
theorem loop_ok {f : Nat} (hs : ∀ g, g ≤ f → Sound P w0 (ev P orc g)) {b : Code} {n : Nat} {ro : Option Nat} {tm : T Value} {mk : List Nat} {h : AHeap} {r : Res} (he : cLoop b (ev P orc f) P n ro tm mk h = some r) : CodeOk P w0 (.loop b) n ro tm mk h r := by
  have hform : ∃ e tm' mk' h', r = .code e tm' mk' h' := by
    unfold cLoop at he
    rcases thenCode_some he with ⟨tm1, mk1, h1, g1, g2⟩ | ⟨e, tm1, mk1, h1, g1, g2, rfl⟩
    · obtain ⟨e2, tm2, mk2, h2, rfl, q4⟩ := (hs f (Nat.le_refl _)).code _ _ _ _ _ _ _ g2
      exact ⟨_, _, _, _, rfl⟩
    · exact ⟨_, _, _, _, rfl⟩
  obtain ⟨e, tm', mk', h', rfl⟩ := hform
  refine ⟨e, tm', mk', h', rfl, fun ρ w A ro' m hr ht hm hro => ?_⟩
  refine wpIn_loop_ghost (fun g A w => g ≤ f + 1 ∧ ∃ σ tm mk h, ρ.le σ ∧ Rep P w0 σ h w ∧ TRel σ n tm A.tmps ∧ MRel σ mk A.defers ∧ ev P orc g (.code (.loop b) n ro tm mk h) = some (.code e tm' mk' h')) (f + 1)
    ⟨Nat.le_refl _, ρ, tm, mk, h, ρ.le_refl, hr, ht, hm, he⟩ ?_
  rintro g A w ⟨hg, σ, tm1, mk1, h1, hle, hr1, ht1, hm1, hev⟩
  cases g with
  | zero => cases hev
  | succ g =>
    have hev' : cLoop b (ev P orc g) P n ro tm1 mk1 h1 = some (.code e tm' mk' h') := hev
    unfold cLoop at hev'
    have hsg := hs g (by omega)
    rcases thenCode_some hev' with ⟨tm2, mk2, h2, g1, g2⟩ | ⟨e2, tm2, mk2, h2, g1, g2, g3⟩
    · obtain ⟨e2, tm3, mk3, h3, q1, q2⟩ := hsg.code _ _ _ _ _ _ _ g1
      cases q1
      refine wpIn_mono (q2 σ w A ro' m hr1 ht1 hm1 (hro.mono hle)) ?_
      rintro e3 a1 w1 ⟨rfl, τ, hle2, hr2, ht2, hm2⟩
      exact ⟨g, by omega, by omega, τ, tm2, mk2, h2, Ren.le_trans hle hle2, hr2, ht2, hm2, g2⟩
    · cases g3
      obtain ⟨e3, tm3, mk3, h3, q1, q2⟩ := hsg.code _ _ _ _ _ _ _ g1
      cases q1
      refine wpIn_mono (q2 σ w A ro' m hr1 ht1 hm1 (hro.mono hle)) ?_
      rintro e3 a1 w1 ⟨rfl, hx⟩
      exact then_other g2 (Ends.mono hle ⟨rfl, hx⟩)
theorem region_ok {ih : IH} (hs : Sound P w0 ih) {id : Nat} {ops : Array Oper} {draw : Bool} {n : Nat} {ro : Option Nat} {tm : T Value} {mk : List Nat} {h : AHeap} {r : Res} (he : cRegion ops draw ih P n ro tm mk h = some r) : CodeOk P w0 (.region id ops draw) n ro tm mk h r := by
  unfold cRegion at he
  cases draw with
  | false =>
    simp only [cond_false] at he
    have hform : ∀ (l : List Oper) (tm : T Value) (h : AHeap), evOps P ih ops.toList n l tm h (fun tm' h' => some (.code .normal tm' mk h')) = some r → ∃ tm' h', r = .code .normal tm' mk h' := by
      intro l
      induction l with
      | nil => intro tm h he; have he' : some (Res.code .normal tm mk h) = some r := he; cases he'; exact ⟨_, _, rfl⟩
      | cons o l ih' =>
        intro tm h he
        have he' : stepOp P ih ops.toList n o tm h (fun tm' h' => evOps P ih ops.toList n l tm' h' (fun tm' h' => some (.code .normal tm' mk h'))) = some r := he
        unfold stepOp at he'
        cases hw : wantedA ops.toList tm o.guard with
        | false =>
          simp only [hw] at he'
          obtain ⟨tm1, h1, _⟩ := putK_raw he'
          exact ih' _ _ h1
        | true =>
          simp only [hw] at he'
          unfold contOp at he'
          cases hev : evOper o.op ih P o tm h with
          | none => simp [hev] at he'
          | some vh =>
            obtain ⟨v, h1⟩ := vh
            simp only [hev] at he'
            obtain ⟨tm1, h1, _⟩ := putK_raw he'
            exact ih' _ _ h1
    obtain ⟨tm', h', rfl⟩ := hform _ _ _ he
    refine ⟨.normal, tm', mk, h', rfl, fun ρ w A ro' m hr ht hm hro => wpIn_region_list (evOps_wp hs ops ops.toList hr ht he ?_)⟩
    intro σ tm1 h1 A1 w1 g1 g2 g3 g4 g5
    cases g5
    exact ⟨rfl, σ, g1, g2, g3, by rw [g4]; exact hm.mono g1⟩
  | true =>
    simp only [cond_true] at he
    have hform : ∃ tm' h', r = .code .normal tm' mk h' := by
      unfold evDraw at he
      cases hd : drawOk P ops.toList with
      | false => simp [hd] at he
      | true =>
        simp only [hd, cond_true] at he
        obtain ⟨V, TM, HH, HS, MS, q1, q2, q3, q4, q5, q6, q7⟩ := evText_trace ops.toList (befs ops.toList []) n _ r ops.toList 0 tm h [h] [] he
        cases q6
        exact ⟨_, _, rfl⟩
    obtain ⟨tm', h', rfl⟩ := hform
    refine ⟨.normal, tm', mk, h', rfl, fun ρ w A ro' m hr ht hm hro => evDraw_wp hs hr ht he ?_⟩
    intro σ tm1 h1 A1 w1 g1 g2 g3 g4 g5
    cases g5
    exact ⟨rfl, σ, g1, g2, g3, by rw [g4]; exact hm.mono g1⟩
end
end Go.Ev
