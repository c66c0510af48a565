/-
  The evaluator is sound: calls, rounds, regions in the text's order; no condition.
-/
import Derived.Test.YtahbpehdjbmndaaGreatDoorEvCall
namespace Go.Ev
open Go.RowKit

section
variable {P : Program} {w0 w : World} {ρ : Ren} {h : AHeap} {n : Nat} {tm : T Value} {A : Act} {ih : IH}

theorem isGo_run {g : FuncId} (hg : isGo P g = true) (args : Array Value) (w : World) : (callFunc g args).run P w = .ok (.enter g args) w := by
  unfold isGo at hg
  unfold callFunc
  cases hf : P.funcs[g]? with
  | none => simp [hf] at hg
  | some fn =>
    simp only [hf] at hg
    cases hb : fn.body with
    | none => simp [hb] at hg
    | some c =>
      simp only [hb, Bool.not_eq_true'] at hg
      simp [hf, hb]
      simpa using hg
theorem valRes_some {r : Option Res} {v : Value} {h' : AHeap} (he : valRes r = some (v, h')) : r = some (.val v h') := by
  unfold valRes at he
  cases r with
  | none => simp at he
  | some r => cases r <;> simp at he; obtain ⟨rfl, rfl⟩ := he; rfl
theorem atGlobal_some (hr : Rep P w0 ρ h w) {a : Addr} {v : Value} (he : atGlobal P h a = some v) : w.cell? a = some v := by
  obtain ⟨g, o, sp⟩ := a
  unfold atGlobal at he
  cases sp with
  | some s => simp at he
  | none =>
    simp only at he
    cases hg : Nat.blt g P.globals.size with
    | false => simp [hg] at he
    | true =>
      simp only [hg, cond_true] at he
      cases hc : rowOf h g with
      | none => simp [hc] at he
      | some c =>
        simp only [hc] at he
        cases hn : nthL o c with
        | none => simp [hn] at he
        | some u =>
          simp only [hn] at he
          cases hp : plain u with
          | false => simp [hp] at he
          | true =>
            simp only [hp, cond_true, Option.some.injEq] at he
            subst he
            obtain ⟨b, k, C, e, fz, c', junk, h1, h2, h3, h4⟩ := hr.row hc
            rw [hr.glob g (Nat.le_of_ble_eq_true hg)] at h1
            cases h1
            rw [nthL_eq] at hn
            obtain ⟨u', h5, h6⟩ := renL_get h3 hn
            have := ren_plain_eq h6 hp
            subst this
            have hlt : o < c'.length := (List.getElem?_eq_some_iff.1 h5).1
            rw [cell_of_heap h2, ← Array.getElem?_toList, h4, List.getElem?_append_left hlt]
            exact h5
theorem quickH_run {α : Type} (hr : Rep P w0 ρ h w) : ∀ (s : Sem α) (a : α), quickH P h s = some a → s.run P w = .ok a w := by
  intro s
  induction s with
  | pure b => intro a h; simp [quickH] at h; simp [Sem.run, h]
  | load m ad k ih =>
    intro a he
    simp only [quickH] at he
    cases hv : atGlobal P h ad with
    | none => simp [hv] at he
    | some v =>
      simp only [hv] at he
      simp only [Sem.run, atGlobal_some hr hv]
      exact ih v a he
  | program k ih => intro a h; simp only [Sem.run]; exact ih P a h
  | mark m k ih => intro a h; simp only [Sem.run]; exact ih a h
  | _ => intro a h; simp [quickH] at h
theorem externV_some (hr : Rep P w0 ρ h w) {g : FuncId} {args : List Value} {c : Whom} (he : externV P h g args = some c) : ∃ v, c = .value v ∧ plain v = true ∧ plainL args = true ∧ (callFunc g ⟨args⟩).run P w = .ok (.value v) w := by
  unfold externV at he
  cases hp : plainL args with
  | false => simp [hp] at he
  | true =>
    simp only [hp, cond_true] at he
    cases hq : quickH P h (callFunc g ⟨args⟩) with
    | none => simp [hq] at he
    | some x =>
      cases x <;> simp only [hq] at he <;> first | (cases he; done) | skip
      rename_i v
      cases hv : plain v with
      | false => simp [hv] at he
      | true =>
        simp only [hv, cond_true, forceV_eq, Option.some.injEq] at he
        exact ⟨v, he.symm, hv, rfl, quickH_run hr _ _ hq⟩

/-! ### Loops' records -/
theorem loop_at (hr : Rep P w0 ρ h w) {l N : Nat} {st : LoopState} {pe : Option Code} {tm : T Value} {ps : Array Tmp} {a b : Code} {d : Nat} (hg : h.get l = some (.loop st pe N tm ps a b d)) :
    ∃ B k r, ρ l = some (B, k) ∧ (Instr.getLoop B).run P w = .ok r w ∧ w.heap[B]? = some (.loop r) ∧ r.state = st ∧ r.pending = pe ∧ TRel ρ N tm r.tmps ∧ r.params = ps ∧ r.assign = a ∧ r.body = b ∧ ∃ kd, ρ d = some (r.defers, kd) := by
  obtain ⟨B, k, O, f1, f2, f3, f4⟩ := hr.obj l _ hg rfl
  cases O <;> simp only [ORel] at f4
  rename_i r
  exact ⟨B, k, r, f1, by simp [Instr.getLoop, getObj, Sem.run, f3], f3, f4⟩
theorem loop_set (hr : Rep P w0 ρ h w) {l N : Nat} {st : LoopState} {pe : Option Code} {tm : T Value} {ps : Array Tmp} {a b : Code} {d : Nat} (hg : h.get l = some (.loop st pe N tm ps a b d))
    {B k : Nat} {r : Loop} (hl : ρ l = some (B, k)) (hB : w.heap[B]? = some (.loop r)) (h3 : TRel ρ N tm r.tmps) (h4 : r.params = ps) (h5 : r.assign = a) (h6 : r.body = b) (h7 : ∃ kd, ρ d = some (r.defers, kd))
    (st' : LoopState) (pe' : Option Code) :
    (setObj B (.loop { r with state := st', pending := pe' })).run P w = .ok () (setAt w B (.loop { r with state := st', pending := pe' })) ∧ Rep P w0 ρ (h.put l (.loop st' pe' N tm ps a b d)) (setAt w B (.loop { r with state := st', pending := pe' })) :=
  ⟨run_setObj hB (by intro c e f h; cases h), hr.setAt hg rfl rfl hl ⟨rfl, rfl, h3, h4, h5, h6, h7⟩⟩
theorem begin_ok (hr : Rep P w0 ρ h w) {l : Nat} {h' : AHeap} (he : beginA h l = some h') : ∃ B k w', ρ l = some (B, k) ∧ (Instr.beginRound B).run P w = .ok () w' ∧ Rep P w0 ρ h' w' := by
  unfold beginA at he
  cases hg : h.get l with
  | none => simp [hg] at he
  | some o =>
    cases o <;> simp only [hg] at he <;> first | (cases he; done) | skip
    rename_i st pe N tm ps a b d
    by_cases hst : st = .ready
    · simp only [hst, decide_true, cond_true, AHeap.setK_eq, Option.some.injEq] at he
      subst he
      obtain ⟨B, k, r, f1, f2, f3, f4, f5, f6, f7, f8, f9, f10⟩ := loop_at hr hg
      obtain ⟨g1, g2⟩ := loop_set hr hg f1 f3 f6 f7 f8 f9 f10 .busy pe
      have hpe : ({ r with state := .busy, pending := pe } : Loop) = { r with state := .busy } := by rw [← f5]
      rw [hpe] at g1 g2
      refine ⟨B, k, _, f1, ?_, g2⟩
      simp only [Instr.beginRound, Sem.run_bind, f2, Result.andThen_ok, g1, f4, hst, Sem.run_pure]
    · simp [hst] at he
theorem end_ok (hr : Rep P w0 ρ h w) {l : Nat} {e : AExit} {v : Value} {h' : AHeap} (he : endA h l e = some (v, h')) :
    ∃ B k w', ρ l = some (B, k) ∧ (Instr.endRound B (exitCode e)).run P w = .ok v w' ∧ plain v = true ∧ Rep P w0 ρ h' w' := by
  unfold endA at he
  cases hg : h.get l with
  | none => simp [hg] at he
  | some o =>
    cases o <;> simp only [hg] at he <;> first | (cases he; done) | skip
    rename_i st pe N tm ps a b d
    obtain ⟨B, k, r, f1, f2, f3, f4, f5, f6, f7, f8, f9, f10⟩ := loop_at hr hg
    cases e <;> simp only [isNormal, cond_true, cond_false, AHeap.setK_eq, Option.some.injEq, Prod.mk.injEq] at he
    case normal =>
      obtain ⟨rfl, rfl⟩ := he
      obtain ⟨g1, g2⟩ := loop_set hr hg f1 f3 f6 f7 f8 f9 f10 .ready none
      exact ⟨B, k, _, f1, by simp [Instr.endRound, exitCode, f2, g1], rfl, g2⟩
    all_goals
      obtain ⟨rfl, rfl⟩ := he
      first
        | (obtain ⟨g1, g2⟩ := loop_set hr hg f1 f3 f6 f7 f8 f9 f10 .done (exitCode .ret)
           exact ⟨B, k, _, f1, by simp [Instr.endRound, exitCode, f2] at g1 ⊢; simp [g1], rfl, g2⟩)
        | (rename_i id
           obtain ⟨g1, g2⟩ := loop_set hr hg f1 f3 f6 f7 f8 f9 f10 .done (exitCode (.exit id))
           exact ⟨B, k, _, f1, by simp [Instr.endRound, exitCode, f2] at g1 ⊢; simp [g1], rfl, g2⟩)
        | (rename_i id
           obtain ⟨g1, g2⟩ := loop_set hr hg f1 f3 f6 f7 f8 f9 f10 .done (exitCode (.goto id))
           exact ⟨B, k, _, f1, by simp [Instr.endRound, exitCode, f2] at g1 ⊢; simp [g1], rfl, g2⟩)

/-- yield's arguments put into the loop's parameters -/
theorem putAll_ok {β : Type} : ∀ (ps : List Tmp) {vs vs' : List Value} {tm : T Value} {ts : Array Value} {k : T Value → Option β} {r : β}, TRel ρ n tm ts → renL ρ vs = some vs' → putAllK n ps vs tm k = some r →
    vs'.length = ps.length ∧ ∃ tm', k tm' = some r ∧ TRel ρ n tm' ((ps.zip vs').foldl (fun ts (x : Tmp × Value) => ts.setIfInBounds x.1 x.2) ts)
  | [], vs, vs', tm, ts, k, r, ht, hv, he => by
    cases vs with
    | nil => rw [renL_nil hv]; exact ⟨rfl, tm, by simpa [putAllK] using he, by simpa using ht⟩
    | cons v vs => simp [putAllK] at he
  | t :: ps, vs, vs', tm, ts, k, r, ht, hv, he => by
    cases vs with
    | nil => simp [putAllK] at he
    | cons v vs =>
      obtain ⟨v', us, rfl, h1, h2⟩ := renL_cons hv
      simp only [putAllK] at he
      obtain ⟨tm1, h3, h4⟩ := putK_some (A := { tmps := ts, defers := [] }) ht h1 he
      obtain ⟨h5, tm2, h6, h7⟩ := putAll_ok ps h4 h2 h3
      exact ⟨by simp [h5], tm2, h6, by simpa [Act.put] using h7⟩
theorem isNormal_true {e : AExit} (he : isNormal e = true) : e = .normal := by cases e <;> simp [isNormal] at he ⊢
theorem noMarks_true {m : List Nat} (he : noMarks m = true) : m = [] := by cases m <;> simp [noMarks] at he ⊢
/-- One round. -/
theorem round_ok (hs : Sound P w0 ih) (hr : Rep P w0 ρ h w) {l : Nat} {args args' : List Value} (ha : renL ρ args = some args') {v : Value} {h' : AHeap} (he : evRound ih l args h = some (v, h')) {ro : Option Nat} {m : Nat} :
    ∃ B k f ts as bo, ρ l = some (B, k) ∧ (Instr.yield B ⟨args'⟩).run P w = .ok (.round B f ts as bo) w ∧ RoundIn (FF ro) m P B f ts as bo w (Gives P w0 ρ v h') := by
  unfold evRound at he
  cases hg : h.get l with
  | none => simp [hg] at he
  | some o =>
    cases o <;> simp only [hg] at he <;> first | (cases he; done) | skip
    rename_i st pe N tm ps a b d
    obtain ⟨B, k, r, f1, f2, f3, f4, f5, f6, f7, f8, f9, f10⟩ := loop_at hr hg
    obtain ⟨g1, tm', g2, g3⟩ := putAll_ok ps.toList f6 ha he
    subst f7; subst f8; subst f9
    refine ⟨B, k, r.fn, (r.params.zip ⟨args'⟩).foldl (fun tmps (t, a) => tmps.setIfInBounds t a) r.tmps, r.assign, r.body, f1, ?_, ?_⟩
    · simp only [Instr.yield, Sem.run_bind, f2, Result.andThen_ok]
      rw [if_neg (by simp at g1; simp [g1])]
      simp
    · have hfold : (r.params.zip (⟨args'⟩ : Array Value)).foldl (fun tmps (x : Tmp × Value) => tmps.setIfInBounds x.1 x.2) r.tmps = (r.params.toList.zip args').foldl (fun ts (x : Tmp × Value) => ts.setIfInBounds x.1 x.2) r.tmps := by
        rw [← Array.foldl_toList]; simp
      unfold bodyRound at g2
      cases hr1 : ih (.code r.assign N (some l) tm' [] h) with
      | none => simp [hr1] at g2
      | some r1 =>
        obtain ⟨e1, tm1, mk1, h1, rfl, hc1⟩ := hs.code _ _ _ _ _ _ _ hr1
        simp only [hr1] at g2
        cases hb1 : (noMarks mk1 && isNormal e1) with
        | false => simp [hb1] at g2
        | true =>
          simp only [hb1, cond_true] at g2
          simp only [Bool.and_eq_true] at hb1
          have hn1 := noMarks_true hb1.1
          have hn2 := isNormal_true hb1.2
          subst hn1; subst hn2
          cases hb2 : beginA h1 l with
          | none => simp [hb2] at g2
          | some h2 =>
            simp only [hb2, endRoundA] at g2
            cases hr2 : ih (.code r.body N (some l) tm1 [] h2) with
            | none => simp [hr2] at g2
            | some r2 =>
              obtain ⟨e2, tm2, mk2, h3, rfl, hc2⟩ := hs.code _ _ _ _ _ _ _ hr2
              simp only [hr2] at g2
              cases hb3 : noMarks mk2 with
              | false => simp [hb3] at g2
              | true =>
                simp only [hb3, cond_true] at g2
                refine roundIn_of_wpIn trivial ?_
                have hA := hc1 ρ w { tmps := (r.params.zip (⟨args'⟩ : Array Value)).foldl (fun tmps (x : Tmp × Value) => tmps.setIfInBounds x.1 x.2) r.tmps, defers := [] } (some B) m hr (by simpa only [hfold] using g3) trivial ⟨k, f1⟩
                refine wpIn_mono hA ?_
                intro e a1 w1 hends
                obtain ⟨rfl, σ, hle, hr1', ht1, hm1⟩ := hends
                obtain ⟨B', k', w2, q1, q2, q3⟩ := begin_ok hr1' hb2
                rw [hle _ _ f1] at q1; cases q1
                refine ⟨w2, q2, ?_⟩
                have hA2 := hc2 σ w2 a1 (some B) m q3 ht1 hm1 ⟨k, hle _ _ f1⟩
                refine wpIn_mono hA2 ?_
                intro e' a2 w3 hends2
                obtain ⟨rfl, τ, hle2, hr2', ht2, hm2⟩ := hends2
                obtain ⟨B', k', w4, q1, q4, q5, q6⟩ := end_ok hr2' g2
                rw [hle2 _ _ (hle _ _ f1)] at q1; cases q1
                have hR : Gives P w0 ρ v h' (.returned v) w4 := ⟨τ, Ren.le_trans hle hle2, ren_plain τ _ q5, q6⟩
                cases e2 <;> exact ⟨v, w4, q4, hR⟩
end
end Go.Ev
