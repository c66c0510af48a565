/-
  The evaluator is sound: ranges over functions, calls, the whole; no condition.
-/
import Derived.Test.YtahbpehdjbmndaaGreatDoorEvCode
namespace Go.Ev
open Go.RowKit

section
variable {P : Program} {w0 : World} {orc : Orc} {ρ : Ren} {w : World} {h : AHeap} {n : Nat} {tm : T Value} {A : Act}

/-! ### A range over a function -/
theorem endLoop_ok (hr : Rep P w0 ρ h w) {l : Nat} {k : Option Code → AHeap → Option Res} {r : Res} (he : endLoopA h l k = some r) :
    ∃ B kk pe w' h', ρ l = some (B, kk) ∧ (Instr.endLoop B).run P w = .ok pe w' ∧ Rep P w0 ρ h' w' ∧ k pe h' = some r := by
  unfold endLoopA at he
  cases hg : h.get l with
  | none => simp [hg] at he
  | some o =>
    cases o <;> simp only [hg] at he <;> first | (cases he; done) | skip
    rename_i st pe N tm ps a b d
    by_cases hst : st = .busy
    · simp [hst] at he
    · simp only [hst, decide_false, cond_false, AHeap.setK_eq] at he
      obtain ⟨B, kk, r', f1, f2, f3, f4, f5, f6, f7, f8, f9, f10⟩ := loop_at hr hg
      obtain ⟨g1, g2⟩ := loop_set hr hg f1 f3 f6 f7 f8 f9 f10 .exhausted pe
      refine ⟨B, kk, pe, _, _, f1, ?_, g2, he⟩
      have hb : (r'.state == .busy) = false := by
        rw [f4]; cases st <;> first | rfl | exact absurd rfl hst
      simp only [Instr.endLoop, Sem.run_bind, f2, Result.andThen_ok, hb, Bool.false_eq_true, if_false, g1, Sem.run_pure, f5]
theorem evRange_form {ih : IH} (hs : Sound P w0 ih) {f : FuncId} {first cap : List Value} {ps : Array Tmp} {as bo : Code} {ro : Option Nat} {d : Nat} {mk : List Nat} {r : Res} (he : evRange ih f first cap ps as bo n ro tm d mk h = some r) :
    ∃ v h2, ih (.call f (first ++ (.func (.yield h.next) #[] #[] :: cap)) (h.push (.loop .ready none n tm ps as bo d))) = some (.val v h2) ∧
      ∃ e tm' mk' h', r = .code e tm' mk' h' ∧ endLoopA h2 h.next (fun pe h3 => match pe with
        | none => some (.code .normal tm mk h3)
        | some c => ih (.code c n ro tm mk h3)) = some (.code e tm' mk' h') := by
  unfold evRange at he
  rw [AHeap.newK_eq] at he
  cases hv : valRes (ih (.call f (first ++ (.func (.yield h.next) #[] #[] :: cap)) (h.push (.loop .ready none n tm ps as bo d)))) with
  | none => simp [hv, endRange] at he
  | some vh =>
    obtain ⟨v, h2⟩ := vh
    refine ⟨v, h2, valRes_some hv, ?_⟩
    simp only [hv, endRange] at he
    have hform : ∃ e tm' mk' h', r = .code e tm' mk' h' := by
      have he2 := he
      unfold endLoopA at he2
      cases hg : h2.get h.next with
      | none => simp [hg] at he2
      | some o =>
        cases o <;> simp only [hg] at he2 <;> first | (cases he2; done) | skip
        rename_i st pe N tm' ps a b d
        by_cases hst : st = .busy
        · simp [hst] at he2
        · simp only [hst, decide_false, cond_false, AHeap.setK_eq] at he2
          cases pe with
          | none => cases he2; exact ⟨_, _, _, _, rfl⟩
          | some c =>
            obtain ⟨e, tm', mk', h', rfl, _⟩ := hs.code _ _ _ _ _ _ _ he2
            exact ⟨_, _, _, _, rfl⟩
    obtain ⟨e, tm', mk', h', rfl⟩ := hform
    exact ⟨e, tm', mk', h', rfl, he⟩
/-- behind the loop's record -/
theorem evRange_ok {ih : IH} (hs : Sound P w0 ih) {f : FuncId} {first cap first' cap' : List Value} {ps : Array Tmp} {as bo : Code} {ro ro' : Option Nat} {d D kd : Nat} {mk : List Nat} {e : AExit} {tm' : T Value} {mk' : List Nat} {h' : AHeap} {v : Value} {h2 : AHeap}
    (hc : ih (.call f (first ++ (.func (.yield h.next) #[] #[] :: cap)) (h.push (.loop .ready none n tm ps as bo d))) = some (.val v h2))
    (he : endLoopA h2 h.next (fun pe h3 => match pe with
        | none => some (.code .normal tm mk h3)
        | some c => ih (.code c n ro tm mk h3)) = some (.code e tm' mk' h'))
    (hr : Rep P w0 ρ h w) (ht : TRel ρ n tm A.tmps) (hm : MRel ρ mk A.defers) (hro : RoRel ρ ro ro') (hd : ρ d = some (D, kd)) (hf : renL ρ first = some first') (hcp : renL ρ cap = some cap') (fn : FuncId) {m : Nat} :
    CallsIn (FF ro') (m - 1) P f ⟨first' ++ (.func (.yield w.heap.size) #[] #[] :: cap')⟩ (w.alloc (.loop { state := .ready, pending := none, fn, tmps := A.tmps, params := ps, assign := as, body := bo, defers := D }))
      (rangePost (FF ro') m P w.heap.size (Ends P w0 ρ n e tm' mk' h') A) := by
  have hO : ORel P ρ 0 (.loop .ready none n tm ps as bo d) (.loop { state := .ready, pending := none, fn, tmps := A.tmps, params := ps, assign := as, body := bo, defers := D }) :=
    ⟨rfl, rfl, ht, rfl, rfl, rfl, kd, hd⟩
  have hr1 := hr.new hO
  have hle := hr.upd_le (w.heap.size, 0)
  obtain ⟨v1, h1, q1, q2⟩ := hs.call _ _ _ _ hc
  cases q1
  have hyield : ren (ρ.upd h.next (w.heap.size, 0)) (.func (.yield h.next) #[] #[]) = some (.func (.yield w.heap.size) #[] #[]) := by
    refine ren_func_mk (a := []) (a' := []) (b := []) (b' := []) ?_ (by simp [renL]) (by simp [renL])
    simp [renFn, Ren.upd_same]
  have hargs := renL_append (renL_mono hle _ _ hf) (renL_cons_mk hyield (renL_mono hle _ _ hcp))
  refine CallsIn.mono (callsIn_round (q2 _ _ _ (m - 1) hr1 hargs)) ?_
  intro e1 w3 hg
  cases e1 <;> simp only [Gives] at hg
  obtain ⟨σ, g1, g2, g3⟩ := hg
  obtain ⟨B, kk, pe, w4, h4, f1, f2, f3, f4⟩ := endLoop_ok g3 he
  rw [g1 _ _ (Ren.upd_same _ _ _)] at f1
  cases f1
  have hle2 : ρ.le σ := Ren.le_trans hle g1
  refine ⟨pe, w4, f2, ?_⟩
  cases pe with
  | none =>
    cases f4
    exact ⟨rfl, σ, hle2, f3, ht.mono hle2, hm.mono hle2⟩
  | some c =>
    obtain ⟨e2, tm2, mk2, h5, r1, r2⟩ := hs.code _ _ _ _ _ _ _ f4
    cases r1
    exact wpIn_mono (r2 σ w4 A ro' m f3 (ht.mono hle2) (hm.mono hle2) (hro.mono hle2)) (fun _ _ _ hx => Ends.mono hle2 hx)
theorem range_ok {ih : IH} (hs : Sound P w0 ih) {g : Operand} {ps : Array Tmp} {as bo : Code} {ro : Option Nat} {mk : List Nat} {r : Res} (he : cRange g ps as bo ih P n ro tm mk h = some r) : CodeOk P w0 (.rangeFunc g ps as bo) n ro tm mk h r := by
  unfold cRange at he
  cases hx : val? P g tm with
  | none => simp [hx] at he
  | some gv =>
    simp only [hx] at he
    cases gv <;> simp only at he <;> first | (cases he; done) | skip
    rename_i fn first cap
    cases fn <;> simp only at he <;> first | (cases he; done) | skip
    rename_i f
    cases hgo : isGo P f with
    | false => simp [hgo] at he
    | true =>
      simp only [hgo, cond_true] at he
      have hcall : ∀ {ρ : Ren} {w : World} {A : Act} {hh : AHeap}, Rep P w0 ρ hh w → TRel ρ n tm A.tmps → ∃ la lb, renL ρ first.toList = some la ∧ renL ρ cap.toList = some lb ∧
          ∀ (L : Nat) (w1 : World), (resolve A.eval (rangeCall g L) 0).run P w1 = .ok { target := .fn (.func f) ⟨lb⟩, args := ⟨la ++ [.func (.yield L) #[] #[]]⟩ } w1 ∧
            (invoke (.fn (.func f) ⟨lb⟩) ⟨la ++ [.func (.yield L) #[] #[]]⟩).run P w1 = .ok (.enter f ⟨la ++ (.func (.yield L) #[] #[] :: lb)⟩) w1 := by
        intro ρ w A hh hr ht
        obtain ⟨fn', la, lb, r1, r2, r3, r4⟩ := ren_func (val_ren hr ht hx)
        simp only [renFn, Option.some.injEq] at r1
        subst r1
        refine ⟨la, lb, r2, r3, fun L w1 => ⟨?_, ?_⟩⟩
        · simp only [resolve, r4, Deferred.ofValue, Sem.run_pure]
          simp [Act.eval]
        · simp only [invoke]
          rw [isGo_run hgo]
          simp
      unfold rangeAt at he
      cases ro with
      | none =>
        simp only [AHeap.newK_eq] at he
        obtain ⟨v, h2, c1, e, tm', mk', h', rfl, c2⟩ := evRange_form hs he
        refine ⟨e, tm', mk', h', rfl, fun ρ w A ro' m hr ht hm hro => wpIn_rangeFunc fun fn _ => ?_⟩
        cases ro' with
        | some b => exact hro.elim
        | none =>
          have hO : ORel P ρ 0 (.deferred false) (.deferred (some [])) := rfl
          have hr1 := hr.new hO
          have hle := hr.upd_le (w.heap.size, 0)
          have hd : ρ.upd h.next (w.heap.size, 0) h.next = some (w.heap.size, 0) := Ren.upd_same _ _ _
          obtain ⟨la, lb, s1, s2, s3⟩ := hcall hr1 (ht.mono hle)
          refine ⟨(w.alloc (.deferred (some []))).heap.size, [{ target := .collected w.heap.size, args := #[] }],
            (w.alloc (.deferred (some []))).alloc (.loop { state := .ready, pending := none, fn, tmps := A.tmps, params := ps, assign := as, body := bo, defers := w.heap.size }), _, _, f, _, _, rfl, (s3 _ _).1, fun _ _ => trivial, (s3 _ _).2, fun e => by simp [FF] at e, ?_⟩
          have hm1 : MRel (ρ.upd h.next (w.heap.size, 0)) (h.next :: mk) ({ target := .collected w.heap.size, args := #[] } :: A.defers) := ⟨⟨w.heap.size, 0, hd, rfl⟩, hm.mono hle⟩
          have := evRange_ok (A := { A with defers := [{ target := .collected w.heap.size, args := #[] }] ++ A.defers }) (m := m) hs c1 c2 hr1 (ht.mono hle) hm1 (hro.mono hle) hd s1 s2 fn
          refine CallsIn.mono this ?_
          intro e1 w1 hx
          cases e1 with
          | returned v =>
            obtain ⟨j, w4, t1, t2⟩ := hx
            refine ⟨j, w4, t1, ?_⟩
            cases j with
            | none => exact Ends.mono hle t2
            | some c => exact wpIn_mono t2 (fun _ _ _ hx => Ends.mono hle hx)
          | panicked ch => exact Ends.mono hle hx
          | outgrown =>
            obtain ⟨a, w, hx⟩ := hx
            exact ⟨a, w, Ends.mono hle hx⟩
      | some l =>
        simp only at he
        cases hdf : defersOf h l with
        | none => simp [hdf] at he
        | some d =>
          simp only [hdf] at he
          obtain ⟨v, h2, c1, e, tm', mk', h', rfl, c2⟩ := evRange_form hs he
          refine ⟨e, tm', mk', h', rfl, fun ρ w A ro' m hr ht hm hro => wpIn_rangeFunc fun fn _ => ?_⟩
          cases ro' with
          | none => exact hro.elim
          | some b =>
            obtain ⟨kb, hb⟩ := hro
            unfold defersOf at hdf
            cases hg : h.get l with
            | none => simp [hg] at hdf
            | some o =>
              cases o <;> simp only [hg] at hdf <;> first | (cases hdf; done) | skip
              rename_i st pe N tm'' ps' a' b' d'
              simp only [Option.some.injEq] at hdf
              subst hdf
              obtain ⟨B, kk, r', f1, f2, f3, f4, f5, f6, f7, f8, f9, kd, f10⟩ := loop_at hr hg
              rw [hb] at f1; cases f1
              obtain ⟨la, lb, s1, s2, s3⟩ := hcall hr ht
              refine ⟨w.heap.size, [], w.alloc (.loop { state := .ready, pending := none, fn, tmps := A.tmps, params := ps, assign := as, body := bo, defers := r'.defers }), _, _, f, _, _, ?_, (s3 _ _).1, fun _ _ => trivial, (s3 _ _).2, fun e => by simp [FF] at e, ?_⟩
              · have f2' : (Instr.getLoop b).run P w = .ok r' w := f2
                show (Instr.enterLoop fn A.tmps ps as bo (some b)).run P w = _
                simp [Instr.enterLoop, f2']
              · exact evRange_ok (m := m) hs c1 c2 hr ht hm (show RoRel ρ (some l) (some b) from ⟨_, hb⟩) f10 s1 s2 fn

/-! ### Code, all of it -/
theorem evCode_ok {f : Nat} (hs : ∀ g, g ≤ f → Sound P w0 (ev P orc g)) {c : Code} {ro : Option Nat} {mk : List Nat} {r : Res} (he : evCode c (ev P orc f) P n ro tm mk h = some r) : CodeOk P w0 c n ro tm mk h r := by
  have h0 := hs f (Nat.le_refl _)
  cases c with
  | skip =>
    have he' : some (Res.code .normal tm mk h) = some r := he
    cases he'
    exact ⟨_, _, _, _, rfl, fun ρ w A ro' m hr ht hm hro => wpIn_skip ⟨rfl, ρ, ρ.le_refl, hr, ht, hm⟩⟩
  | region id ops draw => exact region_ok h0 he
  | seq a b => exact seq_ok h0 he
  | cond x a b => exact cond_ok h0 he
  | block id b => exact block_ok h0 he
  | loop b => exact loop_ok hs he
  | rangeFunc g ps a b => exact range_ok h0 he
  | exit id =>
    have he' : some (Res.code (.exit id) tm mk h) = some r := he
    cases he'
    exact ⟨_, _, _, _, rfl, fun ρ w A ro' m hr ht hm hro => wpIn_exit ⟨rfl, ρ, ρ.le_refl, hr, ht, hm⟩⟩
  | scope b => cases he
  | label l =>
    have he' : some (Res.code .normal tm mk h) = some r := he
    cases he'
    exact ⟨_, _, _, _, rfl, fun ρ w A ro' m hr ht hm hro => wpIn_label ⟨rfl, ρ, ρ.le_refl, hr, ht, hm⟩⟩
  | goto l =>
    have he' : some (Res.code (.goto l) tm mk h) = some r := he
    cases he'
    exact ⟨_, _, _, _, rfl, fun ρ w A ro' m hr ht hm hro => wpIn_goto ⟨rfl, ρ, ρ.le_refl, hr, ht, hm⟩⟩
  | ret =>
    have he' : some (Res.code .ret tm mk h) = some r := he
    cases he'
    exact ⟨_, _, _, _, rfl, fun ρ w A ro' m hr ht hm hro => wpIn_ret ⟨rfl, ρ, ρ.le_refl, hr, ht, hm⟩⟩
  | refuse s => cases he

/-! ### A call -/
theorem init_ok {β : Type} : ∀ {l l' : List Value} {i : Nat} {tm : T Value} {pre : List Value} {N : Nat} {k : T Value → Option β} {r : β}, renL ρ l = some l' → pre.length = i → i + l.length ≤ N →
    TRel ρ N tm ⟨pre ++ List.replicate (N - i) undef⟩ → initK l i tm k = some r → ∃ tm', k tm' = some r ∧ TRel ρ N tm' ⟨pre ++ l' ++ List.replicate (N - i - l.length) undef⟩
  | [], l', i, tm, pre, N, k, r, hl, hp, hn, ht, he => by
    rw [renL_nil hl]
    exact ⟨tm, he, by simpa using ht⟩
  | v :: l, l', i, tm, pre, N, k, r, hl, hp, hn, ht, he => by
    obtain ⟨v', us, rfl, h1, h2⟩ := renL_cons hl
    simp only [List.length_cons] at hn
    simp only [initK, T.setK_eq] at he
    have hput := ht.put (A := { tmps := ⟨pre ++ List.replicate (N - i) undef⟩, defers := [] }) (d := i) (by omega) h1
    have heq : (Act.put { tmps := ⟨pre ++ List.replicate (N - i) undef⟩, defers := [] } (some i) v').tmps = ⟨(pre ++ [v']) ++ List.replicate (N - (i + 1)) undef⟩ := by
      apply Array.ext'
      simp only [Act.put, Array.toList_setIfInBounds]
      rw [show N - i = (N - (i + 1)) + 1 by omega, List.replicate_succ, List.set_append_right _ _ (by omega)]
      simp [hp]
    rw [heq] at hput
    obtain ⟨tm', h3, h4⟩ := init_ok h2 (by simp [hp]) (by omega) hput he
    refine ⟨tm', h3, ?_⟩
    have : N - i - (v :: l).length = N - (i + 1) - l.length := by simp; omega
    rw [this]
    simpa using h4
theorem blank_get : ∀ (d t : Nat), (blank d).get t = none
  | 0, _ => rfl
  | d + 1, 0 => rfl
  | d + 1, t + 1 => by
    show Bool.rec (motive := fun _ => Option Value) ((blank d).get (Nat.div t 2)) ((blank d).get (Nat.div t 2)) (Nat.beq (Nat.mod t 2) 0) = none
    cases Nat.beq (Nat.mod t 2) 0 <;> exact blank_get d _
theorem leaf_rel (N d : Nat) : TRel ρ N (blank d) ⟨List.replicate N undef⟩ := by
  refine ⟨by simp, fun t => ?_⟩
  have hg : getT (blank d) t = undef := by unfold getT; rw [blank_get]
  rw [hg, ren_undef]
  congr 1
  simp only [Array.getD_eq_getD_getElem?, List.getElem?_toArray]
  by_cases e : t < N
  · simp [e]
  · rw [List.getElem?_eq_none (by simpa using Nat.le_of_not_lt e)]; rfl
def resVar (tmps : Array Value) : ResultVar → Sem Value
  | .tmp t => pure (tmps.getD t undef)
  | .cell a t => do loadVar t (← asAddr (tmps.getD a undef))
theorem results_eq (fn : Func) (tmps : Array Value) : results fn tmps = (do let vs ← fn.results.mapM (resVar tmps); pure (if h : vs.size = 1 then vs[0] else .tuple vs)) := rfl
theorem results_ok (hr : Rep P w0 ρ h w) (ht : TRel ρ n tm A.tmps) : ∀ {rs : List ResultVar} {vs : List Value}, resultsA P tm h rs = some vs →
    ∃ vs', (rs.mapM (resVar A.tmps)).run P w = .ok vs' w ∧ renL ρ vs = some vs'
  | [], vs, he => by
    simp only [resultsA, Option.some.injEq] at he
    subst he
    exact ⟨[], rfl, by simp [renL]⟩
  | x :: rs, vs, he => by
    simp only [resultsA] at he
    cases e1 : resultA P tm h x with
    | none => simp [e1] at he
    | some v =>
      cases e2 : resultsA P tm h rs with
      | none => simp [e1, e2] at he
      | some us =>
        simp only [e1, e2, Option.some.injEq] at he
        subst he
        obtain ⟨us', h1, h2⟩ := results_ok hr ht e2
        have hx : ∃ v', (resVar A.tmps x).run P w = .ok v' w ∧ ren ρ v = some v' := by
          cases x with
          | tmp t =>
            simp only [resultA, Option.some.injEq] at e1
            subst e1
            exact ⟨_, rfl, ht.2 t⟩
          | cell a t =>
            simp only [resultA, loadA] at e1
            obtain ⟨i, off, e3, e4⟩ := atAddr_some e1
            have ha := ht.2 a
            rw [e3] at ha
            obtain ⟨b, v', h5, h6, h7⟩ := partOf_load hr e4 ha
            refine ⟨v', ?_, h7⟩
            simp only [resVar, Sem.run_bind, h5, asAddr, Sem.run_pure, Result.andThen_ok, h6]
        obtain ⟨v', h3, h4⟩ := hx
        refine ⟨v' :: us', ?_, renL_cons_mk h4 h2⟩
        simp only [List.mapM_cons, Sem.run_bind, h3, h1, Sem.run_pure, Result.andThen_ok]
theorem one_ok {vs vs' : List Value} (hv : renL ρ vs = some vs') : ren ρ (oneOrAll vs) = some (if h : (⟨vs'⟩ : Array Value).size = 1 then (⟨vs'⟩ : Array Value)[0] else .tuple ⟨vs'⟩) := by
  cases vs with
  | nil => rw [renL_nil hv]; exact ren_tuple_mk (by simp [renL])
  | cons v l =>
    obtain ⟨v', us, rfl, h1, h2⟩ := renL_cons hv
    cases l with
    | nil =>
      rw [renL_nil h2]
      exact h1
    | cons u l =>
      obtain ⟨u', us2, rfl, h3, h4⟩ := renL_cons h2
      rw [dif_neg (by simp)]
      exact ren_tuple_mk hv
/-- the marks are taken; the results are read -/
theorem leave_ok {ρ' : Ren} {fn : Func} (hle0 : ρ'.le ρ) (ht : TRel ρ n tm A.tmps) {v : Value} {h' : AHeap} {m : Nat} : ∀ {mk : List Nat} {ds : List Deferred} {h : AHeap} {w : World}, Rep P w0 ρ h w → MRel ρ mk ds →
    shutAll mk h (fun h2 => retVal P fn.results.toList tm h2) = some (.val v h') → LeavesInM (FF none) m P fn A.tmps (Gives P w0 ρ' v h') ds .returning w
  | [], [], h, w, hr, _, he => by
    have he' : retVal P fn.results.toList tm h = some (.val v h') := he
    unfold retVal at he'
    cases e : resultsA P tm h fn.results.toList with
    | none => simp [e] at he'
    | some vs =>
      simp only [e, Option.some.injEq, Res.val.injEq] at he'
      obtain ⟨rfl, rfl⟩ := he'
      obtain ⟨vs', h1, h2⟩ := results_ok hr ht e
      refine ⟨_, ?_, ρ, hle0, one_ok h2, hr⟩
      rw [results_eq, Array.mapM_eq_mapM_toList]
      simp only [Sem.run_bind, Sem.run_map, h1, Result.andThen_ok, Sem.run_pure]
  | i :: mk, d :: ds, h, w, hr, hm, he => by
    obtain ⟨⟨b, kk, h1, h2⟩, h3⟩ := hm
    simp only [shutAll] at he
    cases ho : isOpen h i with
    | false => simp [ho] at he
    | true =>
      simp only [ho, cond_true, AHeap.setK_eq] at he
      unfold isOpen at ho
      cases hg : h.get i with
      | none => simp [hg] at ho
      | some o =>
        cases o <;> simp only [hg] at ho <;> first | (cases ho; done) | skip
        rename_i sh
        simp only [Bool.not_eq_true'] at ho
        subst ho
        obtain ⟨b', k', O, f1, f2, f3, f4⟩ := hr.obj i _ hg rfl
        rw [h1] at f1; cases f1
        cases O <;> simp only [ORel] at f4
        rename_i calls
        simp only [Bool.false_eq_true, if_false] at f4
        subst f4
        have hset := run_setObj (P := P) (O' := .deferred none) f3 (by intro c e f h; cases h)
        refine ⟨by simp, .inl ⟨b, setAt w b (.deferred none), h2, ?_, ?_⟩⟩
        · have hob : (getObj b).run P w = .ok (.deferred (some [])) w := by simp [getObj, Sem.run, f3]
          simp only [Instr.takeDeferred, Sem.run_bind, hob, Result.andThen_ok, hset, Sem.run_pure]
        · exact leave_ok hle0 ht (hr.setAt hg rfl rfl h1 (O' := .deferred none) (o' := .deferred true) rfl) h3 he
  | [], _ :: _, _, _, _, hm, _ => hm.elim
  | _ :: _, [], _, _, _, hm, _ => hm.elim

/-- What is known of the functions that are not carried out. -/
def OrcOk (P : Program) (w0 : World) (orc : Orc) : Prop :=
  ∀ f args h r, orc f args h = some r → ∀ ρ w args', Rep P w0 ρ h w → renL ρ args = some args' → match r with
    | .val v h' => Calls P f ⟨args'⟩ w (Gives P w0 ρ v h')
    | .to g args2 => ∃ args2', renL ρ args2 = some args2' ∧ ∀ Q : Ending → World → Prop, Calls P g ⟨args2'⟩ w Q → Calls P f ⟨args'⟩ w Q
theorem Rep.later (hr : Rep P w0 ρ h w) {w' : World} (hB : Below w.heap.size w w') : Rep P w0 ρ h w' := by
  refine ⟨hr.below.trans (hB.mono hr.below.size), fun i o hg hl => ?_, hr.inj, hr.fresh, hr.glob⟩
  obtain ⟨b, k, O, h1, h2, h3, h4⟩ := hr.obj i o hg hl
  exact ⟨b, k, O, h1, h2, by rw [hB.block b (Array.getElem?_eq_some_iff.1 h3).1]; exact h3, h4⟩
/-- a call that touches no memory, its arguments and its value without addresses -/
theorem orc_plain {f : FuncId} {args : List Value} {v : Value} (h1 : plainL args = true) (h2 : plain v = true) (h3 : ∀ w, Below w0.heap.size w0 w → Calls P f ⟨args⟩ w fun
    | .returned v', w' => v' = v ∧ Below w.heap.size w w'
    | _, _ => False) {args' : List Value} (hr : Rep P w0 ρ h w) (ha : renL ρ args = some args') : Calls P f ⟨args'⟩ w (Gives P w0 ρ v h) := by
  have := renL_plain_eq ha h1
  subst this
  refine (h3 w hr.below).mono ?_
  intro e w' hx
  cases e with
  | returned v' =>
    obtain ⟨rfl, hB⟩ := hx
    exact ⟨ρ, ρ.le_refl, ren_plain ρ _ h2, hr.later hB⟩
  | panicked ch => exact hx.elim
  | outgrown => exact hx.elim
theorem evCall_ok (ho : OrcOk P w0 orc) {ih : IH} (hs : Sound P w0 ih) {f : FuncId} {args : List Value} {r : Res} (he : evCall P orc ih f args h = some r) :
    ∃ v h', r = .val v h' ∧ ∀ ρ w args' m, Rep P w0 ρ h w → renL ρ args = some args' → CallsIn (FF none) m P f ⟨args'⟩ w (Gives P w0 ρ v h') := by
  unfold evCall at he
  cases hor : orc f args h with
  | some x =>
    cases x with
    | val v h' =>
      simp only [hor, Option.some.injEq] at he
      subst he
      refine ⟨v, h', rfl, fun ρ w args' m hr ha => ?_⟩
      have h3 := ho f args h _ hor ρ w args' hr ha
      have hc : CallsIn Fence.wide m P f ⟨args'⟩ w _ := callsIn_wide.2 h3
      exact hc
    | to g args2 =>
      simp only [hor] at he
      obtain ⟨v, h', rfl, q⟩ := hs.call _ _ _ _ he
      refine ⟨v, h', rfl, fun ρ w args' m hr ha => ?_⟩
      obtain ⟨args2', ha2, hq⟩ := ho f args h _ hor ρ w args' hr ha
      have h3 : CallsIn Fence.wide m P g ⟨args2'⟩ w _ := q ρ w args2' m hr ha2
      have hc : CallsIn Fence.wide m P f ⟨args'⟩ w _ := callsIn_wide.2 (hq _ (callsIn_wide.1 h3))
      exact hc
  | none =>
    simp only [hor, evFn] at he
    cases hf : P.funcs[f]? with
    | none => simp [hf] at he
    | some fn =>
      simp only [hf, enter] at he
      cases hb : fn.body with
      | none => simp [hb] at he
      | some c =>
        simp only [hb] at he
        cases hle : Nat.ble args.length fn.ntmps with
        | false => simp [hle] at he
        | true =>
          simp only [hle, cond_true] at he
          have hle := Nat.le_of_ble_eq_true hle
          -- the frame at the start, whatever the renaming
          have hstart : ∃ tm0, leave P fn.results.toList (ih (.code c fn.ntmps none tm0 [] h)) = some r ∧ ∀ (ρ : Ren) args', renL ρ args = some args' → TRel ρ fn.ntmps tm0 ((⟨args'⟩ : Array Value) ++ Array.replicate (fn.ntmps - (⟨args'⟩ : Array Value).size) undef) := by
            have hraw : ∀ (l : List Value) (i : Nat) (tm : T Value) (k : T Value → Option Res) (r : Res), initK l i tm k = some r → ∃ tm0, (∀ k' : T Value → Option Unit, initK l i tm k' = k' tm0) ∧ k tm0 = some r := by
              intro l
              induction l with
              | nil => intro i tm k r he; exact ⟨tm, fun _ => rfl, he⟩
              | cons v l ih =>
                intro i tm k r he
                simp only [initK, T.setK_eq] at he ⊢
                exact ih _ _ _ _ he
            obtain ⟨tm0, h1, h2⟩ := hraw _ _ _ _ _ he
            refine ⟨tm0, h2, fun ρ args' ha => ?_⟩
            obtain ⟨tm', h3, h4⟩ := init_ok (β := T Value) (k := fun tm' => some tm') (r := tm0) (pre := []) (N := fn.ntmps) (i := 0) ha rfl (by simpa using hle) (by simpa using leaf_rel (ρ := ρ) fn.ntmps (Nat.log2 fn.ntmps + 1)) (by
              have hsame : ∀ (l : List Value) (i : Nat) (tm tm0 : T Value), (∀ k' : T Value → Option Unit, initK l i tm k' = k' tm0) → initK l i tm (fun tm' => some tm') = some tm0 := by
                intro l
                induction l with
                | nil =>
                  intro i tm tm0 h
                  apply Classical.byContradiction
                  intro hne
                  have hne' : tm ≠ tm0 := fun e => hne (by subst e; rfl)
                  have := h (fun x => @ite _ (x = tm0) (Classical.propDecidable _) (some ()) none)
                  simp [initK, hne'] at this
                | cons v l ih =>
                  intro i tm tm0 h
                  simp only [initK, T.setK_eq] at h ⊢
                  exact ih _ _ _ h
              exact hsame _ _ _ _ h1)
            cases h3
            have hl := renL_length ha
            have heq : (⟨[] ++ args' ++ List.replicate (fn.ntmps - 0 - args.length) undef⟩ : Array Value) = (⟨args'⟩ : Array Value) ++ Array.replicate (fn.ntmps - (⟨args'⟩ : Array Value).size) undef := by
              apply Array.ext'
              simp [hl]
            rw [heq] at h4
            exact h4
          obtain ⟨tm0, hl, htm⟩ := hstart
          unfold leave at hl
          cases hc : ih (.code c fn.ntmps none tm0 [] h) with
          | none => simp [hc] at hl
          | some r1 =>
            obtain ⟨e, tm1, mk1, h1, rfl, q⟩ := hs.code _ _ _ _ _ _ _ hc
            simp only [hc] at hl
            cases hil : isLeave e with
            | false => simp [hil] at hl
            | true =>
              simp only [hil, cond_true] at hl
              have hform : ∃ v h', r = .val v h' := by
                have : ∀ (mk : List Nat) (h : AHeap), shutAll mk h (fun h2 => retVal P fn.results.toList tm1 h2) = some r → ∃ v h', r = .val v h' := by
                  intro mk
                  induction mk with
                  | nil =>
                    intro h he
                    have he' : retVal P fn.results.toList tm1 h = some r := he
                    unfold retVal at he'
                    cases e : resultsA P tm1 h fn.results.toList with
                    | none => simp [e] at he'
                    | some vs => simp only [e, Option.some.injEq] at he'; exact ⟨_, _, he'.symm⟩
                  | cons i mk ih =>
                    intro h he
                    simp only [shutAll] at he
                    cases ho : isOpen h i with
                    | false => simp [ho] at he
                    | true =>
                      simp only [ho, cond_true, AHeap.setK_eq] at he
                      exact ih _ he
                exact this _ _ hl
              obtain ⟨v, h', rfl⟩ := hform
              refine ⟨v, h', rfl, fun ρ w args' m hr ha => ?_⟩
              refine callsIn_of_wp_marks hf hb trivial (wpIn_mono (q ρ w { tmps := (⟨args'⟩ : Array Value) ++ Array.replicate (fn.ntmps - (⟨args'⟩ : Array Value).size) undef, defers := [] } none m hr (htm ρ args' ha) trivial trivial) ?_) rfl
              rintro e' a1 w1 ⟨rfl, σ, hle1, hr1, ht1, hm1⟩
              have hL : LeavesInM (FF none) m P fn a1.tmps (Gives P w0 ρ v h') a1.defers .returning w1 := leave_ok hle1 ht1 hr1 hm1 hl
              cases e <;> simp [isLeave] at hil
              · exact hL
              · exact hL
theorem ev_sound (ho : OrcOk P w0 orc) : ∀ f, Sound P w0 (ev P orc f) := by
  intro f
  induction f using Nat.strongRecOn with
  | _ f ih =>
    cases f with
    | zero => exact ⟨fun _ _ _ _ he => (by cases he), fun _ _ _ _ _ _ _ he => (by cases he)⟩
    | succ f =>
      have hs : ∀ g, g ≤ f → Sound P w0 (ev P orc g) := fun g hg => ih g (by omega)
      exact ⟨fun g args h r he => evCall_ok ho (hs f (Nat.le_refl _)) he, fun c n ro tm mk h r he => evCode_ok hs he⟩
/-- **WHAT THE EVALUATOR COMES TO, THE CALL COMES TO.** -/
theorem ev_calls (ho : OrcOk P w0 orc) {fuel : Nat} {f : FuncId} {args args' : List Value} {v : Value} {h' : AHeap} (he : ev P orc fuel (.call f args h) = some (.val v h')) (hr : Rep P w0 ρ h w) (ha : renL ρ args = some args') :
    Calls P f ⟨args'⟩ w (Gives P w0 ρ v h') := by
  obtain ⟨v1, h1, q1, q2⟩ := (ev_sound ho fuel).call _ _ _ _ he
  cases q1
  exact callsIn_wide.1 (q2 ρ w args' 0 hr ha)
end
end Go.Ev
