/-
  The evaluator is sound: every operation; regions in the text's order; no condition.
-/
import Derived.Test.YtahbpehdjbmndaaGreatDoorEvCall2
namespace Go.Ev
open Go.RowKit

section
variable {P : Program} {w0 w : World} {ρ : Ren} {h : AHeap} {n : Nat} {tm : T Value} {A : Act} {ih : IH}

theorem evOper_defer {ih : IH} {o : Oper} {v : Value} {h' : AHeap} (he : evOper o.op ih P o tm h = some (v, h')) : ∀ c, o.op ≠ .defer c := by
  intro c hc
  rw [hc] at he
  have he' : (none : Out) = some (v, h') := he
  cases he'
/-- What a call by a value comes to, in the model. -/
theorem call_run {o : Oper} {c : Call} {f : Operand} (hop : o.op = .call c) (hc : c.callee = .value f) {fn : Fn} {first cap : List Value} (hf : A.eval f = .func fn ⟨first⟩ ⟨cap⟩) :
    (execOp A.eval o).run P w = (invoke (.fn fn ⟨cap⟩) (⟨first⟩ ++ c.args.map A.eval)).run P w := by
  simp only [execOp, hop, resolve, hc, hf, Deferred.ofValue]
  simp
/-- a method that is the type's own -/
theorem method_run {t : TypeId} {name : String} {f : FuncId} {v : Value} (hm : methodA P t name = some f) : (method ((P.types.size) + Made.depth) t v name).run P w = .ok (f, v) w := by
  unfold methodA at hm
  cases hi : P.info? t with
  | none => simp [hi] at hm
  | some i =>
    simp only [hi] at hm
    cases hf : i.methods.find? (fun m => m.name == name) with
    | none => simp [hf] at hm
    | some m =>
      simp only [hf] at hm
      unfold methodAt at hm
      cases hp : m.path.toList with
      | cons a b => simp [hp] at hm
      | nil =>
        cases hfn : m.func with
        | none => simp [hp, hfn] at hm
        | some fp =>
          obtain ⟨f', p⟩ := fp
          simp only [hp, hfn] at hm
          have hbad : tk P t ≠ .bad := fun e => by simp [e] at hm
          obtain ⟨d, hd1, hd2⟩ := tk_some hbad
          have hsame : sameB (isPtrT (tk P t)) p = true ∧ f' = f := by
            cases hk : tk P t <;> simp only [hk] at hm <;> first | (exact absurd hk hbad) | skip
            all_goals
              cases hb : sameB (isPtrT (tk P t)) p <;> simp only [hk] at hb <;> simp [hb] at hm ⊢
              exact hm
          obtain ⟨hsb, rfl⟩ := hsame
          obtain ⟨n, hn⟩ : ∃ n, P.types.size + Made.depth = n + 1 := ⟨P.types.size + Made.depth - 1, by
            have : 0 < Made.depth := by decide
            omega⟩
          rw [hn]
          simp only [method, Sem.run_bind, run_typeInfo' hi, Result.andThen_ok, hf, hp, follow, hfn, Sem.run_pure, receiverAt, run_underlying' hd1]
          rw [hd2] at hsb
          cases d <;> cases p <;> simp [tkOf, isPtrT, sameB, Place.get] at hsb ⊢
/-- Every operation. -/
theorem evOper_wp (hs : Sound P w0 ih) (hr : Rep P w0 ρ h w) (ht : TRel ρ n tm A.tmps) {o : Oper} {v : Value} {h' : AHeap} (he : evOper o.op ih P o tm h = some (v, h')) {ro : Option Nat} {m : Nat}
    {next : Act → World → Prop} {Q : Exit → Act → World → Prop} (hnext : ∀ σ v' w', ρ.le σ → ren σ v = some v' → Rep P w0 σ h' w' → next (A.put o.dst v') w') : o.wpIn (FF ro) m P A w next Q := by
  refine ⟨fun _ _ => trivial, ?_⟩
  rw [Oper.semAt_eq _ _ _ (evOper_defer he)]
  have plainCase : (∀ c, o.op = .call c → ∃ b, c.callee = .builtin b) → o.uponIn (FF ro) m P A next Q ((execOp A.eval o).run P w) := by
    intro hnc
    obtain ⟨σ, v', w', x, h1, h2, h3, h4, h5⟩ := evOper_ok hr ht hnc he
    rw [h2]
    rcases h3 with rfl | ⟨rfl, rfl⟩
    · exact hnext σ v' w' h1 h4 h5
    · exact hnext σ _ w' h1 h4 h5
  have hgive : ∀ (w1 : World) (e : Ending) (w2 : World), Gives P w0 ρ v h' e w2 → (match (e : Ending) with
      | .returned v' => fun w'' => next (A.put o.dst v') w''
      | .panicked chain => fun w'' => Q (.panic chain) A w''
      | .outgrown => fun _ => LetsOut Q) w2 := by
    intro w1 e w2 hg
    cases e <;> simp only [Gives] at hg
    obtain ⟨σ, g1, g2, g3⟩ := hg
    exact hnext σ _ w2 g1 g2 g3
  have hfn : ∀ (g : FuncId) (all all' : List Value), renL ρ all = some all' → (execOp A.eval o).run P w = (callFunc g ⟨all'⟩).run P w → evWhom ih h (whomFn P h g all) = some (v, h') →
      o.uponIn (FF ro) m P A next Q ((execOp A.eval o).run P w) := by
    intro g all all' hall hrun he'
    rw [hrun]
    unfold whomFn at he'
    cases hgo : isGo P g with
    | true =>
      simp only [hgo, cond_true, evWhom] at he'
      have hv := valRes_some he'
      obtain ⟨v1, h1', q1, q2⟩ := hs.call _ _ _ _ hv
      cases q1
      rw [isGo_run hgo]
      refine ⟨fun e => by simp [FF] at e, ?_⟩
      refine CallsIn.mono (callsIn_round (q2 ρ w _ (m - 1) hr hall)) ?_
      intro e w2 hg
      have := hgive w e w2 hg
      cases e <;> exact this
    | false =>
      simp only [hgo, cond_false] at he'
      cases hx : externV P h g all with
      | none => simp [hx, evWhom] at he'
      | some wh =>
        obtain ⟨u, rfl, x1, x2, x3⟩ := externV_some hr hx
        simp only [hx, evWhom, Option.some.injEq, Prod.mk.injEq] at he'
        obtain ⟨rfl, rfl⟩ := he'
        have hpl := renL_plain_eq hall x2
        rw [hpl, x3]
        exact hnext ρ _ w ρ.le_refl (ren_plain ρ _ x1) hr
  by_cases hcall : ∃ c, o.op = .call c
  · obtain ⟨c, hop⟩ := hcall
    cases hc : c.callee with
    | builtin b => exact plainCase (fun c' hc' => by rw [hop] at hc'; cases hc'; exact ⟨b, hc⟩)
    | invoke r name =>
      have he' : opCall c ih P o tm h = some (v, h') := by rw [hop] at he; exact he
      simp only [opCall, hc, whomOf] at he'
      cases h1 : val? P r tm with
      | none => simp [h1, evWhom] at he'
      | some rv =>
        simp only [h1] at he'
        unfold ifaceOf at he'
        cases rv <;> simp only at he' <;> first | (simp [evWhom] at he'; done) | skip
        rename_i t u
        cases hm : methodA P t name with
        | none => simp [hm, evWhom] at he'
        | some g =>
          cases h2 : vals? P tm c.args.toList with
          | none => simp [hm, h2, evWhom] at he'
          | some vs =>
            simp only [hm, h2] at he'
            obtain ⟨u', hu, hru⟩ := ren_iface (val_ren hr ht h1)
            have hvs := vals_ren hr ht h2
            refine hfn g _ _ (renL_cons_mk hu hvs) ?_ he'
            have hz : (#[A.eval r] ++ c.args.map A.eval)[0]? = some (A.eval r) := by rw [Array.getElem?_append_left (by simp)]; rfl
            have hy : (#[A.eval r] ++ c.args.map A.eval).extract 1 (#[A.eval r] ++ c.args.map A.eval).size = c.args.map A.eval := by
              apply Array.ext'
              simp
              rw [List.take_of_length_le (by simp)]
            have hprog : (program).run P w = .ok P w := rfl
            have hargs : (#[u'] : Array Value) ++ c.args.map A.eval = ⟨u' :: c.args.toList.map A.eval⟩ := by
              apply Array.ext'; simp
            simp only [execOp, hop, resolve, hc, Sem.run_bind, Sem.run_pure, Result.andThen_ok, invoke, hz, hy]
            rw [hru]
            simp only [callMethod, Sem.run_bind, hprog, method_run hm, Result.andThen_ok, hargs]
    | value f =>
      have he' : opCall c ih P o tm h = some (v, h') := by rw [hop] at he; exact he
      simp only [opCall, hc, whomOf] at he'
      cases h1 : val? P f tm with
      | none => simp [h1, evWhom] at he'
      | some fv =>
        cases h2 : vals? P tm c.args.toList with
        | none => simp [h1, h2, evWhom] at he'
        | some vs =>
          simp only [h1, h2] at he'
          have hfv := val_ren hr ht h1
          have hvs := vals_ren hr ht h2
          unfold whomVal at he'
          cases fv <;> simp only at he' <;> first | (simp [evWhom] at he'; done) | skip
          rename_i fn first cap
          obtain ⟨fn', la, lb, r1, r2, r3, r4⟩ := ren_func hfv
          have hargs : (⟨la⟩ : Array Value) ++ c.args.map A.eval = ⟨la ++ c.args.toList.map A.eval⟩ := by
            apply Array.ext'; simp
          cases fn <;> simp only at he' <;> first | (simp [evWhom] at he'; done) | skip
          case func g =>
            simp only [renFn, Option.some.injEq] at r1
            subst r1
            have hall : renL ρ (first.toList ++ (vs ++ cap.toList)) = some (la ++ (c.args.toList.map A.eval ++ lb)) := renL_append r2 (renL_append hvs r3)
            have hrun : (execOp A.eval o).run P w = (callFunc g ⟨la ++ (c.args.toList.map A.eval ++ lb)⟩).run P w := by
              rw [call_run hop hc r4, hargs]
              simp [invoke]
            exact hfn g _ _ hall hrun he'
          case yield l =>
            simp only [evWhom] at he'
            have hall : renL ρ (first.toList ++ vs) = some (la ++ c.args.toList.map A.eval) := renL_append r2 hvs
            obtain ⟨B, k, f', ts, as, bo, q1, q2, q3⟩ := round_ok hs hr hall he' (ro := ro) (m := m - 1)
            simp only [renFn, q1, Option.some.injEq] at r1
            subst r1
            have hrun : (execOp A.eval o).run P w = .ok (.round B f' ts as bo) w := by
              rw [call_run hop hc r4, hargs]
              simpa [invoke] using q2
            rw [hrun]
            refine ⟨fun e => by simp [FF] at e, ?_⟩
            refine RoundIn.mono q3 ?_
            intro e w2 hg
            have := hgive w e w2 hg
            cases e <;> exact this
  · exact plainCase (fun c hc => absurd ⟨c, hc⟩ hcall)

/-! ### A region in its text's order -/
theorem evOps_wp (hs : Sound P w0 ih) (ops : Array Oper) {ro : Option Nat} {m : Nat} {Q : Exit → Act → World → Prop} {r : Res} {k : T Value → AHeap → Option Res} : ∀ (l : List Oper) {ρ : Ren} {w : World} {A : Act} {tm : T Value} {h : AHeap},
    Rep P w0 ρ h w → TRel ρ n tm A.tmps → evOps P ih ops.toList n l tm h k = some r →
    (∀ σ tm' h' A' w', ρ.le σ → Rep P w0 σ h' w' → TRel σ n tm' A'.tmps → A'.defers = A.defers → k tm' h' = some r → Q .normal A' w') → wpListIn (FF ro) m P ops Q l A w
  | [], ρ, w, A, tm, h, hr, ht, he, hk => hk ρ tm h A w ρ.le_refl hr ht rfl he
  | o :: rest, ρ, w, A, tm, h, hr, ht, he, hk => by
    have he' : stepOp P ih ops.toList n o tm h (fun tm' h' => evOps P ih ops.toList n rest tm' h' k) = some r := he
    unfold stepOp at he'
    simp only [wpListIn]
    rw [← wanted_eq ht ops o]
    cases hw : wantedA ops.toList tm o.guard with
    | false =>
      simp only [hw] at he'
      simp only [Bool.false_eq_true, if_false]
      refine ⟨fun _ _ => trivial, ?_⟩
      obtain ⟨tm1, h1, h2⟩ := putK_some ht ren_undef he'
      refine evOps_wp hs ops rest hr h2 h1 ?_
      intro σ tm' h' A' w' q1 q2 q3 q4 q5
      exact hk σ tm' h' A' w' q1 q2 q3 (by rw [q4, Act.put_defers]) q5
    | true =>
      simp only [hw] at he'
      simp only [if_true]
      unfold contOp at he'
      cases hev : evOper o.op ih P o tm h with
      | none => simp [hev] at he'
      | some vh =>
        obtain ⟨v, h1⟩ := vh
        simp only [hev] at he'
        refine evOper_wp hs hr ht hev ?_
        intro σ v' w' g1 g2 g3
        obtain ⟨tm1, h2, h3⟩ := putK_some (ht.mono g1) g2 he'
        refine evOps_wp hs ops rest g3 h3 h2 ?_
        intro τ tm' h' A' w'' q1 q2 q3 q4 q5
        exact hk τ tm' h' A' w'' (Ren.le_trans g1 q1) q2 q3 (by rw [q4, Act.put_defers]) q5
end
end Go.Ev
