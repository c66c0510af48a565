/-
  The evaluator's operations are the model's: maps, type assertions, the built-in functions; no condition.
-/
import Derived.Test.YtahbpehdjbmndaaGreatDoorEvOpsF
namespace Go.Ev
open Go.RowKit

section
variable {P : Program} {w0 w : World} {ρ : Ren} {h : AHeap} {n : Nat} {tm : T Value} {A : Act}

/-! ### Maps -/
theorem bytes_beq (a b : List UInt8) : ((⟨⟨a⟩⟩ : ByteArray) == ⟨⟨b⟩⟩) = (a == b) := by
  have h1 : ((⟨⟨a⟩⟩ : ByteArray) == ⟨⟨b⟩⟩) = ((⟨a⟩ : Array UInt8) == ⟨b⟩) := rfl
  rw [h1]; simp
theorem sameKey_now {kt : TypeId} {d : TypeDesc} {k k' e e' : Value} {b : Bool} (hd : P.underlying kt = some d) (hf : keyFits (tk P kt) k = true) (hs : sameKey k e = some b) (hk : ren ρ k = some k') (he : ren ρ e = some e') :
    Instr.sameNow d k' e' = some b ∧ k' = k ∧ e' = e ∧ (b = true → Instr.sameBits 10000 e' k' = true) := by
  have htk : tk P kt = tkOf (some d) := by unfold tk; rw [hd]
  rw [htk] at hf
  unfold sameKey at hs
  cases k <;> simp only at hs <;> first | (cases hs; done) | skip
  case string a =>
    obtain ⟨⟨a⟩⟩ := a
    cases e <;> simp only at hs <;> first | (cases hs; done) | skip
    rename_i c
    obtain ⟨⟨c⟩⟩ := c
    have h1 := ren_plain_eq hk rfl
    have h2 := ren_plain_eq he rfl
    subst h1; subst h2
    simp only [Option.some.injEq] at hs
    unfold keyFits at hf
    cases d <;> simp [tkOf] at hf
    refine ⟨?_, rfl, rfl, ?_⟩
    · simp [Instr.sameNow, bytes_beq, ← hs, eqBytes_iff]
    · intro hb
      subst hb
      rw [eqBytes_iff] at hs
      have : c = a := (eq_of_beq hs).symm
      subst this
      show ((⟨⟨c⟩⟩ : ByteArray) == ⟨⟨c⟩⟩) = true
      rw [bytes_beq]; simp
  case int kd z =>
    cases e <;> first | (cases hs; done) | skip
    rename_i kd' z'
    have h1 := ren_plain_eq hk rfl
    have h2 := ren_plain_eq he rfl
    subst h1; subst h2
    cases hkk : sameKind kd kd' with
    | false => simp [hkk] at hs
    | true =>
      have : kd = kd' := by simpa [sameKind] using hkk
      subst this
      simp only [hkk, cond_true, Option.some.injEq] at hs
      unfold keyFits at hf
      cases d <;> simp [tkOf] at hf
      refine ⟨?_, rfl, rfl, ?_⟩
      · simp [Instr.sameNow, ← hs, intBeq_eq]
      · intro hb
        subst hb
        rw [intBeq_eq] at hs
        have : z = z' := eq_of_beq hs
        subst this
        show (_ == _ && _ == _) = true
        simp
theorem find_now {kt : TypeId} {d : TypeDesc} {k k' : Value} (hd : P.underlying kt = some d) (hf : keyFits (tk P kt) k = true) (hk : ren ρ k = some k') :
    ∀ {es es' : List MapEntry} {i : Nat} {r : Option (Nat × Value)}, EntsRel ρ es es' → findKeyA k es i = some r →
      (r = none ∧ Instr.findNow d k' es' i = some none) ∨
      (∃ j v v' e', r = some (j, v) ∧ Instr.findNow d k' es' i = some (some (j, v')) ∧ ren ρ v = some v' ∧ i ≤ j ∧ es'[j - i]? = some e' ∧ Instr.sameBits 10000 e'.key k' = true)
  | [], [], i, r, _, he => by
    simp only [findKeyA, Option.some.injEq] at he
    exact .inl ⟨he.symm, rfl⟩
  | e :: es, e' :: es', i, r, hrel, he => by
    obtain ⟨⟨h1, h2, h3⟩, h4⟩ := hrel
    simp only [findKeyA] at he
    cases hs : sameKey k e.key with
    | none => simp [hs] at he
    | some b =>
      obtain ⟨g1, rfl, g3, g4⟩ := sameKey_now hd hf hs hk h1
      simp only [hs] at he
      cases b with
      | true =>
        simp only [cond_true, Option.some.injEq] at he
        subst he
        exact .inr ⟨i, e.val, e'.val, e', rfl, by simp [Instr.findNow, g1], h2, Nat.le_refl _, by simp, g4 rfl⟩
      | false =>
        simp only [cond_false] at he
        rcases find_now hd hf hk h4 he with ⟨q1, q2⟩ | ⟨j, v, v', e2, q1, q2, q3, q4, q5, q6⟩
        · exact .inl ⟨q1, by simp [Instr.findNow, g1, q2]⟩
        · refine .inr ⟨j, v, v', e2, q1, by simp [Instr.findNow, g1, q2], q3, by omega, ?_, q6⟩
          rw [show j - i = (j - (i + 1)) + 1 by omega]; simpa using q5
  | [], _ :: _, _, _, hrel, _ => hrel.elim
  | _ :: _, [], _, _, hrel, _ => hrel.elim
theorem checkKey_ok {kt : TypeId} {k k' : Value} (hf : keyFits (tk P kt) k = true) (hk : ren ρ k = some k') (b : Bool) : (Instr.checkKey b 10000 kt k').run P w = .ok () w := by
  have hb : tk P kt ≠ .bad := fun e => by rw [e] at hf; unfold keyFits at hf; cases k <;> simp at hf
  obtain ⟨d, hd, htk⟩ := tk_some hb
  rw [htk] at hf
  unfold keyFits at hf
  have h10 : (10000 : Nat) = 9999 + 1 := rfl
  cases k <;> simp only at hf <;> first | (cases hf; done) | skip
  case string a =>
    have h1 := ren_plain_eq hk rfl
    subst h1
    cases d <;> simp [tkOf] at hf
    rw [h10, Instr.checkKey]
    simp only [Sem.run_bind, run_underlying' hd, Result.andThen_ok, Sem.run_pure]
  case int kd z =>
    have h1 := ren_plain_eq hk rfl
    subst h1
    cases d <;> simp [tkOf] at hf
    rw [h10, Instr.checkKey]
    simp only [Sem.run_bind, run_underlying' hd, Result.andThen_ok, Sem.run_pure]
theorem entriesOf_ok (hr : Rep P w0 ρ h w) {x x' : Value} {es : List MapEntry} (hx : ren ρ x = some x') (he : entriesOf h x = some es) :
    (x' = .map none ∧ es = []) ∨ (∃ b ES clock, x' = .map (some b) ∧ w.heap[b]? = some (.map ES clock) ∧ EntsRel ρ es ES.toList) := by
  unfold entriesOf at he
  cases x <;> simp only at he <;> first | (cases he; done) | skip
  rename_i r
  cases r with
  | none => simp only [Option.some.injEq] at he; exact .inl ⟨ren_plain_eq hx rfl, he.symm⟩
  | some i =>
    obtain ⟨b, k, g1, rfl⟩ := ren_map hx
    cases hg : h.get i with
    | none => simp [hg] at he
    | some ob =>
      cases ob <;> simp only [hg] at he <;> first | (cases he; done) | skip
      rename_i es0 clock
      simp only [Option.some.injEq] at he
      subst he
      obtain ⟨b', k', O, f1, _, f3, f4⟩ := hr.obj i _ hg rfl
      rw [g1] at f1; cases f1
      cases O <;> simp only [ORel] at f4
      exact .inr ⟨b, _, _, rfl, f3, f4.2⟩
theorem withOk_ren {v v' : Value} (hv : ren ρ v = some v') (ok b : Bool) : ren ρ (withOk ok v b) = some (if ok then .tuple #[v', .bool b] else v') := by
  cases ok with
  | false => simpa [withOk] using hv
  | true => exact ren_tuple_mk (renL_cons_mk hv (renL_cons_mk (by simp [ren]) (by simp [renL])))
theorem lookup_run {t kt et : TypeId} {d : TypeDesc} {x' k' : Value} {ok : Bool} {es' : Array MapEntry} (hm : P.underlying t = some (.map kt et)) (hd : P.underlying kt = some d)
    (hx : (x' = .map none ∧ es' = #[]) ∨ ∃ b clock, x' = .map (some b) ∧ w.heap[b]? = some (.map es' clock)) (hck : ∀ b, (Instr.checkKey b 10000 kt k').run P w = .ok () w) :
    (∀ iv, Instr.findNow d k' es'.toList 0 = some (some iv) → (Instr.lookup t x' k' ok).run P w = .ok (if ok then .tuple #[iv.2, .bool true] else iv.2) w) ∧
    (∀ z, Instr.findNow d k' es'.toList 0 = some none → (zeroValue et).run P w = .ok z w → (Instr.lookup t x' k' ok).run P w = .ok (if ok then .tuple #[z, .bool false] else z) w) := by
  rcases hx with ⟨rfl, rfl⟩ | ⟨b, clock, rfl, hb⟩
  · constructor
    · intro iv hf
      simp only [Instr.lookup, Sem.run_bind, run_underlying' hm, Result.andThen_ok, hck, Instr.findKey, run_underlying' hd, hf, Sem.run_pure]
    · intro z hf hz
      simp only [Instr.lookup, Sem.run_bind, run_underlying' hm, Result.andThen_ok, hck, Instr.findKey, run_underlying' hd, hf, Sem.run_pure, hz]
  · have hob : (getObj b).run P w = .ok (.map es' clock) w := by simp [getObj, Sem.run, hb]
    constructor
    · intro iv hf
      simp only [Instr.lookup, Sem.run_bind, run_underlying' hm, Result.andThen_ok, hob, hck, Instr.findKey, run_underlying' hd, hf, Sem.run_pure]
    · intro z hf hz
      simp only [Instr.lookup, Sem.run_bind, run_underlying' hm, Result.andThen_ok, hob, hck, Instr.findKey, run_underlying' hd, hf, Sem.run_pure, hz]
theorem opLookup_ok (hr : Rep P w0 ρ h w) (ht : TRel ρ n tm A.tmps) {o : Oper} {t : TypeId} {x k : Operand} {ok : Bool} (hop : o.op = .lookup t x k ok) {v : Value} {h' : AHeap}
    (he : opLookup t x k ok P o tm h = some (v, h')) : Yield P w0 ρ ((execOp A.eval o).run P w) v h' := by
  obtain ⟨m, h1, h2⟩ := with1_some he
  obtain ⟨key, h3, h4⟩ := with1_some h2
  obtain ⟨h5, rfl⟩ := keepO_some h4
  have hm := val_ren hr ht h1
  have hkey := val_ren hr ht h3
  unfold lookupA at h5
  cases hk : tk P t <;> simp only [hk] at h5 <;> first | (cases h5; done) | skip
  rename_i kt et
  cases hf : keyFits (tk P kt) key with
  | false => simp [hf] at h5
  | true =>
    simp only [hf, cond_true] at h5
    have hb : tk P kt ≠ .bad := fun e => by rw [e] at hf; unfold keyFits at hf; cases key <;> simp at hf
    obtain ⟨d, hd, _⟩ := tk_some hb
    cases hes : entriesOf h' m with
    | none => simp [hes] at h5
    | some es =>
      simp only [hes, lookupIn] at h5
      cases hfind : findKeyA key es 0 with
      | none => simp [hfind] at h5
      | some r =>
        simp only [hfind] at h5
        have hent : ∃ es' : Array MapEntry, EntsRel ρ es es'.toList ∧ ((A.eval x = .map none ∧ es' = #[]) ∨ ∃ b clock, A.eval x = .map (some b) ∧ w.heap[b]? = some (.map es' clock)) := by
          rcases entriesOf_ok hr hm hes with ⟨e1, e2⟩ | ⟨b, ES, clock, e1, e2, e3⟩
          · rw [e2]; exact ⟨#[], trivial, .inl ⟨e1, rfl⟩⟩
          · exact ⟨ES, e3, .inr ⟨b, clock, e1, e2⟩⟩
        obtain ⟨es', hrel, hx⟩ := hent
        obtain ⟨r1, r2⟩ := lookup_run (ok := ok) (tk_map hk) hd hx (checkKey_ok (P := P) (w := w) hf hkey)
        rcases find_now hd hf hkey hrel hfind with ⟨rfl, q2⟩ | ⟨j, u, u', e', rfl, q2, q3, _⟩
        · cases hz : zeroV P et with
          | none => simp [hz] at h5
          | some z =>
            simp only [hz, Option.some.injEq] at h5
            subst h5
            obtain ⟨z1, z2⟩ := zeroV_some hz w
            refine Yield.keep hr ?_ (withOk_ren (ren_plain ρ z z2) ok false)
            simp only [execOp, hop, Sem.run_bind, r2 z q2 z1, Result.andThen_ok, Sem.run_pure]
        · simp only [Option.some.injEq] at h5
          subst h5
          refine Yield.keep hr ?_ (withOk_ren q3 ok true)
          simp only [execOp, hop, Sem.run_bind, r1 (j, u') q2, Result.andThen_ok, Sem.run_pure]
theorem setEntry_rel {k k' v v' : Value} (hk : ren ρ k = some k') (hv : ren ρ v = some v') : ∀ {es : List MapEntry} {es' : List MapEntry} {i : Nat}, EntsRel ρ es es' → i < es'.length →
    EntsRel ρ (setEntry es i k v) (es'.modify i fun e => { e with key := k', val := v' })
  | [], [], i, _, hi => by simp at hi
  | e :: es, e' :: es', i, ⟨⟨h1, h2, h3⟩, h4⟩, hi => by
    cases i with
    | zero => exact ⟨⟨hk, hv, h3⟩, h4⟩
    | succ i => exact ⟨⟨h1, h2, h3⟩, setEntry_rel hk hv h4 (by simpa using hi)⟩
  | [], _ :: _, _, hr, _ => hr.elim
  | _ :: _, [], _, hr, _ => hr.elim
theorem EntsRel.append {e e' : MapEntry} (he : EntRel ρ e e') : ∀ {es es' : List MapEntry}, EntsRel ρ es es' → EntsRel ρ (es ++ [e]) (es' ++ [e'])
  | [], [], _ => ⟨he, trivial⟩
  | _ :: _, _ :: _, ⟨h1, h2⟩ => ⟨h1, EntsRel.append he h2⟩
  | [], _ :: _, hr => hr.elim
  | _ :: _, [], hr => hr.elim
theorem run_setObj {b : Nat} {O O' : Obj} (hb : w.heap[b]? = some O) (hc : ∀ c e f, O ≠ .cells c e f) : (setObj b O').run P w = .ok () (setAt w b O') := by
  simp only [setObj, Sem.run, hb]
  cases O <;> first | rfl | exact absurd rfl (hc _ _ _)
theorem opMapUpdate_ok (hr : Rep P w0 ρ h w) (ht : TRel ρ n tm A.tmps) {o : Oper} {t : TypeId} {m k x : Operand} (hop : o.op = .mapUpdate t m k x ∨ o.op = .insert t m k x) {v : Value} {h' : AHeap}
    (he : opMapUpdate t m k x P o tm h = some (v, h')) : Yield P w0 ρ ((execOp A.eval o).run P w) v h' := by
  obtain ⟨mv, h1, h2⟩ := with1_some he
  obtain ⟨key, h3, h4⟩ := with1_some h2
  obtain ⟨val, h5, h6⟩ := with1_some h4
  obtain ⟨h7, rfl⟩ := wroteO_some h6
  have hm := val_ren hr ht h1
  have hkey := val_ren hr ht h3
  have hval := val_ren hr ht h5
  unfold mapUpdateA at h7
  cases hk : tk P t <;> simp only [hk] at h7 <;> first | (cases h7; done) | skip
  rename_i kt et
  cases hf : keyFits (tk P kt) key with
  | false => simp [hf] at h7
  | true =>
    simp only [hf, cond_true] at h7
    have hb : tk P kt ≠ .bad := fun e => by rw [e] at hf; unfold keyFits at hf; cases key <;> simp at hf
    obtain ⟨d, hd, _⟩ := tk_some hb
    cases mv <;> simp only at h7 <;> first | (cases h7; done) | skip
    rename_i r
    cases r with
    | none => simp at h7
    | some i =>
      simp only at h7
      obtain ⟨b, kk, g1, g2⟩ := ren_map hm
      cases hg : h.get i with
      | none => simp [hg] at h7
      | some ob =>
        cases ob <;> simp only [hg] at h7 <;> first | (cases h7; done) | skip
        rename_i es clock
        obtain ⟨b', k', O, f1, f2, f3, f4⟩ := hr.obj i _ hg rfl
        rw [g1] at f1; cases f1
        cases O <;> simp only [ORel] at f4
        rename_i ES clock'
        obtain ⟨rfl, f5⟩ := f4
        have hob : (getObj b).run P w = .ok (.map ES clock') w := by simp [getObj, Sem.run, f3]
        have hck := checkKey_ok (P := P) (w := w) hf hkey false
        have hexec : (execOp A.eval o) = (do Instr.mapUpdate t (A.eval m) (A.eval k) (A.eval x); pure .skip) := by rcases hop with hop | hop <;> simp [execOp, hop]
        unfold putEntry at h7
        cases hfind : findKeyA key es 0 with
        | none => simp [hfind] at h7
        | some r =>
          simp only [hfind] at h7
          rcases find_now hd hf hkey f5 hfind with ⟨rfl, q2⟩ | ⟨j, u, u', e', rfl, q2, q3, q4, q5, q6⟩
          · simp only [forceList_eq, forceNat_eq, AHeap.setK_eq, Option.some.injEq] at h7
            subst h7
            refine ⟨ρ, undef, setAt w b (.map (ES.push { key := A.eval k, val := A.eval x, born := clock' }) (clock' + 1)), .skip, ρ.le_refl, ?_, .inr ⟨rfl, rfl⟩, ren_undef, ?_⟩
            · have hset := run_setObj (P := P) (O' := .map (ES.push { key := A.eval k, val := A.eval x, born := clock' }) (clock' + 1)) f3 (by intro c e f h; cases h)
              rw [hexec]
              simp only [Instr.mapUpdate, Sem.run_bind, run_underlying' (tk_map hk), Result.andThen_ok, g2, hob, hck, Instr.findKey, run_underlying' hd, q2, Sem.run_pure, hset]
            · refine hr.setAt hg rfl rfl g1 ⟨rfl, ?_⟩
              simpa using EntsRel.append (e := { key := key, val := val, born := clock' }) (e' := { key := A.eval k, val := A.eval x, born := clock' }) ⟨hkey, hval, rfl⟩ f5
          · simp only [forceList_eq, AHeap.setK_eq, Option.some.injEq] at h7
            subst h7
            simp only [Nat.sub_zero] at q5
            have hjl : j < ES.toList.length := (List.getElem?_eq_some_iff.1 q5).1
            have hkeep : (Instr.keyThatStays (((ES[j]?).map (·.key)).getD (A.eval k)) (A.eval k)).run P w = .ok (A.eval k) w := by
              have : ES[j]? = some e' := by simpa using q5
              simp [Instr.keyThatStays, this, q6]
            refine ⟨ρ, undef, setAt w b (.map (ES.modify j fun e => { e with key := A.eval k, val := A.eval x }) clock'), .skip, ρ.le_refl, ?_, .inr ⟨rfl, rfl⟩, ren_undef, ?_⟩
            · have hset := run_setObj (P := P) (O' := .map (ES.modify j fun e => { e with key := A.eval k, val := A.eval x }) clock') f3 (by intro c e f h; cases h)
              rw [hexec]
              simp only [Instr.mapUpdate, Sem.run_bind, run_underlying' (tk_map hk), Result.andThen_ok, g2, hob, hck, Instr.findKey, run_underlying' hd, q2, Sem.run_pure, hkeep, hset]
            · refine hr.setAt hg rfl rfl g1 ⟨rfl, ?_⟩
              have := setEntry_rel hkey hval f5 hjl
              simpa using this

/-! ### Type assertions -/
theorem assertZero_ok {t : TypeId} {ok : Bool} {v : Value} (he : assertZero P t ok = some v) : ok = true ∧ ∃ z, (zeroValue t).run P w = .ok z w ∧ ren ρ v = some (.tuple #[z, .bool false]) := by
  unfold assertZero at he
  cases ok with
  | false => simp at he
  | true =>
    cases hz : zeroV P t with
    | none => simp [hz] at he
    | some z =>
      simp only [hz, cond_true, Option.some.injEq] at he
      subst he
      obtain ⟨z1, z2⟩ := zeroV_some hz w
      exact ⟨rfl, z, z1, withOk_ren (ok := true) (ren_plain ρ z z2) false⟩
theorem opAssert_ok (hr : Rep P w0 ρ h w) (ht : TRel ρ n tm A.tmps) {o : Oper} {t a : TypeId} {x : Operand} {ok : Bool} (hop : o.op = .typeAssert x t a ok) {v : Value} {h' : AHeap}
    (he : opAssert x a ok P o tm h = some (v, h')) : Yield P w0 ρ ((execOp A.eval o).run P w) v h' := by
  obtain ⟨m, h1, h2⟩ := with1_some he
  obtain ⟨h3, rfl⟩ := keepO_some h2
  have hm := val_ren hr ht h1
  unfold typeAssertA at h3
  cases m <;> simp only at h3 <;> first | (cases h3; done) | skip
  case iface dt u =>
    obtain ⟨u', g1, g2⟩ := ren_iface hm
    have hb : tk P a ≠ .bad := fun e => by simp [e] at h3
    obtain ⟨d, hd, htk⟩ := tk_some hb
    by_cases hi : ∃ want, d = .interface want
    · obtain ⟨want, rfl⟩ := hi
      rw [htk] at h3
      simp only [tkOf, hasAll] at h3
      cases hinf : P.info? dt with
      | none => simp [hinf] at h3
      | some inf =>
        simp only [hinf] at h3
        cases hmm : Instr.missingMethod want inf.methods with
        | none =>
          simp only [hmm, Option.isNone_none, cond_true, Option.some.injEq] at h3
          subst h3
          refine Yield.keep hr ?_ (withOk_ren (ren_iface_mk g1) ok true)
          simp only [execOp, hop, Instr.typeAssert, Sem.run_bind, run_underlying' hd, Result.andThen_ok, g2, run_typeInfo' hinf, hmm, Sem.run_pure]
        | some mm =>
          simp only [hmm, Option.isNone_some, cond_false] at h3
          obtain ⟨rfl, z, z1, z2⟩ := assertZero_ok (w := w) h3
          refine Yield.keep hr ?_ z2
          simp only [execOp, hop, Instr.typeAssert, Sem.run_bind, run_underlying' hd, Result.andThen_ok, g2, run_typeInfo' hinf, hmm, if_true, z1, Sem.run_pure]
    · have h4 : (bif Nat.beq dt a then some (withOk ok u true) else assertZero P a ok) = some v := by
        rw [htk] at h3
        cases d <;> first | exact absurd ⟨_, rfl⟩ hi | exact h3
      cases hbq : Nat.beq dt a with
      | true =>
        have := Nat.eq_of_beq_eq_true hbq
        subst this
        simp only [hbq, cond_true, Option.some.injEq] at h4
        subst h4
        refine Yield.keep hr ?_ (withOk_ren g1 ok true)
        simp only [execOp, hop, Instr.typeAssert, Sem.run_bind, run_underlying' hd, Result.andThen_ok, g2]
        cases d <;> first | exact absurd ⟨_, rfl⟩ hi | simp
      | false =>
        have hne : dt ≠ a := fun e => by subst e; rw [Nat.beq_refl] at hbq; cases hbq
        simp only [hbq, cond_false] at h4
        obtain ⟨rfl, z, z1, z2⟩ := assertZero_ok (w := w) h4
        refine Yield.keep hr ?_ z2
        simp only [execOp, hop, Instr.typeAssert, Sem.run_bind, run_underlying' hd, Result.andThen_ok, g2]
        cases d <;> first | exact absurd ⟨_, rfl⟩ hi | simp [hne, z1]
  case nilIface =>
    have hx := ren_plain_eq hm rfl
    have hb : tk P a ≠ .bad := fun e => by simp [e] at h3
    obtain ⟨d, hd, htk⟩ := tk_some hb
    have h4 : assertZero P a ok = some v := by
      cases hk : tk P a <;> simp only [hk] at h3 <;> first | exact h3 | exact absurd hk hb
    obtain ⟨rfl, z, z1, z2⟩ := assertZero_ok (w := w) h4
    refine Yield.keep hr ?_ z2
    simp only [execOp, hop, Instr.typeAssert, Sem.run_bind, run_underlying' hd, Result.andThen_ok, hx]
    cases d <;> simp [z1]
end
end Go.Ev
