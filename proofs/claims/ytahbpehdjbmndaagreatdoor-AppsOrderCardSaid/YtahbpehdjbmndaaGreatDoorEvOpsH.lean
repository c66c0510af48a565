/-
  The evaluator's operations are the model's: len, cap, append, copy; every operation that is no call; no condition.
-/
import Derived.Test.YtahbpehdjbmndaaGreatDoorEvOpsG
namespace Go.Ev
open Go.RowKit

section
variable {P : Program} {w0 w : World} {ρ : Ren} {h : AHeap} {n : Nat} {tm : T Value} {A : Act}

theorem arg1_some {l : List Operand} {k : Value → Out} {r : Value × AHeap} (he : arg1 P l tm k = some r) : ∃ x v, l = [x] ∧ val? P x tm = some v ∧ k v = some r := by
  unfold arg1 at he
  cases l with
  | nil => simp at he
  | cons x l =>
    cases l with
    | nil => obtain ⟨v, h1, h2⟩ := with1_some he; exact ⟨x, v, rfl, h1, h2⟩
    | cons y l => simp at he
theorem arg2_some {l : List Operand} {k : Value → Value → Out} {r : Value × AHeap} (he : arg2 P l tm k = some r) : ∃ x y v u, l = [x, y] ∧ val? P x tm = some v ∧ val? P y tm = some u ∧ k v u = some r := by
  unfold arg2 at he
  cases l with
  | nil => simp at he
  | cons x l =>
    obtain ⟨v, h1, h2⟩ := with1_some he
    obtain ⟨y, u, rfl, h3, h4⟩ := arg1_some h2
    exact ⟨x, y, v, u, rfl, h1, h3, h4⟩
theorem exec_builtin {o : Oper} {c : Call} {b : Builtin} (hop : o.op = .call c) (hc : c.callee = .builtin b) :
    execOp A.eval o = builtin b c.argTypes o.type (c.args.map fun | .const _ => true | _ => false) (c.args.map A.eval) := by
  simp only [execOp, hop, resolve, hc]
  rfl
theorem map_one {c : Call} {x : Operand} (h : c.args.toList = [x]) : c.args.map A.eval = #[A.eval x] := by apply Array.ext'; simp [h]
theorem map_two {c : Call} {x y : Operand} (h : c.args.toList = [x, y]) : c.args.map A.eval = #[A.eval x, A.eval y] := by apply Array.ext'; simp [h]
theorem get_nth {ts : Array TypeId} {i : Nat} {t : TypeId} (h : nthL i ts.toList = some t) : ts[i]? = some t := by rw [nthL_eq] at h; simpa using h

theorem EntsRel.length : ∀ {es es' : List MapEntry}, EntsRel ρ es es' → es'.length = es.length
  | [], [], _ => rfl
  | _ :: _, _ :: _, ⟨_, h⟩ => by simp [h.length]
  | [], _ :: _, h => h.elim
  | _ :: _, [], h => h.elim
theorem lenOp_ok (hr : Rep P w0 ρ h w) {t ty : TypeId} {x x' v : Value} (hx : ren ρ x = some x') (he : lenOp P t x h = some v) {ts : Array TypeId} (ht : ts[0]? = some t) :
    (Builtin.len_ ts ty #[x']).run P w = .ok v w ∧ plain v = true := by
  unfold lenOp at he
  cases x <;> simp only at he <;> first | (cases he; done) | skip
  case string s =>
    obtain ⟨⟨s⟩⟩ := s
    cases hk : tk P t <;> simp only [hk] at he <;> first | (cases he; done) | skip
    simp only [retN, forceNat_eq, Option.some.injEq] at he
    subst he
    have := ren_plain_eq hx rfl; subst this
    have hsz : (⟨⟨s⟩⟩ : ByteArray).size = s.length := rfl
    exact ⟨by simp [Builtin.len_, ht, run_underlying' (tk_str hk), goInt, hsz], rfl⟩
  case slice a m c =>
    cases hk : tk P t <;> simp only [hk] at he <;> first | (cases he; done) | skip
    simp only [Option.some.injEq] at he
    subst he
    have hsl : ∃ a' c', x' = .slice a' m c' := by
      cases a with
      | none => exact ⟨_, _, ren_plain_eq hx rfl⟩
      | some ad => obtain ⟨_, _, hx⟩ := ren_slice_any hx; exact ⟨_, _, hx⟩
    obtain ⟨a', c', rfl⟩ := hsl
    exact ⟨by simp [Builtin.len_, ht, run_underlying' (tk_slc hk), goInt], rfl⟩
  case map r =>
    cases hk : tk P t <;> simp only [hk] at he <;> first | (cases he; done) | skip
    cases hes : entriesOf h (.map r) with
    | none => simp [hes] at he
    | some es =>
      simp only [hes, retN, forceNat_eq, Option.some.injEq] at he
      subst he
      refine ⟨?_, rfl⟩
      rcases entriesOf_ok hr hx hes with ⟨rfl, rfl⟩ | ⟨b, ES, clock, rfl, e2, e3⟩
      · simp [Builtin.len_, ht, run_underlying' (tk_map hk), goInt]
      · have hob : (getObj b).run P w = .ok (.map ES clock) w := by simp [getObj, Sem.run, e2]
        have hl := e3.length
        simp only [Array.length_toList] at hl
        simp [Builtin.len_, ht, run_underlying' (tk_map hk), goInt, hob, hl]
theorem capOp_ok (hr : Rep P w0 ρ h w) {t ty : TypeId} {x x' v : Value} (hx : ren ρ x = some x') (he : capOp P t x h = some v) {ts : Array TypeId} (ht : ts[0]? = some t) :
    (Builtin.cap_ ts ty #[x']).run P w = .ok v w ∧ plain v = true := by
  unfold capOp at he
  cases hk : tk P t <;> simp only [hk] at he <;> first | (cases he; done) | skip
  cases x <;> simp only at he <;> first | (cases he; done) | skip
  rename_i a m c
  cases a with
  | none =>
    simp only [Option.some.injEq] at he
    subst he
    have := ren_plain_eq hx rfl; subst this
    exact ⟨by simp [Builtin.cap_, ht, run_underlying' (tk_slc hk), goInt], rfl⟩
  | some ad =>
    obtain ⟨i, o, sp⟩ := ad
    cases sp with
    | some sp =>
      cases hsp : Nat.beq sp 1 with
      | true => simp [hsp] at he
      | false =>
      obtain ⟨_, rfl⟩ := ren_mark (fun e => by subst e; cases hsp) hx
      simp only [hsp, cond_false, Option.some.injEq] at he
      subst he
      exact ⟨by simp [Builtin.cap_, ht, run_underlying' (tk_slc hk), goInt], rfl⟩
    | none =>
    obtain ⟨b, k, g1, rfl⟩ := ren_slice hx
    simp only at he
    cases hex : isExact h i with
    | false => simp [hex] at he
    | true =>
      simp only [hex, cond_true, Option.some.injEq] at he
      subst he
      have := exact_zero hr hex g1
      subst this
      exact ⟨by simp [Builtin.cap_, ht, run_underlying' (tk_slc hk), goInt], rfl⟩

/-! ### append, copy -/
theorem lenA_ok {x x' : Value} {m : Nat} (hx : ren ρ x = some x') (he : lenA x = some m) : (Builtin.lenOf x').run P w = .ok m w := by
  unfold lenA at he
  cases x <;> simp only at he <;> first | (cases he; done) | skip
  case string s =>
    obtain ⟨⟨s⟩⟩ := s
    simp only [Option.some.injEq] at he
    subst he
    have := ren_plain_eq hx rfl; subst this
    rfl
  case slice a m' c =>
    simp only [Option.some.injEq] at he
    subst he
    cases a with
    | none => have := ren_plain_eq hx rfl; subst this; rfl
    | some ad => obtain ⟨_, _, rfl⟩ := ren_slice_any hx; rfl
theorem firstA_ok (hr : Rep P w0 ρ h w) {x x' : Value} {size m : Nat} {l : List Value} (hx : ren ρ x = some x') (he : firstA h size m x = some l) :
    ∃ l', (Builtin.firstCells size m x').run P w = .ok ⟨l'⟩ w ∧ renL ρ l = some l' := by
  unfold firstA at he
  cases x <;> simp only at he <;> first | (cases he; done) | skip
  case string s =>
    obtain ⟨⟨s⟩⟩ := s
    simp only at he
    cases ht : takeL m s with
    | none => simp [ht] at he
    | some l0 =>
      simp only [ht, Option.some.injEq] at he
      subst he
      obtain ⟨rfl, h2⟩ := takeL_some _ _ _ ht
      have := ren_plain_eq hx rfl; subst this
      refine ⟨(s.take m).map byteV, ?_, by rw [bytesV_eq]; exact renL_plain ρ _ (plainL_bytes _)⟩
      have hex : ((⟨⟨s⟩⟩ : ByteArray).extract 0 m).data = ⟨s.take m⟩ := by
        apply Array.ext'
        rw [ByteArray.data_extract]
        simp [List.extract_eq_take_drop]
      simp only [Builtin.firstCells, hex, Sem.run_pure]
      congr 1
      apply Array.ext'
      simp
      rfl
  case slice a l0 c =>
    cases a with
    | none =>
      simp only [Option.some.injEq] at he
      subst he
      have := ren_plain_eq hx rfl; subst this
      exact ⟨[], rfl, by simp [renL]⟩
    | some ad =>
      obtain ⟨i, o, sp⟩ := ad
      cases sp with
      | some sp =>
        cases m with
        | succ m => simp at he
        | zero =>
          simp only [Option.some.injEq] at he
          subst he
          obtain ⟨_, _, rfl⟩ := ren_slice_any hx
          exact ⟨[], by simp [Builtin.firstCells]; rfl, by simp [renL]⟩
      | none =>
      obtain ⟨b, k, g1, rfl⟩ := ren_slice hx
      simp only at he
      obtain ⟨b', k', C, e, fz, l', h1, h2, h3, h4, h5⟩ := hr.cut he
      rw [g1] at h1; cases h1
      refine ⟨l', ?_, h3⟩
      simp only [Builtin.firstCells]
      rw [run_loadCells_heap h2 o (m * size) h5, h4]
theorem roomy_some {e : TypeId} {s need : Nat} (he : roomy P e s need = true) :
    ∃ i z, P.info? e = some i ∧ (2 * need + 1000) * i.bytes ≤ 281474976710656 ∧ i.bytes ≠ 0 ∧ s ≠ 0 ∧ zeroV P e = some z ∧ z.cells.size = s ∧ oneCells z.cells.toList = true := by
  unfold roomy at he
  cases hb : byOf P e with
  | none => simp [hb] at he
  | some b =>
    simp only [hb, Bool.and_eq_true, Bool.not_eq_true'] at he
    obtain ⟨h1, h2, h3, h4⟩ := he
    obtain ⟨i, i1, i2⟩ := run_bytesOf' hb
    unfold zeroFits at h4
    cases hz : zeroV P e with
    | none => simp [hz] at h4
    | some z =>
      simp only [hz] at h4
      rw [Bool.and_eq_true] at h4
      have hzs : z.cells.size = s := by rw [← (lenB_iff _ _).1 h4.1, cellsL_eq]; simp
      refine ⟨i, z, i1, by rw [i2]; exact Nat.le_of_ble_eq_true h1, ?_, ?_, rfl, hzs, by rw [← cellsL_eq]; exact h4.2⟩
      · rw [i2]; intro e; subst e; cases h2
      · intro e; subst e; cases h3
theorem grow_bound {need cap : Nat} (h : cap < need) : Builtin.nextslicecap need cap ≤ 2 * need + 1000 := by
  have hg : ∀ r c, c ≤ 2 * need + 1000 → Builtin.growBy need r c ≤ 2 * need + 1000 := by
    intro r
    induction r with
    | zero => intro c hc; simpa [Builtin.growBy] using hc
    | succ r ih =>
      intro c hc
      simp only [Builtin.growBy]
      split
      · exact hc
      · exact ih _ (by omega)
  unfold Builtin.nextslicecap
  split
  · omega
  · split
    · omega
    · exact hg 4 cap (by omega)
theorem mem_repL {α : Type} {l : List α} {v : α} : ∀ {r : Nat}, v ∈ repL r l → v ∈ l
  | 0, h => by simp [repL] at h
  | r + 1, h => by
    simp only [repL, List.mem_append] at h
    rcases h with h | h
    · exact h
    · exact mem_repL h
/-- the model's append, where the evaluator has laid a new row -/
theorem grow_ok (hr : Rep P w0 ρ h w) {e : TypeId} {s need : Nat} (cap : Nat) {old new old' new' : List Value} {v : Value} {h' : AHeap} (hs : szOf P e = some s)
    (hroom : roomy P e s need = true) (ho : renL ρ old = some old') (hn : renL ρ new = some new')
    (he : loose h (old ++ new) e need = some (v, h')) :
    ∃ r, (choose (.appendCap need cap e)).run P w = .ok (need + r) w.drew ∧
      (∃ z, (zeroValue e).run P w.drew = .ok z w.drew ∧ ∃ σ, ρ.le σ ∧ ren σ v = some (.slice (some ⟨w.heap.size, 0, none⟩) need (need + r)) ∧
        Rep P w0 σ h' (w.drew.alloc (.cells ((⟨old'⟩ : Array Value) ++ ⟨new'⟩ ++ Builtin.zeroCells z.cells (need + r - need)) e (0, 0)))) := by
  obtain ⟨i, z, i1, i2, i3, i4, i5, i6, i7⟩ := roomy_some hroom
  refine ⟨w.tape w.drawn (.appendCap need cap e) % (2 ^ 63 - need), by simp [run_choose, Question.forced, Question.cut], z, (zeroV_some i5 _).1, ?_⟩
  generalize w.tape w.drawn (.appendCap need cap e) % (2 ^ 63 - need) = r
  simp only [loose, forceList_eq, AHeap.newK_eq, forceNat_eq, Option.some.injEq, Prod.mk.injEq] at he
  obtain ⟨rfl, rfl⟩ := he
  have hzp := (zeroV_some i5 w).2
  have hzc : Builtin.zeroCells z.cells (need + r - need) = ⟨repL r z.cells.toList⟩ := by
    unfold Builtin.zeroCells
    rw [show need + r - need = r by omega]
    exact zeros_eq z.cells r
  have hO : ORel P ρ r (.cells (old ++ new) e true false) (.cells ((⟨old'⟩ : Array Value) ++ ⟨new'⟩ ++ Builtin.zeroCells z.cells (need + r - need)) e (0, 0)) := by
    rw [hzc]
    refine ⟨rfl, (fun e => by cases e), (fun _ => .inl rfl), old' ++ new', repL r z.cells.toList, renL_append ho hn, by simp, (fun _ => ⟨s, hs, ?_⟩), ?_, ?_⟩
    · rw [repL_length, ← i6]; simp
    · rintro rfl; rfl
    · have hz := oneCells_ren (ρ := ρ) (renL_plain ρ _ (by rw [← cellsL_eq]; exact plainL_cells hzp)) i7
      intro v hv
      exact hz v (mem_repL hv)
  exact ⟨ρ.upd h.next (w.heap.size, r), hr.upd_le _, ren_slice_mk (Ren.upd_same _ _ _), hr.drew.new hO⟩

theorem notInt_some {t : TypeId} (hk : notInt (tk P t) = true) : ∃ d, P.underlying t = some d ∧ ∀ k, d ≠ .int k := by
  have hb : tk P t ≠ .bad := fun e => by simp [e, notInt] at hk
  obtain ⟨d, h1, h2⟩ := tk_some hb
  refine ⟨d, h1, fun k e => ?_⟩
  subst e
  simp [h2, tkOf, notInt] at hk
/-- the model's append, without the makes that are never carried out -/
def appendCore (e : TypeId) (size n : Nat) (base : Option Addr) (sLen sCap : Nat) (x : Value) : Sem Value := do
  let need := sLen + n
  if need ≤ sCap then
    let new ← Builtin.firstCells size n x
    if let some a := base then storeCells (a.add (sLen * size)) new.toList
    pure (.slice base need sCap)
  else
    let newCap ← choose (.appendCap need sCap e)
    let old ← Builtin.firstCells size sLen (.slice base sLen sCap)
    let new ← Builtin.firstCells size n x
    let rest := Builtin.zeroCells (← zeroValue e).cells (newCap - need)
    pure (.slice (some (← newRow e (old ++ new ++ rest))) need newCap)
theorem append_core {ts : Array TypeId} {ty t xt e : TypeId} {base : Option Addr} {sLen sCap n size : Nat} {x : Value} (ht : ts[0]? = some t) (hx : ts[1]? = some xt)
    (hk : tk P t = .slc e) (hn : notInt (tk P xt) = true) (hs : szOf P e = some size) (hl : (Builtin.lenOf x).run P w = .ok n w) (hroom : sLen + n ≤ sCap ∨ roomy P e size (sLen + n) = true) :
    (Builtin.append_ ts ty #[.slice base sLen sCap, x]).run P w = (appendCore e size n base sLen sCap x).run P w := by
  obtain ⟨d, d1, d2⟩ := notInt_some hn
  unfold Builtin.append_ appendCore
  simp only [ht, hx, List.getElem?_toArray, List.getElem?_cons_zero, List.getElem?_cons_succ, Sem.run_bind, run_underlying' (tk_slc hk), Result.andThen_ok, run_sizeOf' hs, run_underlying' d1, Sem.run_pure]
  simp only [Bool.false_eq_true, if_false, Sem.run_bind, hl, Result.andThen_ok]
  by_cases hc : sLen + n ≤ sCap
  · simp [hc]
    rfl
  · rw [if_neg hc, if_neg hc]
    have hr := hroom.resolve_left hc
    obtain ⟨i, z, i1, i2, i3, i4, i5, i6, i7⟩ := roomy_some hr
    have hg := grow_bound (Nat.lt_of_not_le hc)
    have hb : ¬ (Builtin.nextslicecap (sLen + n) sCap * i.bytes > 2 ^ 48) := by
      have := Nat.mul_le_mul_right i.bytes hg
      omega
    simp only [Sem.run_bind, run_typeInfo' i1, Result.andThen_ok]
    rw [if_neg (by simp [i3])]
    simp only [Sem.run_bind, run_typeInfo' i1, Result.andThen_ok]
    rw [if_neg hb]
    simp only [Sem.run_bind]
    congr 1
    funext a w'
    simp [run_typeInfo' i1]
theorem append_ok (hr : Rep P w0 ρ h w) {ts : Array TypeId} {ty t xt : TypeId} {sv x sv' x' v : Value} {h' : AHeap} (ht : ts[0]? = some t) (hx : ts[1]? = some xt) (hsv : ren ρ sv = some sv') (hxv : ren ρ x = some x')
    (he : appendA P t xt sv x h = some (v, h')) :
    ∃ σ v' w', ρ.le σ ∧ (Builtin.append_ ts ty #[sv', x']).run P w = .ok v' w' ∧ ren σ v = some v' ∧ Rep P w0 σ h' w' := by
  unfold appendA at he
  cases hk : tk P t <;> simp only [hk] at he <;> first | (cases he; done) | skip
  rename_i e
  cases hn : notInt (tk P xt) with
  | false => simp [hn] at he
  | true =>
    simp only [hn, cond_true] at he
    cases sv <;> simp only at he <;> first | (cases he; done) | skip
    rename_i base len cap
    cases hs : szOf P e with
    | none => simp [hs] at he
    | some s =>
      simp only [hs, appendWith] at he
      cases hl : lenA x with
      | none => simp [hl] at he
      | some n =>
        cases hf : firstA h s n x with
        | none => simp [hl, hf] at he
        | some new =>
          simp only [hl, hf] at he
          have hl' := lenA_ok (P := P) (w := w) hxv hl
          obtain ⟨new', hf1, hf2⟩ := firstA_ok hr hxv hf
          obtain ⟨new'', hf3, hf4⟩ := firstA_ok hr.drew hxv hf
          rw [hf2] at hf4; cases hf4
          cases base with
          | none =>
            have := ren_plain_eq hsv rfl; subst this
            simp only [appendTo] at he
            cases hb : (Nat.beq len 0 && Nat.beq cap 0) with
            | false => simp [hb] at he
            | true =>
              simp only [hb, cond_true] at he
              simp only [Bool.and_eq_true] at hb
              have hb1 := Nat.eq_of_beq_eq_true hb.1
              have hb2 := Nat.eq_of_beq_eq_true hb.2
              subst hb1; subst hb2
              cases hn0 : Nat.beq n 0 with
              | true =>
                simp only [hn0, cond_true, Option.some.injEq, Prod.mk.injEq] at he
                obtain ⟨rfl, rfl⟩ := he
                have := Nat.eq_of_beq_eq_true hn0; subst this
                refine ⟨ρ, .slice none 0 0, w, ρ.le_refl, ?_, ren_plain ρ _ rfl, hr⟩
                rw [append_core ht hx hk hn hs hl' (.inl (by omega))]
                simp [appendCore, hf1]
              | false =>
                simp only [hn0, cond_false] at he
                have hnn : n ≠ 0 := fun e => by subst e; cases hn0
                cases hro : (roomy P e s n && oneCells new) with
                | false => simp [hro] at he
                | true =>
                  simp only [hro, cond_true] at he
                  simp only [Bool.and_eq_true] at hro
                  obtain ⟨r, g1, z, g2, σ, g3, g4, g5⟩ := grow_ok hr (cap := 0) hs hro.1 (old := []) (new := new) (old' := []) (new' := new') (by simp [renL]) hf2 he
                  refine ⟨σ, _, _, g3, ?_, g4, g5⟩
                  rw [append_core ht hx hk hn hs hl' (.inr (by simpa using hro.1))]
                  unfold appendCore
                  simp only [Nat.zero_add]
                  rw [if_neg (by omega)]
                  have hf0 : (Builtin.firstCells s 0 (.slice none 0 0)).run P w.drew = .ok #[] w.drew := rfl
                  simp only [Sem.run_bind, g1, g2, hf0, hf3, run_newRow, Result.andThen_ok, Sem.run_pure]
                  rfl
          | some ad =>
            obtain ⟨b, o, sp⟩ := ad
            cases sp with
            | some sp =>
              simp only [appendTo] at he
              cases hb : (Nat.beq len 0 && (Nat.beq cap 0 && !Nat.beq sp 1)) with
              | false => simp [hb] at he
              | true =>
                simp only [hb, cond_true] at he
                simp only [Bool.and_eq_true, Bool.not_eq_true'] at hb
                have hb1 := Nat.eq_of_beq_eq_true hb.1
                have hb2 := Nat.eq_of_beq_eq_true hb.2.1
                subst hb1; subst hb2
                obtain ⟨a', hsv'⟩ := ren_mark (fun e => by subst e; cases hb.2.2) hsv
                subst hsv'
                cases hn0 : Nat.beq n 0 with
                | true =>
                  simp only [hn0, cond_true] at he
                  cases hl0 : lenB new 0 with
                  | false => simp [hl0] at he
                  | true =>
                    simp only [hl0, cond_true, Option.some.injEq, Prod.mk.injEq] at he
                    obtain ⟨rfl, rfl⟩ := he
                    have := Nat.eq_of_beq_eq_true hn0; subst this
                    have hnew : new = [] := List.length_eq_zero_iff.1 ((lenB_iff _ _).1 hl0)
                    subst hnew
                    have hnew' : new' = [] := renL_nil hf2
                    subst hnew'
                    refine ⟨ρ, .slice (some a') 0 0, w, ρ.le_refl, ?_, hsv, hr⟩
                    rw [append_core ht hx hk hn hs hl' (.inl (by omega))]
                    simp [appendCore, hf1, storeCells]
                | false =>
                  simp only [hn0, cond_false] at he
                  have hnn : n ≠ 0 := fun e => by subst e; cases hn0
                  cases hro : (roomy P e s n && oneCells new) with
                  | false => simp [hro] at he
                  | true =>
                    simp only [hro, cond_true] at he
                    simp only [Bool.and_eq_true] at hro
                    obtain ⟨r, g1, z, g2, σ, g3, g4, g5⟩ := grow_ok hr (cap := 0) hs hro.1 (old := []) (new := new) (old' := []) (new' := new') (by simp [renL]) hf2 he
                    refine ⟨σ, _, _, g3, ?_, g4, g5⟩
                    rw [append_core ht hx hk hn hs hl' (.inr (by simpa using hro.1))]
                    unfold appendCore
                    simp only [Nat.zero_add]
                    rw [if_neg (by omega)]
                    have hf0 : (Builtin.firstCells s 0 (.slice (some a') 0 0)).run P w.drew = .ok #[] w.drew := by simp [Builtin.firstCells]; rfl
                    simp only [Sem.run_bind, g1, g2, hf0, hf3, run_newRow, Result.andThen_ok, Sem.run_pure]
                    rfl
            | none =>
            obtain ⟨B, k, q1, rfl⟩ := ren_slice hsv
            simp only [appendTo] at he
            cases hle : Nat.ble (len + n) cap with
            | true =>
              simp only [hle, cond_true, appendIn] at he
              have hle := Nat.le_of_ble_eq_true hle
              cases hw : writeRow h b (o + len * s) new with
              | none => simp [hw] at he
              | some h1 =>
                simp only [hw, sliceIn, forceNat_eq, Option.some.injEq, Prod.mk.injEq] at he
                obtain ⟨rfl, rfl⟩ := he
                obtain ⟨b1, k1, w', f1, f2, f3⟩ := writeRow_ok hr hf2 hw
                rw [q1] at f1; cases f1
                refine ⟨ρ, .slice (some ⟨B, o, none⟩) (len + n) (cap + k), w', ρ.le_refl, ?_, ren_slice_mk q1, f3⟩
                rw [append_core ht hx hk hn hs hl' (.inl (by omega))]
                unfold appendCore
                simp [show len + n ≤ cap + k by omega, hf1, Addr.add_none, f2]
            | false =>
              simp only [hle, cond_false] at he
              have hlt : cap < len + n := by
                apply Nat.lt_of_not_le; intro hc
                rw [Nat.ble_eq_true_of_le hc] at hle; cases hle
              cases hro : (roomy P e s (len + n) && oneCells new) with
              | false => simp [hro] at he
              | true =>
                simp only [hro, cond_true, appendOut] at he
                simp only [Bool.and_eq_true] at hro
                cases hg : h.get b with
                | none => simp [hg] at he
                | some ob =>
                  cases ob <;> simp only [hg] at he <;> first | (cases he; done) | skip
                  rename_i c e' rw ex
                  cases hto : takeL (len * s) (dropL o c) with
                  | none => simp [hto] at he
                  | some old =>
                    simp only [hto] at he
                    cases hone : oneCells old with
                    | false => simp [hone] at he
                    | true =>
                      simp only [hone, cond_true] at he
                      have hfo : firstA h s len (.slice (some ⟨b, o, none⟩) len cap) = some old := by
                        simp [firstA, rowCut, rowOf, hg, hto]
                      obtain ⟨old', ho1, ho2⟩ := firstA_ok hr.drew hsv hfo
                      obtain ⟨B', k', O, f1, f2, f3, f4⟩ := hr.obj b _ hg rfl
                      rw [q1] at f1; cases f1
                      -- where the model lays a new row
                      have hnew : ∀ h2, Rep P w0 ρ h2 w → loose h2 (old ++ new) e (len + n) = some (v, h') → ¬ (len + n ≤ cap + k) →
                          ∃ σ v' w', ρ.le σ ∧ (Builtin.append_ ts ty #[.slice (some ⟨B, o, none⟩) len (cap + k), x']).run P w = .ok v' w' ∧ ren σ v = some v' ∧ Rep P w0 σ h' w' := by
                        intro h2 hr2 he2 hbig
                        obtain ⟨r, g1, z, g2, σ, g3, g4, g5⟩ := grow_ok hr2 (cap := cap + k) hs hro.1 ho2 hf2 he2
                        refine ⟨σ, _, _, g3, ?_, g4, g5⟩
                        rw [append_core ht hx hk hn hs hl' (.inr hro.1)]
                        unfold appendCore
                        simp only []
                        rw [if_neg hbig]
                        simp only [Sem.run_bind, g1, g2, ho1, hf3, run_newRow, Result.andThen_ok, Sem.run_pure]
                        rfl
                      cases O <;> simp only [ORel] at f4
                      rename_i C e'' fz
                      obtain ⟨rfl, p2, p3, c', junk, p4, p5, p6, p7, p8⟩ := f4
                      cases ex with
                      | true =>
                        simp only [cond_true] at he
                        have hk0 := p2 rfl; subst hk0
                        exact hnew h hr he (by omega)
                      | false =>
                        simp only [cond_false] at he
                        cases hcc : (rw && Nat.beq o 0 && lenB c (cap * s) && (Nat.beq e e'' && lenB new (n * s))) with
                        | false => simp [hcc] at he
                        | true =>
                          simp only [hcc, cond_true, AHeap.setK_eq] at he
                          simp only [Bool.and_eq_true] at hcc
                          obtain ⟨⟨⟨c1, c2⟩, c3⟩, c4, c5⟩ := hcc
                          have c2 := Nat.eq_of_beq_eq_true c2
                          have c4 := Nat.eq_of_beq_eq_true c4
                          subst c1; subst c2; subst c4
                          by_cases hin : len + n ≤ cap + k
                          · simp only [loose, forceList_eq, AHeap.newK_eq, forceNat_eq, Option.some.injEq, Prod.mk.injEq] at he
                            obtain ⟨rfl, rfl⟩ := he
                            have hc := (lenB_iff _ _).1 c3
                            have hnl := (lenB_iff _ _).1 c5
                            have hl3 := renL_length hf2
                            have hl4 := renL_length p4
                            have hk : k ≠ 0 := by omega
                            obtain ⟨s', j1, j2⟩ := p6 hk
                            rw [hs] at j1; cases j1
                            obtain ⟨t1, t2⟩ := takeL_ren p4 hto
                            have hsz : C.size = c'.length + junk.length := by rw [← Array.length_toList, p5, List.length_append]
                            have hold : old' = c'.take (len * s) := by
                              rw [ho2] at t1; simpa using t1
                            have ha : len * s + n * s = (len + n) * s := by rw [Nat.add_mul]
                            have hb' : (len + n) * s ≤ cap * s + k * s := by rw [← Nat.add_mul]; exact Nat.mul_le_mul_right _ hin
                            have hd : cap * s ≤ (len + n) * s := Nat.mul_le_mul_right _ (by omega)
                            have hfit : 0 + len * s + new'.length ≤ C.size := by omega
                            have hst := run_storeCells (P := P) new' (0 + len * s) 0 C w f3 (by omega) (p3 rfl) (oneCells_ren hf2 hro.2)
                            simp only [Nat.add_zero, Nat.zero_add] at hst
                            have hO : ORel P ρ (cap + k - (len + n)) (.cells (old ++ new) e true false) (.cells ⟨over C.toList (len * s) new'⟩ e fz) := by
                              refine ⟨rfl, (fun e => by cases e), fun _ => ?_, old' ++ new', C.toList.drop (len * s + new'.length), renL_append ho2 hf2, ?_, fun _ => ⟨s, hs, ?_⟩, fun h0 => ?_, fun v hv => ?_⟩
                              · have hlen : (over C.toList (len * s) new').length = C.size := by rw [over_length (by simp; omega)]; simp
                                simpa [hlen] using p3 rfl
                              · unfold over
                                rw [hold, p5, List.take_append_of_le_length (by omega)]
                              · simp only [List.length_drop, Array.length_toList]
                                rw [Nat.sub_mul, Nat.add_mul]
                                omega
                              · apply List.eq_nil_of_length_eq_zero
                                simp only [List.length_drop, Array.length_toList]
                                have : (cap + k) * s ≤ (len + n) * s := Nat.mul_le_mul_right _ (by omega)
                                rw [Nat.add_mul] at this
                                omega
                              · rw [p5, List.drop_append, List.drop_eq_nil_of_le (by omega), List.nil_append] at hv
                                exact p8 v (List.mem_of_mem_drop hv)
                            refine ⟨_, .slice (some ⟨B, 0, none⟩) (len + n) (cap + k), setAt w B (.cells ⟨over C.toList (len * s) new'⟩ e fz), (hr.kill hg).upd_le (B, cap + k - (len + n)), ?_, ?_,
                              (hr.kill hg).add (below_setAt hr.below (f2 rfl)) (fun b' hne _ => setAt_heap_other hne) (setAt_heap_same f3) ?_ (f2 rfl) hO⟩
                            · rw [append_core ht hx ‹tk P t = .slc e› hn hs hl' (.inl hin)]
                              unfold appendCore
                              simp [hin, hf1, Addr.add_none, hst]
                            · have := ren_slice_mk (o := 0) (l := len + n) (c := len + n) (Ren.upd_same ρ (h.put b .dead).next (B, cap + k - (len + n)))
                              rw [show len + n + (cap + k - (len + n)) = cap + k by omega] at this
                              exact this
                            · intro i p k' hi hp hi'
                              rw [AHeap.get_put] at hi
                              by_cases e : i = b
                              · rw [if_pos e] at hi; cases hi; cases hp
                              · rw [if_neg e] at hi
                                exact e (hr.inj i b p _ B k' k hi hg hp rfl hi' q1)
                          · exact hnew _ (hr.kill hg) he hin
end
end Go.Ev
