/-
  The evaluator's operations are the model's: copy; every operation that is no call of a function; no condition.
-/
import Derived.Test.YtahbpehdjbmndaaGreatDoorEvOpsH
namespace Go.Ev
open Go.RowKit

section
variable {P : Program} {w0 w : World} {ρ : Ren} {h : AHeap} {n : Nat} {tm : T Value} {A : Act}

theorem copy_ok (hr : Rep P w0 ρ h w) {ts : Array TypeId} {ty t : TypeId} {dv x dv' x' v : Value} {h' : AHeap} (ht : ts[0]? = some t) (hdv : ren ρ dv = some dv') (hxv : ren ρ x = some x')
    (he : copyA P t dv x h = some (v, h')) :
    ∃ v' w', (Builtin.copy_ ts ty #[dv', x']).run P w = .ok v' w' ∧ ren ρ v = some v' ∧ Rep P w0 ρ h' w' := by
  unfold copyA at he
  cases hk : tk P t <;> simp only [hk] at he <;> first | (cases he; done) | skip
  rename_i e
  cases dv <;> simp only at he <;> first | (cases he; done) | skip
  rename_i base len cap
  cases hs : szOf P e with
  | none => simp [hs] at he
  | some s =>
    simp only [hs, copyWith] at he
    cases hl : lenA x with
    | none => simp [hl] at he
    | some xn =>
      cases hf : firstA h s (min xn len) x with
      | none => simp [hl, hf] at he
      | some new =>
        simp only [hl, hf] at he
        have hl' := lenA_ok (P := P) (w := w) hxv hl
        obtain ⟨new', hf1, hf2⟩ := firstA_ok hr hxv hf
        have hmin : Nat.min xn len = min xn len := rfl
        cases base with
        | none =>
          have := ren_plain_eq hdv rfl; subst this
          simp only [copyTo] at he
          cases hb : Nat.beq (min xn len) 0 with
          | false => simp [hb] at he
          | true =>
            simp only [hb, cond_true, Option.some.injEq, Prod.mk.injEq] at he
            obtain ⟨rfl, rfl⟩ := he
            have hz := Nat.eq_of_beq_eq_true hb
            rw [hz] at hf1
            refine ⟨.int .i64 0, w, ?_, ren_plain ρ _ rfl, hr⟩
            simp [Builtin.copy_, ht, run_underlying' (tk_slc hk), hl', run_sizeOf' hs, hf1, hmin, goInt, hz]
        | some ad =>
          obtain ⟨b, o, sp⟩ := ad
          obtain rfl : sp = none := by cases sp with | none => rfl | some _ => simp [copyTo] at he
          obtain ⟨B, k, q1, rfl⟩ := ren_slice hdv
          simp only [copyTo] at he
          cases hw : writeRow h b o new with
          | none => simp [hw] at he
          | some h1 =>
            simp only [hw, forceNat_eq, Option.some.injEq, Prod.mk.injEq] at he
            obtain ⟨rfl, rfl⟩ := he
            obtain ⟨b1, k1, w', f1, f2, f3⟩ := writeRow_ok hr hf2 hw
            rw [q1] at f1; cases f1
            refine ⟨.int .i64 (min xn len : Nat), w', ?_, ren_plain ρ _ rfl, f3⟩
            simp [Builtin.copy_, ht, run_underlying' (tk_slc hk), hl', run_sizeOf' hs, hf1, hmin, goInt, f2]

theorem clear_ok (hr : Rep P w0 ρ h w) {ts : Array TypeId} {ty t : TypeId} {x x' v : Value} {h' : AHeap} (ht : ts[0]? = some t) (hx : ren ρ x = some x') (he : clearA P t x h = some (v, h')) :
    ∃ v' w', (Builtin.clear_ ts ty #[x']).run P w = .ok v' w' ∧ ren ρ v = some v' ∧ Rep P w0 ρ h' w' := by
  unfold clearA at he
  cases hk : tk P t <;> simp only [hk] at he <;> first | (cases he; done) | skip
  rename_i e
  cases x <;> simp only at he <;> first | (cases he; done) | skip
  rename_i a n c
  have htup : ren ρ (.tuple ⟨[]⟩) = some (.tuple ⟨[]⟩) := ren_plain ρ _ rfl
  cases n with
  | zero =>
    simp only [Option.some.injEq, Prod.mk.injEq] at he
    obtain ⟨rfl, rfl⟩ := he
    refine ⟨_, w, ?_, htup, hr⟩
    have hsl : ∃ a' c', x' = .slice a' 0 c' := by
      cases a with
      | none => exact ⟨_, _, ren_plain_eq hx rfl⟩
      | some ad => obtain ⟨_, _, hx⟩ := ren_slice_any hx; exact ⟨_, _, hx⟩
    obtain ⟨a', c', rfl⟩ := hsl
    cases a' <;> simp [Builtin.clear_, ht, run_underlying' (tk_slc hk)]
  | succ m =>
    cases a with
    | none => cases he
    | some ad =>
      obtain ⟨b, o, sp⟩ := ad
      cases sp with
      | some sp => cases he
      | none =>
        simp only at he
        cases hz : zeroV P e with
        | none => simp [hz] at he
        | some z =>
          simp only [hz] at he
          cases hw : writeRow h b o (repL (m + 1) (cellsL z)) with
          | none => simp [hw] at he
          | some h1 =>
            simp only [hw, Option.some.injEq, Prod.mk.injEq] at he
            obtain ⟨rfl, rfl⟩ := he
            obtain ⟨B, k, q1, rfl⟩ := ren_slice hx
            obtain ⟨hz1, hz2⟩ := zeroV_some hz w
            have hpl : plainL (repL (m + 1) (cellsL z)) = true := by
              have h1 := plainL_cells hz2
              generalize m + 1 = r
              induction r with
              | zero => rfl
              | succ r ih => simp [repL, plainL_append, h1, ih]
            obtain ⟨b1, k1, w', f1, f2, f3⟩ := writeRow_ok hr (renL_plain ρ _ hpl) hw
            rw [q1] at f1; cases f1
            refine ⟨_, w', ?_, htup, f3⟩
            have hzc : (Builtin.zeroCells z.cells (m + 1)).toList = repL (m + 1) (cellsL z) := by
              unfold Builtin.zeroCells
              rw [zeros_eq, cellsL_eq]
            simp only [Builtin.clear_, ht, List.getElem?_toArray, List.getElem?_cons_zero, Sem.run_bind, run_underlying' (tk_slc hk), Result.andThen_ok, hz1, hzc, f2, Sem.run_pure]
theorem opBuiltin_ok (hr : Rep P w0 ρ h w) (ht : TRel ρ n tm A.tmps) {o : Oper} {c : Call} {b : Builtin} (hop : o.op = .call c) (hc : c.callee = .builtin b) {v : Value} {h' : AHeap}
    (he : opBuiltin b c.args c.argTypes P o tm h = some (v, h')) : Yield P w0 ρ ((execOp A.eval o).run P w) v h' := by
  have hgen : gen P o tm h = some (v, h') → Yield P w0 ρ ((execOp A.eval o).run P w) v h' := fun hg => (gen_ok hr ht hg).1
  cases b <;> simp only [opBuiltin] at he <;> first | exact hgen he | skip
  case len =>
    cases e0 : nthL 0 c.argTypes.toList with
    | none => simp [e0] at he
    | some t =>
      simp only [e0] at he
      obtain ⟨x, xv, h1, h2, h3⟩ := arg1_some he
      rcases orGen_some h3 with ⟨h4, rfl⟩ | h4
      · obtain ⟨g1, g2⟩ := lenOp_ok (ty := o.type) hr (val_ren hr ht h2) h4 (get_nth e0)
        refine Yield.keep hr ?_ (ren_plain ρ _ g2)
        rw [exec_builtin hop hc, map_one h1]
        simp [builtin, g1]
      · exact hgen h4
  case cap =>
    cases e0 : nthL 0 c.argTypes.toList with
    | none => simp [e0] at he
    | some t =>
      simp only [e0] at he
      obtain ⟨x, xv, h1, h2, h3⟩ := arg1_some he
      rcases orGen_some h3 with ⟨h4, rfl⟩ | h4
      · obtain ⟨g1, g2⟩ := capOp_ok (ty := o.type) hr (val_ren hr ht h2) h4 (get_nth e0)
        refine Yield.keep hr ?_ (ren_plain ρ _ g2)
        rw [exec_builtin hop hc, map_one h1]
        simp [builtin, g1]
      · exact hgen h4
  case append =>
    cases e0 : nthL 0 c.argTypes.toList with
    | none => simp [e0] at he
    | some t =>
      cases e1 : nthL 1 c.argTypes.toList with
      | none => simp [e0, e1] at he
      | some u =>
        simp only [e0, e1] at he
        obtain ⟨x, y, xv, yv, h1, h2, h3, h4⟩ := arg2_some he
        obtain ⟨σ, v', w', g1, g2, g3, g4⟩ := append_ok (ty := o.type) hr (get_nth e0) (get_nth e1) (val_ren hr ht h2) (val_ren hr ht h3) h4
        refine ⟨σ, v', w', _, g1, ?_, .inl rfl, g3, g4⟩
        rw [exec_builtin hop hc, map_two h1]
        simp [builtin, g2]
  case copy =>
    cases e0 : nthL 0 c.argTypes.toList with
    | none => simp [e0] at he
    | some t =>
      simp only [e0] at he
      obtain ⟨x, y, xv, yv, h1, h2, h3, h4⟩ := arg2_some he
      obtain ⟨v', w', g2, g3, g4⟩ := copy_ok (ty := o.type) hr (get_nth e0) (val_ren hr ht h2) (val_ren hr ht h3) h4
      refine ⟨ρ, v', w', _, ρ.le_refl, ?_, .inl rfl, g3, g4⟩
      rw [exec_builtin hop hc, map_two h1]
      simp [builtin, g2]
  case clear =>
    cases e0 : nthL 0 c.argTypes.toList with
    | none => simp [e0] at he
    | some t =>
      simp only [e0] at he
      obtain ⟨x, xv, h1, h2, h3⟩ := arg1_some he
      obtain ⟨v', w', g2, g3, g4⟩ := clear_ok (ty := o.type) hr (get_nth e0) (val_ren hr ht h2) h3
      refine ⟨ρ, v', w', _, ρ.le_refl, ?_, .inl rfl, g3, g4⟩
      rw [exec_builtin hop hc, map_one h1]
      simp [builtin, g2]

/-- Every operation that is no call of a function. -/
theorem evOper_ok (hr : Rep P w0 ρ h w) (ht : TRel ρ n tm A.tmps) {o : Oper} {ih : IH} (hnc : ∀ c, o.op = .call c → ∃ b, c.callee = .builtin b) {v : Value} {h' : AHeap}
    (he : evOper o.op ih P o tm h = some (v, h')) : Yield P w0 ρ ((execOp A.eval o).run P w) v h' := by
  cases hop : o.op <;> rw [hop] at he <;> first | (have he' : (none : Out) = some (v, h') := he; cases he'; done) | skip
  case move x => exact opMove_ok hr ht (.inl hop) he
  case assign x => exact opMove_ok hr ht (.inr hop) he
  case pick => exact opPick_ok hr ht hop he
  case alloc => exact opAlloc_ok (tm := tm) hr hop he
  case box => exact opBox_ok hr ht hop he
  case build => exact opBuild_ok hr ht hop he
  case buildSlice => exact opBuildSlice_ok hr ht hop he
  case load => exact opLoad_ok hr ht hop he
  case store => exact opStore_ok hr ht hop he
  case nilCheck => exact opNilCheck_ok hr ht hop he
  case binOp => exact opBin_ok hr ht hop he
  case unOp => exact (gen_ok hr ht he).1
  case convert => exact opConvert_ok hr ht hop he
  case makeInterface => exact opMakeIface_ok hr ht hop he
  case makeFunc => exact opMakeFunc_ok hr ht hop he
  case makeMap => exact opMakeMap_ok hr ht hop he
  case makeSlice => exact opMakeSlice_ok hr ht hop he
  case slice => exact opSlice_ok hr ht hop he
  case fieldAddr => exact opFieldAddr_ok hr ht hop he
  case field => exact opField_ok hr ht hop he
  case indexAddr => exact opIndexAddr_ok hr ht hop he
  case index => exact opIndex_ok hr ht hop he
  case lookup => exact opLookup_ok hr ht hop he
  case mapUpdate => exact opMapUpdate_ok hr ht (.inl hop) he
  case insert => exact opMapUpdate_ok hr ht (.inr hop) he
  case typeAssert => exact opAssert_ok hr ht hop he
  case extract => exact opExtract_ok hr ht hop he
  case call c =>
    obtain ⟨b, hc⟩ := hnc c hop
    have he' : opCall c ih P o tm h = some (v, h') := he
    simp only [opCall, hc] at he'
    exact opBuiltin_ok hr ht hop hc he'
end
end Go.Ev
