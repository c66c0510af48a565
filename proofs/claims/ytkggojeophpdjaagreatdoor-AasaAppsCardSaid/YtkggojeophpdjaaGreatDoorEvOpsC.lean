/-
  The evaluator's operations are the model's: slices cut and made, structs and arrays built; no condition.
-/
import Derived.Test.YtkggojeophpdjaaGreatDoorEvOpsB
namespace Go.Ev
open Go.RowKit

section
variable {P : Program} {w0 w : World} {ρ : Ren} {h : AHeap} {n : Nat} {tm : T Value} {A : Act}

/-- a bound, as the model meets it -/
def BoundIs (d m : Nat) (v : Option Value) : Prop := (v = none ∧ m = d) ∨ ∃ kd, v = some (.int kd (m : Int))
theorem optVal_some {x : Option Operand} {k : Option Value → Out} {r : Value × AHeap} (hr : Rep P w0 ρ h w) (ht : TRel ρ n tm A.tmps) (he : optVal P tm x k = some r) :
    ∃ v, k v = some r ∧ (∀ d m, boundOf d v = some m → BoundIs d m (x.map A.eval)) := by
  unfold optVal at he
  cases x with
  | none => exact ⟨none, he, fun d m hm => .inl ⟨rfl, by simpa [boundOf] using hm.symm⟩⟩
  | some x =>
    cases e : val? P x tm with
    | none => simp [e] at he
    | some v =>
      simp only [e] at he
      refine ⟨some v, he, fun d m hm => .inr ?_⟩
      obtain ⟨kd, _, h2⟩ := natOf_ren (by simpa [boundOf] using hm) (val_ren hr ht e)
      exact ⟨kd, by simp [h2]⟩
theorem run_sliceBound (kd : IntKind) {m y : Nat} (code : BoundsCode) (hle : m ≤ y) : (Instr.sliceBound (.int kd (m : Int)) y code).run P w = .ok m w := by
  have : (0 : Int) ≤ m ∧ (m : Int) ≤ y := by omega
  simp [Instr.sliceBound, asIntOf, hle]
theorem run_sliceBounds (isS : Bool) {len cap l u : Nat} {lo hi : Option Value} (hl : BoundIs 0 l lo) (hu : BoundIs len u hi) (h1 : l ≤ u) (h2 : u ≤ cap) :
    (Instr.sliceBounds isS len cap lo hi none).run P w = .ok (l, u, cap) w := by
  have eu : ∀ code : BoundsCode, (match hi with | some v => Instr.sliceBound v cap code | none => pure len : Sem Nat).run P w = .ok u w := by
    intro code
    rcases hu with ⟨rfl, rfl⟩ | ⟨kd, rfl⟩
    · simp
    · exact run_sliceBound kd code h2
  have el : ∀ code : BoundsCode, (match lo with | some v => Instr.sliceBound v u code | none => pure 0 : Sem Nat).run P w = .ok l w := by
    intro code
    rcases hl with ⟨rfl, rfl⟩ | ⟨kd, rfl⟩
    · simp
    · exact run_sliceBound kd code h1
  unfold Instr.sliceBounds
  rcases hu with ⟨rfl, rfl⟩ | ⟨kd, rfl⟩ <;> rcases hl with ⟨rfl, rfl⟩ | ⟨kd', rfl⟩ <;>
    simp [run_sliceBound _ _ h2, run_sliceBound _ _ h1]
theorem exact_zero (hr : Rep P w0 ρ h w) {i b k : Nat} (he : isExact h i = true) (hi : ρ i = some (b, k)) : k = 0 := by
  unfold isExact at he
  cases hg : h.get i with
  | none => simp [hg] at he
  | some o =>
    cases o <;> simp only [hg] at he <;> first | (cases he; done) | skip
    case cells c e rw ex =>
      subst he
      obtain ⟨b', k', O, f1, _, _, f4⟩ := hr.obj i _ hg rfl
      rw [hi] at f1; cases f1
      cases O <;> simp only [ORel] at f4
      exact f4.2.1 trivial
    case view c e =>
      obtain ⟨b', k', O, f1, _, _, f4⟩ := hr.obj i _ hg rfl
      rw [hi] at f1; cases f1
      cases O <;> simp only [ORel] at f4
      exact f4.1
theorem sliceTo_some {b o m c : Nat} {v : Value} (he : sliceTo b o m c = some v) : v = .slice (some ⟨b, o, none⟩) m c := by
  simp only [sliceTo, forceNat_eq, Option.some.injEq] at he; exact he.symm
/-- a row cut: what the evaluator has, what the model comes to at 'spare' elements of room more -/
theorem cutRow_some {size b o len cap k : Nat} {lo hi : Option Value} {v : Value} (he : cutRow h size b o len cap lo hi = some v) (hk : isExact h b = true → k = 0) :
    ∃ l u o', boundOf 0 lo = some l ∧ boundOf len hi = some u ∧ l ≤ u ∧ u ≤ cap ∧ v = .slice (some ⟨b, o', none⟩) (u - l) (cap - l) ∧ cap - l + k = cap + k - l ∧
      ∀ b', (if cap + k = l then (⟨b', o, none⟩ : Addr) else (⟨b', o, none⟩ : Addr).add (l * size)) = ⟨b', o', none⟩ := by
  unfold cutRow at he
  cases e1 : boundOf 0 lo with
  | none => simp [e1] at he
  | some l =>
    cases e2 : boundOf len hi with
    | none => simp [e1, e2] at he
    | some u =>
      simp only [e1, e2] at he
      cases hb : (Nat.ble l u && Nat.ble u cap && (Nat.blt l cap || isExact h b || Nat.beq l 0)) with
      | false => simp [hb] at he
      | true =>
        simp only [hb, cond_true] at he
        simp only [Bool.and_eq_true, Bool.or_eq_true] at hb
        obtain ⟨⟨h1, h2⟩, h3⟩ := hb
        have h1 := Nat.le_of_ble_eq_true h1
        have h2 := Nat.le_of_ble_eq_true h2
        cases hc : Nat.beq l cap with
        | true =>
          have hlc := Nat.eq_of_beq_eq_true hc
          simp only [hc, cond_true] at he
          refine ⟨l, u, o, rfl, rfl, h1, h2, sliceTo_some he, by omega, fun b' => ?_⟩
          rcases h3 with (h3 | h3) | h3
          · have := Nat.le_of_ble_eq_true h3; omega
          · rw [hk h3, if_pos (by omega)]
          · have hl0 := Nat.eq_of_beq_eq_true h3
            subst hl0
            split
            · rfl
            · rw [Addr.add_none]; simp
        | false =>
          have hlc : l ≠ cap := fun e => by subst e; rw [show Nat.beq l l = true from Nat.beq_refl l] at hc; cases hc
          simp only [hc, cond_false] at he
          refine ⟨l, u, o + l * size, rfl, rfl, h1, h2, sliceTo_some he, by omega, fun b' => ?_⟩
          rw [if_neg (by omega), Addr.add_none]
theorem opSlice_ok (hr : Rep P w0 ρ h w) (ht : TRel ρ n tm A.tmps) {o : Oper} {t : TypeId} {x : Operand} {lo hi mx : Option Operand} (hop : o.op = .slice t x lo hi mx) {v : Value} {h' : AHeap}
    (he : opSlice t x lo hi mx P o tm h = some (v, h')) : Yield P w0 ρ ((execOp A.eval o).run P w) v h' := by
  unfold opSlice at he
  cases mx with
  | some m => simp at he
  | none =>
    simp only at he
    obtain ⟨p, h1, h2⟩ := with1_some he
    obtain ⟨lv, h3, bl⟩ := optVal_some hr ht h2
    obtain ⟨hv, h4, bh⟩ := optVal_some hr ht h3
    obtain ⟨h5, rfl⟩ := keepO_some h4
    have hpv := val_ren hr ht h1
    unfold sliceA at h5
    cases hk : tk P t <;> simp only [hk] at h5 <;> first | (cases h5; done) | skip
    case str =>
      cases p <;> simp only at h5 <;> first | (cases h5; done) | skip
      rename_i s
      obtain ⟨⟨s⟩⟩ := s
      simp only [cutStr] at h5
      cases e1 : boundOf 0 lv with
      | none => simp [e1] at h5
      | some l =>
        cases e2 : boundOf s.length hv with
        | none => simp [e1, e2] at h5
        | some u =>
          simp only [e1, e2] at h5
          cases hb : (Nat.ble l u && Nat.ble u s.length) with
          | false => simp [hb] at h5
          | true =>
            simp only [hb, cond_true] at h5
            simp only [Bool.and_eq_true] at hb
            have h1 := Nat.le_of_ble_eq_true hb.1
            cases hx : takeL (u - l) (dropL l s) with
            | none => simp [hx] at h5
            | some s' =>
              simp only [hx, Option.some.injEq] at h5
              subst h5
              obtain ⟨g1, g2⟩ := takeL_some _ _ _ hx
              rw [dropL_eq] at g1 g2
              subst g1
              simp only [List.length_drop] at g2
              have hx := ren_plain_eq hpv rfl
              have hsz : (⟨⟨s⟩⟩ : ByteArray).size = s.length := rfl
              have hsb := run_sliceBounds (P := P) (w := w) false (cap := s.length) (bl 0 l e1) (bh s.length u e2) h1 (Nat.le_of_ble_eq_true hb.2)
              have hex : (⟨⟨s⟩⟩ : ByteArray).extract l u = ⟨⟨(s.drop l).take (u - l)⟩⟩ := by
                apply ByteArray.ext
                apply Array.ext'
                simp [List.extract_eq_take_drop]
              refine Yield.keep hr (v' := .string ⟨⟨(s.drop l).take (u - l)⟩⟩) ?_ (by simp [ren])
              simp [execOp, hop, Instr.sliceAt, Instr.slice, run_underlying' (tk_str hk), hx, hsz, hsb, hex]
    case slc e =>
      cases hs : szOf P e with
      | none => simp [hs] at h5
      | some s =>
        simp only [hs] at h5
        cases hn : isNil0 p with
        | true =>
          simp only [hn, cond_true, cutNil] at h5
          have hp : p = .slice none 0 0 := by
            unfold isNil0 at hn
            cases p <;> simp only at hn <;> first | (cases hn; done) | skip
            rename_i a l c
            cases a <;> simp only at hn <;> first | (cases hn; done) | skip
            simp only [Bool.and_eq_true] at hn
            rw [Nat.eq_of_beq_eq_true hn.1, Nat.eq_of_beq_eq_true hn.2]
          subst hp
          cases e1 : boundOf 0 lv with
          | none => simp [e1] at h5
          | some l =>
            cases l with
            | succ l => simp [e1] at h5
            | zero =>
              cases e2 : boundOf 0 hv with
              | none => simp [e1, e2] at h5
              | some u =>
                cases u with
                | succ u => simp [e1, e2] at h5
                | zero =>
                  simp only [e1, e2, Option.some.injEq] at h5
                  subst h5
                  have hx := ren_plain_eq hpv rfl
                  have hsb := run_sliceBounds (P := P) (w := w) true (cap := 0) (bl 0 0 e1) (bh 0 0 e2) (Nat.le_refl _) (Nat.le_refl _)
                  refine Yield.keep hr (v' := .slice none 0 0) ?_ (by simp [ren])
                  simp [execOp, hop, Instr.sliceAt, Instr.slice, run_underlying' (tk_slc hk), hx, hsb, run_sizeOf' hs]
        | false =>
          simp only [hn, cond_false] at h5
          have h6 := h5
          obtain ⟨b, off, len, cap, rfl, h7⟩ := sliceBase_some h6
          obtain ⟨b', k, g1, g2⟩ := ren_slice hpv
          obtain ⟨l, u, o', e1, e2, q1, q2, rfl, q3, q4⟩ := cutRow_some (k := k) h7 (fun hx => exact_zero hr hx g1)
          have hsb := run_sliceBounds (P := P) (w := w) true (cap := cap + k) (bl 0 l e1) (bh len u e2) q1 (by omega)
          refine Yield.keep hr (v' := .slice (some ⟨b', o', none⟩) (u - l) (cap - l + k)) ?_ (ren_slice_mk g1)
          have q4' := q4 b'
          simp only [execOp, hop, Instr.sliceAt, Instr.slice, run_underlying' (tk_slc hk), g2, Sem.run_bind, Result.andThen_ok, Option.map_none, hsb, run_sizeOf' hs, Sem.run_pure, Option.map_some]
          rw [q3]
          by_cases hc : cap + k = l
          · simp only [hc, if_true] at q4' ⊢; rw [q4']
          · simp only [hc, if_false] at q4' ⊢; rw [q4']
    case arr len e =>
      cases hs : szOf P e with
      | none => simp [hs] at h5
      | some s =>
        simp only [hs] at h5
        obtain ⟨b, off, rfl, h6⟩ := atAddr_some h5
        cases hx : isExact h' b with
        | false => simp [hx] at h6
        | true =>
          simp only [hx, cond_true] at h6
          obtain ⟨_, b', k, g1, g2⟩ := ren_ptr hpv
          have hk0 := exact_zero hr hx g1
          subst hk0
          obtain ⟨l, u, o', e1, e2, q1, q2, rfl, q3, q4⟩ := cutRow_some (k := 0) h6 (fun _ => rfl)
          have hsb := run_sliceBounds (P := P) (w := w) false (cap := len) (bl 0 l e1) (bh len u e2) q1 q2
          refine Yield.keep hr (v' := .slice (some ⟨b', o', none⟩) (u - l) (len - l + 0)) ?_ (ren_slice_mk g1)
          have q4' := q4 b'
          simp only [execOp, hop, Instr.sliceAt, run_underlying' (tk_arr hk), g2, Sem.run_bind, Result.andThen_ok, Option.map_none, hsb, run_sizeOf' hs, Sem.run_pure, Instr.sureAddr, Nat.add_zero] at q4' ⊢
          by_cases hc : len = l
          · simp only [hc, if_true] at q4' ⊢; rw [q4']
          · simp only [hc, if_false] at q4' ⊢; rw [q4']
end
end Go.Ev
