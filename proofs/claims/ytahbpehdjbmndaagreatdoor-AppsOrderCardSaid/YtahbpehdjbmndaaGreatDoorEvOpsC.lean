/-
  The evaluator's operations are the model's: slices cut and made, structs and arrays built; no condition.
-/
import Derived.Test.YtahbpehdjbmndaaGreatDoorEvOpsB
namespace Go.Ev
open Go.RowKit

section
variable {P : Program} {w0 w : World} {ρ : Ren} {h : AHeap} {n : Nat} {tm : T Value} {A : Act}

/-- a bound, as the model meets it -/
def BoundIs (d m : Nat) (v : Option Value) : Prop := (v = none ∧ m = d) ∨ ∃ kd, v = some (.int kd (m : Int))
theorem optVal_some {x : Option Operand} {k : Option Value → Out} {r : Value × AHeap} (hr : Rep P w0 ρ h w) (ht : TRel ρ n tm A.tmps) (he : optVal P tm x k = some r) :
    ∃ v, k v = some r ∧ (∀ d m, boundOf d v = some m → BoundIs d m (x.map A.eval)) := by
  unfold optVal at he
  cases x with
  | none => exact ⟨none, he, fun d m hm => .inl ⟨rfl, by simpa [boundOf] using hm.symm⟩⟩
  | some x =>
    cases e : val? P x tm with
    | none => simp [e] at he
    | some v =>
      simp only [e] at he
      refine ⟨some v, he, fun d m hm => .inr ?_⟩
      obtain ⟨kd, _, h2⟩ := natOf_ren (by simpa [boundOf] using hm) (val_ren hr ht e)
      exact ⟨kd, by simp [h2]⟩
theorem run_sliceBound (kd : IntKind) {m y : Nat} (code : BoundsCode) (hle : m ≤ y) : (Instr.sliceBound (.int kd (m : Int)) y code).run P w = .ok m w := by
  have : (0 : Int) ≤ m ∧ (m : Int) ≤ y := by omega
  simp [Instr.sliceBound, asIntOf, hle]
theorem run_sliceBounds (isS : Bool) {len cap l u : Nat} {lo hi : Option Value} (hl : BoundIs 0 l lo) (hu : BoundIs len u hi) (h1 : l ≤ u) (h2 : u ≤ cap) :
    (Instr.sliceBounds isS len cap lo hi none).run P w = .ok (l, u, cap) w := by
  have eu : ∀ code : BoundsCode, (match hi with | some v => Instr.sliceBound v cap code | none => pure len : Sem Nat).run P w = .ok u w := by
    intro code
    rcases hu with ⟨rfl, rfl⟩ | ⟨kd, rfl⟩
    · simp
    · exact run_sliceBound kd code h2
  have el : ∀ code : BoundsCode, (match lo with | some v => Instr.sliceBound v u code | none => pure 0 : Sem Nat).run P w = .ok l w := by
    intro code
    rcases hl with ⟨rfl, rfl⟩ | ⟨kd, rfl⟩
    · simp
    · exact run_sliceBound kd code h1
  unfold Instr.sliceBounds
  rcases hu with ⟨rfl, rfl⟩ | ⟨kd, rfl⟩ <;> rcases hl with ⟨rfl, rfl⟩ | ⟨kd', rfl⟩ <;>
    simp [run_sliceBound _ _ h2, run_sliceBound _ _ h1]
theorem run_sliceBounds3 (isS : Bool) {len cap l u mm : Nat} {lo : Option Value} {kd kd' : IntKind} (hl : BoundIs 0 l lo) (h1 : l ≤ u) (h2 : u ≤ mm) (h3 : mm ≤ cap) :
    (Instr.sliceBounds isS len cap lo (some (.int kd (u : Int))) (some (.int kd' (mm : Int)))).run P w = .ok (l, u, mm) w := by
  unfold Instr.sliceBounds
  rcases hl with ⟨rfl, rfl⟩ | ⟨kd', rfl⟩ <;> simp [run_sliceBound _ _ h3, run_sliceBound _ _ h2, run_sliceBound _ _ h1]
theorem cutMax_some {s b o : Nat} {sp : Option Nat} {len cap m : Nat} {lo hi : Option Value} {v : Value} (he : cutMax s b o sp len cap lo hi m = some v) :
    ∃ l u, boundOf 0 lo = some l ∧ boundOf len hi = some u ∧ l ≤ u ∧ u ≤ m ∧ m ≤ cap ∧
      ((sp = none ∧ v = .slice (some ⟨b, if m = l then o else o + l * s, some 0⟩) (u - l) (m - l)) ∨ ∃ s', sp = some s' ∧ s' ≠ 1 ∧ m = l ∧ v = .slice (some ⟨b, o, some s'⟩) (u - l) (m - l)) := by
  unfold cutMax at he
  cases e1 : boundOf 0 lo with
  | none => simp [e1] at he
  | some l =>
    cases e2 : boundOf len hi with
    | none => simp [e1, e2] at he
    | some u =>
      simp only [e1, e2] at he
      cases hb : (Nat.ble l u && (Nat.ble u m && Nat.ble m cap)) with
      | false => simp [hb] at he
      | true =>
        simp only [hb, cond_true] at he
        simp only [Bool.and_eq_true] at hb
        have h1 := Nat.le_of_ble_eq_true hb.1
        have h2 := Nat.le_of_ble_eq_true hb.2.1
        have h3 := Nat.le_of_ble_eq_true hb.2.2
        refine ⟨l, u, rfl, rfl, h1, h2, h3, ?_⟩
        cases sp with
        | none =>
          left
          refine ⟨rfl, ?_⟩
          simp only at he
          cases hm : Nat.beq m l with
          | true =>
            simp only [hm, cond_true, Option.some.injEq] at he
            rw [if_pos (Nat.eq_of_beq_eq_true hm)]; exact he.symm
          | false =>
            simp only [hm, cond_false, forceNat_eq, Option.some.injEq] at he
            have hne : m ≠ l := fun e => by subst e; rw [show Nat.beq m m = true from Nat.beq_refl m] at hm; cases hm
            rw [if_neg hne]; exact he.symm
        | some s' =>
          right
          simp only at he
          cases hm : (Nat.beq m l && !Nat.beq s' 1) with
          | true =>
            simp only [hm, cond_true, Option.some.injEq] at he
            simp only [Bool.and_eq_true, Bool.not_eq_true'] at hm
            exact ⟨s', rfl, (fun e => by subst e; cases hm.2), Nat.eq_of_beq_eq_true hm.1, he.symm⟩
          | false => simp [hm] at he
theorem exact_zero (hr : Rep P w0 ρ h w) {i b k : Nat} (he : isExact h i = true) (hi : ρ i = some (b, k)) : k = 0 := by
  unfold isExact at he
  cases hg : h.get i with
  | none => simp [hg] at he
  | some o =>
    cases o <;> simp only [hg] at he <;> first | (cases he; done) | skip
    case cells c e rw ex =>
      subst he
      obtain ⟨b', k', O, f1, _, _, f4⟩ := hr.obj i _ hg rfl
      rw [hi] at f1; cases f1
      cases O <;> simp only [ORel] at f4
      exact f4.2.1 trivial
    case view c e =>
      obtain ⟨b', k', O, f1, _, _, f4⟩ := hr.obj i _ hg rfl
      rw [hi] at f1; cases f1
      cases O <;> simp only [ORel] at f4
      exact f4.1
theorem sliceTo_some {b o m c : Nat} {v : Value} (he : sliceTo b o m c = some v) : v = .slice (some ⟨b, o, none⟩) m c := by
  simp only [sliceTo, forceNat_eq, Option.some.injEq] at he; exact he.symm
/-- a row cut: what the evaluator has, what the model comes to at 'spare' elements of room more -/
theorem cutRow_some {size b o len cap k : Nat} {lo hi : Option Value} {v : Value} (he : cutRow h size b o len cap lo hi = some v) (hk : isExact h b = true → k = 0) :
    ∃ l u o', boundOf 0 lo = some l ∧ boundOf len hi = some u ∧ l ≤ u ∧ u ≤ cap ∧ v = .slice (some ⟨b, o', none⟩) (u - l) (cap - l) ∧ cap - l + k = cap + k - l ∧
      ∀ b', (if cap + k = l then (⟨b', o, none⟩ : Addr) else (⟨b', o, none⟩ : Addr).add (l * size)) = ⟨b', o', none⟩ := by
  unfold cutRow at he
  cases e1 : boundOf 0 lo with
  | none => simp [e1] at he
  | some l =>
    cases e2 : boundOf len hi with
    | none => simp [e1, e2] at he
    | some u =>
      simp only [e1, e2] at he
      cases hb : (Nat.ble l u && Nat.ble u cap && (Nat.blt l cap || isExact h b || Nat.beq l 0)) with
      | false => simp [hb] at he
      | true =>
        simp only [hb, cond_true] at he
        simp only [Bool.and_eq_true, Bool.or_eq_true] at hb
        obtain ⟨⟨h1, h2⟩, h3⟩ := hb
        have h1 := Nat.le_of_ble_eq_true h1
        have h2 := Nat.le_of_ble_eq_true h2
        cases hc : Nat.beq l cap with
        | true =>
          have hlc := Nat.eq_of_beq_eq_true hc
          simp only [hc, cond_true] at he
          refine ⟨l, u, o, rfl, rfl, h1, h2, sliceTo_some he, by omega, fun b' => ?_⟩
          rcases h3 with (h3 | h3) | h3
          · have := Nat.le_of_ble_eq_true h3; omega
          · rw [hk h3, if_pos (by omega)]
          · have hl0 := Nat.eq_of_beq_eq_true h3
            subst hl0
            split
            · rfl
            · rw [Addr.add_none]; simp
        | false =>
          have hlc : l ≠ cap := fun e => by subst e; rw [show Nat.beq l l = true from Nat.beq_refl l] at hc; cases hc
          simp only [hc, cond_false] at he
          refine ⟨l, u, o + l * size, rfl, rfl, h1, h2, sliceTo_some he, by omega, fun b' => ?_⟩
          rw [if_neg (by omega), Addr.add_none]
theorem opSlice_ok (hr : Rep P w0 ρ h w) (ht : TRel ρ n tm A.tmps) {o : Oper} {t : TypeId} {x : Operand} {lo hi mx : Option Operand} (hop : o.op = .slice t x lo hi mx) {v : Value} {h' : AHeap}
    (he : opSlice t x lo hi mx P o tm h = some (v, h')) : Yield P w0 ρ ((execOp A.eval o).run P w) v h' := by
  unfold opSlice at he
  cases mx with
  | some m =>
    simp only at he
    obtain ⟨p, h1, h2⟩ := with1_some he
    obtain ⟨lv, h3, bl⟩ := optVal_some hr ht h2
    obtain ⟨hv, h4, bh⟩ := optVal_some hr ht h3
    cases hi with
    | none => cases h4
    | some hiop =>
      simp only at h4
      obtain ⟨mv, h6, h7⟩ := with1_some h4
      obtain ⟨h5, rfl⟩ := keepO_some h7
      have hpv := val_ren hr ht h1
      unfold sliceMax at h5
      cases hk : tk P t <;> simp only [hk] at h5 <;> first | (cases h5; done) | skip
      rename_i e
      cases hs : szOf P e with
      | none => simp [hs] at h5
      | some s =>
        cases hm : natOf mv with
        | none => simp [hs, hm] at h5
        | some mm =>
          obtain ⟨kd, _, hmv⟩ := natOf_ren hm (val_ren hr ht h6)
          simp only [hs, hm] at h5
          have hbd : ∀ d u, boundOf d hv = some u → ∃ kd', A.eval hiop = .int kd' (u : Int) := by
            intro d u hu
            rcases bh d u hu with ⟨e1, _⟩ | ⟨kd', e1⟩
            · cases e1
            · exact ⟨kd', by simpa using e1⟩
          cases p <;> simp only at h5 <;> first | (cases h5; done) | skip
          rename_i a len cap
          cases a with
          | none =>
            simp only at h5
            cases hb : (isNil0 (.slice none len cap) && Nat.beq mm 0) with
            | false => simp [hb] at h5
            | true =>
              simp only [hb, cond_true] at h5
              simp only [Bool.and_eq_true, isNil0] at hb
              obtain ⟨⟨z1, z2⟩, z3⟩ := hb
              have z1 := Nat.eq_of_beq_eq_true z1
              have z2 := Nat.eq_of_beq_eq_true z2
              have z3 := Nat.eq_of_beq_eq_true z3
              subst z1; subst z2; subst z3
              unfold cutNil at h5
              cases e1 : boundOf 0 lv with
              | none => simp [e1] at h5
              | some l =>
                cases l with
                | succ l => simp [e1] at h5
                | zero =>
                  cases e2 : boundOf 0 hv with
                  | none => simp [e1, e2] at h5
                  | some u =>
                    cases u with
                    | succ u => simp [e1, e2] at h5
                    | zero =>
                      simp only [e1, e2, Option.some.injEq] at h5
                      subst h5
                      have hx := ren_plain_eq hpv rfl
                      obtain ⟨kd', hhv⟩ := hbd 0 0 e2
                      have hsb := run_sliceBounds3 (P := P) (w := w) true (len := 0) (cap := 0) (kd := kd') (kd' := kd) (bl 0 0 e1) (Nat.le_refl _) (Nat.le_refl _) (Nat.le_refl 0)
                      refine Yield.keep hr (v' := .slice none 0 0) ?_ (by simp [ren])
                      simp only [execOp, hop, Instr.sliceAt, Instr.slice, run_underlying' (tk_slc hk), hx, Sem.run_bind, Result.andThen_ok, Option.map_some, hhv, hmv, hsb, run_sizeOf' hs, Sem.run_pure]
                      rfl
          | some ad =>
            obtain ⟨b, off, sp⟩ := ad
            simp only at h5
            obtain ⟨l, u, e1, e2, q1, q2, q3, q4⟩ := cutMax_some h5
            obtain ⟨kd', hhv⟩ := hbd len u e2
            rcases q4 with ⟨rfl, rfl⟩ | ⟨s', rfl, hs1, hml, rfl⟩
            · obtain ⟨b', k, g1, g2⟩ := ren_slice hpv
              have hsb := run_sliceBounds3 (P := P) (w := w) true (len := len) (cap := cap + k) (kd := kd') (kd' := kd) (bl 0 l e1) q1 q2 (show mm ≤ cap + k by omega)
              refine Yield.keep hr (v' := .slice (some ⟨b', if mm = l then off else off + l * s, none⟩) (u - l) (mm - l)) ?_ (ren_cap_mk g1)
              simp only [execOp, hop, Instr.sliceAt, Instr.slice, run_underlying' (tk_slc hk), g2, Sem.run_bind, Result.andThen_ok, Option.map_some, hhv, hmv, hsb, run_sizeOf' hs, Sem.run_pure]
              by_cases hc : mm = l
              · simp only [hc, if_true]
              · simp only [hc, if_false, Addr.add_none]
            · subst hml
              obtain ⟨a', g2⟩ := ren_mark hs1 hpv
              have hsb := run_sliceBounds3 (P := P) (w := w) true (len := len) (cap := cap) (kd := kd') (kd' := kd) (bl 0 _ e1) q1 q2 q3
              refine Yield.keep hr (v' := .slice (some a') (u - mm) (mm - mm)) ?_ ?_
              · simp only [execOp, hop, Instr.sliceAt, Instr.slice, run_underlying' (tk_slc hk), g2, Sem.run_bind, Result.andThen_ok, Option.map_some, hhv, hmv, hsb, run_sizeOf' hs, Sem.run_pure, if_true]
              · match s', hs1 with
                | 0, _ =>
                  obtain ⟨b', k, g1, g3⟩ := ren_cap hpv
                  rw [g3] at g2
                  simp only [Value.slice.injEq, Option.some.injEq, and_true] at g2
                  rw [← g2]; exact ren_cap_mk g1
                | s' + 2, _ =>
                  obtain ⟨_, _, g3⟩ := ren_odd hpv
                  rw [g3] at g2
                  simp only [Value.slice.injEq, Option.some.injEq, and_true] at g2
                  rw [← g2]
                  have hz1 : u - mm = 0 := by omega
                  have hz2 : mm - mm = 0 := by omega
                  simp [ren, hz1]
  | none =>
    simp only at he
    obtain ⟨p, h1, h2⟩ := with1_some he
    obtain ⟨lv, h3, bl⟩ := optVal_some hr ht h2
    obtain ⟨hv, h4, bh⟩ := optVal_some hr ht h3
    obtain ⟨h5, rfl⟩ := keepO_some h4
    have hpv := val_ren hr ht h1
    unfold sliceA at h5
    cases hk : tk P t <;> simp only [hk] at h5 <;> first | (cases h5; done) | skip
    case str =>
      cases p <;> simp only at h5 <;> first | (cases h5; done) | skip
      rename_i s
      obtain ⟨⟨s⟩⟩ := s
      simp only [cutStr] at h5
      cases e1 : boundOf 0 lv with
      | none => simp [e1] at h5
      | some l =>
        cases e2 : boundOf s.length hv with
        | none => simp [e1, e2] at h5
        | some u =>
          simp only [e1, e2] at h5
          cases hb : (Nat.ble l u && Nat.ble u s.length) with
          | false => simp [hb] at h5
          | true =>
            simp only [hb, cond_true] at h5
            simp only [Bool.and_eq_true] at hb
            have h1 := Nat.le_of_ble_eq_true hb.1
            cases hx : takeL (u - l) (dropL l s) with
            | none => simp [hx] at h5
            | some s' =>
              simp only [hx, Option.some.injEq] at h5
              subst h5
              obtain ⟨g1, g2⟩ := takeL_some _ _ _ hx
              rw [dropL_eq] at g1 g2
              subst g1
              simp only [List.length_drop] at g2
              have hx := ren_plain_eq hpv rfl
              have hsz : (⟨⟨s⟩⟩ : ByteArray).size = s.length := rfl
              have hsb := run_sliceBounds (P := P) (w := w) false (cap := s.length) (bl 0 l e1) (bh s.length u e2) h1 (Nat.le_of_ble_eq_true hb.2)
              have hex : (⟨⟨s⟩⟩ : ByteArray).extract l u = ⟨⟨(s.drop l).take (u - l)⟩⟩ := by
                apply ByteArray.ext
                apply Array.ext'
                simp [List.extract_eq_take_drop]
              refine Yield.keep hr (v' := .string ⟨⟨(s.drop l).take (u - l)⟩⟩) ?_ (by simp [ren])
              simp [execOp, hop, Instr.sliceAt, Instr.slice, run_underlying' (tk_str hk), hx, hsz, hsb, hex]
    case slc e =>
      cases hs : szOf P e with
      | none => simp [hs] at h5
      | some s =>
        simp only [hs] at h5
        cases hn : isNil0 p with
        | true =>
          simp only [hn, cond_true, cutNil] at h5
          have hp : p = .slice none 0 0 := by
            unfold isNil0 at hn
            cases p <;> simp only at hn <;> first | (cases hn; done) | skip
            rename_i a l c
            cases a <;> simp only at hn <;> first | (cases hn; done) | skip
            simp only [Bool.and_eq_true] at hn
            rw [Nat.eq_of_beq_eq_true hn.1, Nat.eq_of_beq_eq_true hn.2]
          subst hp
          cases e1 : boundOf 0 lv with
          | none => simp [e1] at h5
          | some l =>
            cases l with
            | succ l => simp [e1] at h5
            | zero =>
              cases e2 : boundOf 0 hv with
              | none => simp [e1, e2] at h5
              | some u =>
                cases u with
                | succ u => simp [e1, e2] at h5
                | zero =>
                  simp only [e1, e2, Option.some.injEq] at h5
                  subst h5
                  have hx := ren_plain_eq hpv rfl
                  have hsb := run_sliceBounds (P := P) (w := w) true (cap := 0) (bl 0 0 e1) (bh 0 0 e2) (Nat.le_refl _) (Nat.le_refl _)
                  refine Yield.keep hr (v' := .slice none 0 0) ?_ (by simp [ren])
                  simp [execOp, hop, Instr.sliceAt, Instr.slice, run_underlying' (tk_slc hk), hx, hsb, run_sizeOf' hs]
        | false =>
          simp only [hn, cond_false] at h5
          have h6 := h5
          obtain ⟨b, off, len, cap, rfl, h7⟩ := sliceBase_some h6
          obtain ⟨b', k, g1, g2⟩ := ren_slice hpv
          cases hcr : cutRow h' s b off len cap lv hv with
          | none =>
            rw [hcr] at h7
            simp only [orTail, cutTail] at h7
            cases e1 : boundOf 0 lv with
            | none => simp [e1] at h7
            | some l =>
              cases e2 : boundOf len hv with
              | none => simp [e1, e2] at h7
              | some u =>
                simp only [e1, e2] at h7
                cases hb : (Nat.beq l cap && Nat.beq u cap) with
                | false => simp [hb] at h7
                | true =>
                  simp only [hb, cond_true, forceNat_eq, Option.some.injEq] at h7
                  subst h7
                  simp only [Bool.and_eq_true] at hb
                  have hlc := Nat.eq_of_beq_eq_true hb.1
                  have huc := Nat.eq_of_beq_eq_true hb.2
                  rw [hlc] at e1 ⊢
                  rw [huc] at e2
                  have hsb := run_sliceBounds (P := P) (w := w) true (cap := cap + k) (bl 0 cap e1) (bh len cap e2) (Nat.le_refl _) (by omega)
                  refine Yield.keep hr (v' := .slice (some ⟨b', if k = 0 then off else off + cap * s, none⟩) 0 k) ?_ (ren_tail_mk g1)
                  simp only [execOp, hop, Instr.sliceAt, Instr.slice, run_underlying' (tk_slc hk), g2, Sem.run_bind, Result.andThen_ok, Option.map_none, hsb, run_sizeOf' hs, Sem.run_pure, Option.map_some, Nat.sub_self, Nat.add_sub_cancel_left]
                  by_cases hk0 : k = 0
                  · simp [hk0]
                  · have : ¬ cap + k = cap := by omega
                    simp only [this, hk0, if_false, Addr.add_none]
          | some vv =>
          rw [hcr] at h7
          simp only [orTail, Option.some.injEq] at h7
          subst h7
          have h7 := hcr
          obtain ⟨l, u, o', e1, e2, q1, q2, rfl, q3, q4⟩ := cutRow_some (k := k) h7 (fun hx => exact_zero hr hx g1)
          have hsb := run_sliceBounds (P := P) (w := w) true (cap := cap + k) (bl 0 l e1) (bh len u e2) q1 (by omega)
          refine Yield.keep hr (v' := .slice (some ⟨b', o', none⟩) (u - l) (cap - l + k)) ?_ (ren_slice_mk g1)
          have q4' := q4 b'
          simp only [execOp, hop, Instr.sliceAt, Instr.slice, run_underlying' (tk_slc hk), g2, Sem.run_bind, Result.andThen_ok, Option.map_none, hsb, run_sizeOf' hs, Sem.run_pure, Option.map_some]
          rw [q3]
          by_cases hc : cap + k = l
          · simp only [hc, if_true] at q4' ⊢; rw [q4']
          · simp only [hc, if_false] at q4' ⊢; rw [q4']
    case arr len e =>
      cases hs : szOf P e with
      | none => simp [hs] at h5
      | some s =>
        simp only [hs] at h5
        obtain ⟨b, off, rfl, h6⟩ := atAddr_some h5
        cases hx : isExact h' b with
        | false => simp [hx] at h6
        | true =>
          simp only [hx, cond_true] at h6
          obtain ⟨_, b', k, g1, g2⟩ := ren_ptr hpv
          have hk0 := exact_zero hr hx g1
          subst hk0
          obtain ⟨l, u, o', e1, e2, q1, q2, rfl, q3, q4⟩ := cutRow_some (k := 0) h6 (fun _ => rfl)
          have hsb := run_sliceBounds (P := P) (w := w) false (cap := len) (bl 0 l e1) (bh len u e2) q1 q2
          refine Yield.keep hr (v' := .slice (some ⟨b', o', none⟩) (u - l) (len - l + 0)) ?_ (ren_slice_mk g1)
          have q4' := q4 b'
          simp only [execOp, hop, Instr.sliceAt, run_underlying' (tk_arr hk), g2, Sem.run_bind, Result.andThen_ok, Option.map_none, hsb, run_sizeOf' hs, Sem.run_pure, Instr.sureAddr, Nat.add_zero] at q4' ⊢
          by_cases hc : len = l
          · simp only [hc, if_true] at q4' ⊢; rw [q4']
          · simp only [hc, if_false] at q4' ⊢; rw [q4']
end
end Go.Ev
