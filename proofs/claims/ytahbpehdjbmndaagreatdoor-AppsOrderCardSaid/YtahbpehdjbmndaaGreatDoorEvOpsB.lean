/-
  The evaluator's operations are the model's: addresses, parts, slices, numbers, strings; no condition.
-/
import Derived.Test.YtahbpehdjbmndaaGreatDoorEvOpsA
namespace Go.Ev
open Go.RowKit

section
variable {P : Program} {w0 w : World} {ρ : Ren} {h : AHeap} {n : Nat} {tm : T Value} {A : Act}

theorem natOf_some {v : Value} {m : Nat} (he : natOf v = some m) : ∃ k, v = .int k (m : Int) := by
  unfold natOf at he
  cases v <;> simp only at he <;> first | (cases he; done) | skip
  rename_i k z
  cases z with
  | ofNat z => simp at he; subst he; exact ⟨k, rfl⟩
  | negSucc z => simp at he
theorem natOf_ren {v v' : Value} {m : Nat} (he : natOf v = some m) (hv : ren ρ v = some v') : ∃ k, v = .int k (m : Int) ∧ v' = .int k (m : Int) := by
  obtain ⟨k, rfl⟩ := natOf_some he
  exact ⟨k, rfl, ren_plain_eq hv rfl⟩
theorem ptrTo_some {i o : Nat} {v : Value} (he : ptrTo i o = some v) : v = .pointer (some ⟨i, o, none⟩) := by
  simp only [ptrTo, forceNat_eq, Option.some.injEq] at he; exact he.symm

theorem opFieldAddr_ok (hr : Rep P w0 ρ h w) (ht : TRel ρ n tm A.tmps) {o : Oper} {s : TypeId} {x : Operand} {f : Nat} (hop : o.op = .fieldAddr s x f) {v : Value} {h' : AHeap}
    (he : opFieldAddr s x f P o tm h = some (v, h')) : Yield P w0 ρ ((execOp A.eval o).run P w) v h' := by
  obtain ⟨p, h1, h2⟩ := with1_some he
  obtain ⟨h3, rfl⟩ := keepO_some h2
  unfold fieldAddrA at h3
  cases hp : fieldPlaceA P s f with
  | none => simp [hp] at h3
  | some off =>
    simp only [hp] at h3
    obtain ⟨i, a, rfl, h4⟩ := atAddr_some h3
    obtain rfl := ptrTo_some h4
    unfold fieldPlaceA at hp
    cases hk : tk P s <;> simp only [hk] at hp <;> first | (cases hp; done) | skip
    rename_i fs
    cases hf : nthL f fs.toList with
    | none => simp [hf] at hp
    | some fd =>
      simp only [hf] at hp
      cases hs : szOf P fd.type with
      | none => simp [hs] at hp
      | some sz =>
        cases hz : Nat.beq sz 0 with
        | true => simp [hs, hz] at hp
        | false =>
          simp only [hs, hz, cond_false, forceNat_eq, Option.some.injEq] at hp
          subst hp
          have hz' : sz ≠ 0 := fun e => by subst e; cases hz
          obtain ⟨_, b, k, g1, g2⟩ := ren_ptr (val_ren hr ht h1)
          have hfd : fs[f]? = some fd := by rw [← hf, nthL_eq]; simp
          refine Yield.keep hr (v' := .pointer (some ⟨b, a + fd.offset, none⟩)) ?_ (ren_ptr_mk g1)
          simp [execOp, hop, Instr.fieldAt, run_underlying' (tk_strct hk), hfd, g2, Instr.sureAddr, fieldPlace, run_sizeOf' hs, hz', Addr.add_none]
theorem sliceBase_some {β : Type} {v : Value} {k : Nat → Nat → Nat → Nat → Option β} {r : β} (he : sliceBase v k = some r) : ∃ i o l c, v = .slice (some ⟨i, o, none⟩) l c ∧ k i o l c = some r := by
  unfold sliceBase at he
  cases v <;> simp only at he <;> first | (cases he; done) | skip
  rename_i a l c
  cases a with
  | none => simp at he
  | some a =>
    obtain ⟨i, o, sp⟩ := a
    cases sp with
    | some s => simp at he
    | none => exact ⟨i, o, l, c, rfl, he⟩
theorem elemAddr_some {i len b o : Nat} {sz : Option Nat} {v : Value} (he : elemAddr i len b o sz = some v) : ∃ s, sz = some s ∧ i < len ∧ v = .pointer (some ⟨b, o + i * s, none⟩) := by
  unfold elemAddr at he
  cases sz with
  | none => simp at he
  | some s =>
    cases hb : Nat.blt i len with
    | false => simp [hb] at he
    | true => simp only [hb, cond_true] at he; exact ⟨s, rfl, Nat.le_of_ble_eq_true hb, ptrTo_some he⟩
theorem opIndexAddr_ok (hr : Rep P w0 ρ h w) (ht : TRel ρ n tm A.tmps) {o : Oper} {t : TypeId} {x ix : Operand} (hop : o.op = .indexAddr t x ix) {v : Value} {h' : AHeap}
    (he : opIndexAddr t x ix P o tm h = some (v, h')) : Yield P w0 ρ ((execOp A.eval o).run P w) v h' := by
  obtain ⟨p, h1, h2⟩ := with1_some he
  obtain ⟨iv, h3, h4⟩ := with1_some h2
  obtain ⟨h5, rfl⟩ := keepO_some h4
  unfold indexAddrA at h5
  cases hi : natOf iv with
  | none => simp [hi] at h5
  | some i =>
    simp only [hi] at h5
    obtain ⟨kd, rfl, hiv⟩ := natOf_ren hi (val_ren hr ht h3)
    have hpv := val_ren hr ht h1
    cases hk : tk P t <;> simp only [hk] at h5 <;> first | (cases h5; done) | skip
    case slc e =>
      obtain ⟨b, off, l, c, rfl, h6⟩ := sliceBase_some h5
      obtain ⟨s, hs, hlt, rfl⟩ := elemAddr_some h6
      obtain ⟨b', k, g1, g2⟩ := ren_slice hpv
      refine Yield.keep hr (v' := .pointer (some ⟨b', off + i * s, none⟩)) ?_ (ren_ptr_mk g1)
      have h0 : (0 : Int) ≤ i ∧ (i : Int) < l := by omega
      simp [execOp, hop, Instr.indexAt, hiv, asIntOf, run_underlying' (tk_slc hk), g2, run_sizeOf' hs, Addr.add_none, h0]
      intro hh
      omega
    case arr len e =>
      obtain ⟨b, off, rfl, h6⟩ := atAddr_some h5
      obtain ⟨s, hs, hlt, rfl⟩ := elemAddr_some h6
      obtain ⟨_, b', k, g1, g2⟩ := ren_ptr hpv
      refine Yield.keep hr (v' := .pointer (some ⟨b', off + i * s, none⟩)) ?_ (ren_ptr_mk g1)
      have h0 : (0 : Int) ≤ i ∧ (i : Int) < len := by omega
      simp [execOp, hop, Instr.indexAt, hiv, asIntOf, run_underlying' (tk_arr hk), g2, Instr.sureAddr, run_sizeOf' hs, Addr.add_none, h0]
      intro hh
      omega

/-! ### Parts of rows -/
theorem array_extract {c : List Value} {o s : Nat} : ((⟨c⟩ : Array Value).extract o (o + s)) = ⟨(c.drop o).take s⟩ := by
  apply Array.ext'
  simp [List.extract_eq_take_drop]
/-- a part of a value's cells -/
theorem partOf_ok {t : TypeId} {c c' : List Value} {o : Nat} {v : Value} (hc : renL ρ c = some c') (he : partOf (shapeOf P t) c o = some v) (w : World) :
    ∃ v', (part t ⟨c'⟩ o).run P w = .ok v' w ∧ ren ρ v = some v' := by
  cases hs : shapeOf P t with
  | bad => simp [hs, partOf] at he
  | one =>
    simp only [hs, partOf, nthL_eq] at he
    obtain ⟨v', hv', hrv⟩ := renL_get hc he
    refine ⟨v', ?_, hrv⟩
    have : (⟨c'⟩ : Array Value)[o]? = some v' := by simpa using hv'
    simp [part, shape_one hs w, this]
  | agg s =>
    simp only [hs, partOf, aggOf] at he
    cases hx : takeL s (dropL o c) with
    | none => simp [hx] at he
    | some x =>
      simp only [hx, Option.some.injEq] at he; subst he
      obtain ⟨h5, _⟩ := takeL_ren hc hx
      refine ⟨.agg ⟨(c'.drop o).take s⟩, ?_, ren_agg_mk h5⟩
      simp only [part, Sem.run_bind, (shape_agg hs w).1, (shape_agg hs w).2, Result.andThen_ok, if_true, Sem.run_pure, array_extract]
theorem opField_ok (hr : Rep P w0 ρ h w) (ht : TRel ρ n tm A.tmps) {o : Oper} {t : TypeId} {x : Operand} {f : Nat} (hop : o.op = .field t x f) {v : Value} {h' : AHeap}
    (he : opField t x f P o tm h = some (v, h')) : Yield P w0 ρ ((execOp A.eval o).run P w) v h' := by
  obtain ⟨p, h1, h2⟩ := with1_some he
  obtain ⟨h3, rfl⟩ := keepO_some h2
  unfold fieldA at h3
  cases p <;> simp only at h3 <;> first | (cases h3; done) | skip
  rename_i a
  obtain ⟨c⟩ := a
  simp only at h3
  cases hk : tk P t <;> simp only [hk] at h3 <;> first | (cases h3; done) | skip
  rename_i fs
  cases hf : nthL f fs.toList with
  | none => simp [hf] at h3
  | some fd =>
    simp only [hf] at h3
    obtain ⟨c', hc, g2⟩ := ren_agg (val_ren hr ht h1)
    obtain ⟨v', hv, hrv⟩ := partOf_ok hc h3 w
    have hfd : fs[f]? = some fd := by rw [← hf, nthL_eq]; simp
    refine Yield.keep hr ?_ hrv
    simp [execOp, hop, Instr.field, run_underlying' (tk_strct hk), hfd, g2, asAgg, hv]
theorem bytes_get (s : List UInt8) (i : Nat) : (⟨⟨s⟩⟩ : ByteArray)[i]? = s[i]? := by
  by_cases hi : i < s.length
  · have h1 : i < (⟨⟨s⟩⟩ : ByteArray).size := hi
    rw [getElem?_pos _ i h1, List.getElem?_eq_getElem hi]; rfl
  · have h1 : ¬ i < (⟨⟨s⟩⟩ : ByteArray).size := hi
    rw [getElem?_neg _ i h1, List.getElem?_eq_none (by omega)]
theorem opIndex_ok (hr : Rep P w0 ρ h w) (ht : TRel ρ n tm A.tmps) {o : Oper} {t : TypeId} {x ix : Operand} (hop : o.op = .index t x ix) {v : Value} {h' : AHeap}
    (he : opIndex t x ix P o tm h = some (v, h')) : Yield P w0 ρ ((execOp A.eval o).run P w) v h' := by
  obtain ⟨p, h1, h2⟩ := with1_some he
  obtain ⟨iv, h3, h4⟩ := with1_some h2
  obtain ⟨h5, rfl⟩ := keepO_some h4
  unfold indexA at h5
  cases hi : natOf iv with
  | none => simp [hi] at h5
  | some i =>
    simp only [hi] at h5
    obtain ⟨kd, rfl, hiv⟩ := natOf_ren hi (val_ren hr ht h3)
    have hpv := val_ren hr ht h1
    cases p <;> simp only at h5 <;> first | (cases h5; done) | skip
    case string s =>
      obtain ⟨⟨s⟩⟩ := s
      simp only at h5
      cases hk : tk P t <;> simp only [hk] at h5 <;> first | (cases h5; done) | skip
      rw [nthL_eq] at h5
      cases hb : s[i]? with
      | none => simp [hb] at h5
      | some b =>
        simp only [hb, forceNat_eq, Option.some.injEq] at h5
        subst h5
        have hx := ren_plain_eq hpv rfl
        refine Yield.keep hr (v' := .int .u8 b.toNat) ?_ (by simp [ren])
        simp [execOp, hop, Instr.index, hiv, asIntOf, hx, run_underlying' (tk_str hk), bytes_get, hb]
    case agg a =>
      obtain ⟨c⟩ := a
      simp only at h5
      cases hk : tk P t <;> simp only [hk] at h5 <;> first | (cases h5; done) | skip
      rename_i len e
      cases hs : szOf P e with
      | none => simp [hs] at h5
      | some s =>
        cases hb : Nat.blt i len with
        | false => simp [hs, hb] at h5
        | true =>
          simp only [hs, hb, cond_true] at h5
          obtain ⟨c', hc, g2⟩ := ren_agg hpv
          obtain ⟨v', hv, hrv⟩ := partOf_ok hc h5 w
          have hlt : i < len := Nat.le_of_ble_eq_true hb
          have h0 : (0 : Int) ≤ i ∧ (i : Int) < len := by omega
          refine Yield.keep hr ?_ hrv
          simp [execOp, hop, Instr.index, hiv, asIntOf, g2, run_underlying' (tk_arr hk), run_sizeOf' hs, h0, hv]
          intro hh
          omega
theorem opExtract_ok (hr : Rep P w0 ρ h w) (ht : TRel ρ n tm A.tmps) {o : Oper} {x : Operand} {i : Nat} (hop : o.op = .extract x i) {v : Value} {h' : AHeap}
    (he : opExtract x i P o tm h = some (v, h')) : Yield P w0 ρ ((execOp A.eval o).run P w) v h' := by
  obtain ⟨p, h1, h2⟩ := with1_some he
  cases p <;> simp only at h2 <;> first | (cases h2; done) | skip
  rename_i a
  obtain ⟨c⟩ := a
  obtain ⟨h3, rfl⟩ := keepO_some h2
  rw [nthL_eq] at h3
  obtain ⟨c', hc, g2⟩ := ren_tuple (val_ren hr ht h1)
  obtain ⟨v', hv', hrv⟩ := renL_get hc h3
  refine Yield.keep hr ?_ hrv
  have : (⟨c'⟩ : Array Value)[i]? = some v' := by simpa using hv'
  simp [execOp, hop, Instr.extract, g2, this]

/-! ### Interfaces, functions, maps made -/
theorem opMakeIface_ok (hr : Rep P w0 ρ h w) (ht : TRel ρ n tm A.tmps) {o : Oper} {t : TypeId} {x : Operand} (hop : o.op = .makeInterface t x) {v : Value} {h' : AHeap}
    (he : opMakeIface t x P o tm h = some (v, h')) : Yield P w0 ρ ((execOp A.eval o).run P w) v h' := by
  obtain ⟨p, h1, h2⟩ := with1_some he
  have hb : tk P t ≠ .bad := fun e => by simp [e] at h2
  obtain ⟨d, hd, hk⟩ := tk_some hb
  rw [hk] at h2
  have hni : ∀ ms, d ≠ .interface ms := fun ms e => by subst e; simp [tkOf] at h2
  have h3 : v = .iface t p ∧ h' = h := by
    cases d <;> simp only [tkOf] at h2 <;> first | (exact absurd rfl (hni _)) | skip
    all_goals simp only [Option.some.injEq, Prod.mk.injEq] at h2; exact ⟨h2.1.symm, h2.2.symm⟩
  obtain ⟨rfl, rfl⟩ := h3
  refine Yield.keep hr ?_ (ren_iface_mk (val_ren hr ht h1))
  simp only [execOp, hop, Instr.makeInterface, Sem.run_bind, run_underlying' hd, Result.andThen_ok]
  cases d <;> first | rfl | (exact absurd rfl (hni _))
theorem opMakeFunc_ok (hr : Rep P w0 ρ h w) (ht : TRel ρ n tm A.tmps) {o : Oper} {fn : Fn} {a b : Array Operand} (hop : o.op = .makeFunc fn a b) {v : Value} {h' : AHeap}
    (he : opMakeFunc fn a b P o tm h = some (v, h')) : Yield P w0 ρ ((execOp A.eval o).run P w) v h' := by
  unfold opMakeFunc at he
  cases hy : isYield fn with
  | true => simp [hy] at he
  | false =>
    simp only [hy, cond_false] at he
    cases e1 : vals? P tm a.toList with
    | none => simp [e1] at he
    | some vs =>
      cases e2 : vals? P tm b.toList with
      | none => simp [e1, e2] at he
      | some us =>
        simp only [e1, e2, Option.some.injEq, Prod.mk.injEq] at he
        obtain ⟨rfl, rfl⟩ := he
        have hf : renFn ρ fn = some fn := by cases fn <;> simp_all [renFn, isYield]
        refine Yield.keep hr ?_ (ren_func_mk hf (vals_ren hr ht e1) (vals_ren hr ht e2))
        have ha : a.map A.eval = ⟨a.toList.map A.eval⟩ := by apply Array.ext'; simp
        have hb : b.map A.eval = ⟨b.toList.map A.eval⟩ := by apply Array.ext'; simp
        simp only [execOp, hop, Instr.makeFunc, ha, hb]
        simp
theorem opMakeMap_ok (hr : Rep P w0 ρ h w) (ht : TRel ρ n tm A.tmps) {o : Oper} {t : TypeId} {r : Option Operand} (hop : o.op = .makeMap t r) {v : Value} {h' : AHeap}
    (he : opMakeMap t r P o tm h = some (v, h')) : Yield P w0 ρ ((execOp A.eval o).run P w) v h' := by
  unfold opMakeMap at he
  cases hk : tk P t <;> simp only [hk] at he <;> first | (cases he; done) | skip
  rename_i kt et
  cases hh : hintOk P tm r with
  | false => simp [hh] at he
  | true =>
    simp only [hh, cond_true, AHeap.newK_eq, Option.some.injEq, Prod.mk.injEq] at he
    obtain ⟨rfl, rfl⟩ := he
    refine ⟨ρ.upd h.next (w.heap.size, 0), .map (some w.heap.size), w.alloc (.map #[] 0), _, hr.upd_le _, ?_, .inl rfl, ren_map_mk (Ren.upd_same _ _ _), ?_⟩
    · cases r with
      | none => simp [execOp, hop, Instr.makeMap]
      | some x =>
        unfold hintOk at hh
        cases e1 : val? P x tm with
        | none => simp [e1] at hh
        | some u =>
          cases u <;> simp [e1] at hh
          have hx := ren_plain_eq (val_ren hr ht e1) rfl
          simp [execOp, hop, Instr.makeMap, hx, asInt, asIntOf, run_underlying' (tk_map hk)]
    · exact hr.new (k := 0) (O := .map #[] 0) ⟨rfl, trivial⟩
theorem opNilCheck_ok (hr : Rep P w0 ρ h w) (ht : TRel ρ n tm A.tmps) {o : Oper} {x : Operand} (hop : o.op = .nilCheck x) {v : Value} {h' : AHeap}
    (he : opNilCheck x P o tm h = some (v, h')) : Yield P w0 ρ ((execOp A.eval o).run P w) v h' := by
  obtain ⟨p, h1, h2⟩ := with1_some he
  have hpv := val_ren hr ht h1
  cases p <;> simp only at h2 <;> first | (cases h2; done) | skip
  case pointer a =>
    cases a with
    | none => simp at h2
    | some a =>
      simp only [Option.some.injEq, Prod.mk.injEq] at h2
      obtain ⟨rfl, rfl⟩ := h2
      refine Yield.keep hr ?_ hpv
      obtain ⟨i, off, sp⟩ := a
      obtain ⟨_, b, k, _, g2⟩ := ren_ptr hpv
      simp [execOp, hop, g2]
  case iface t u =>
    simp only [Option.some.injEq, Prod.mk.injEq] at h2
    obtain ⟨rfl, rfl⟩ := h2
    refine Yield.keep hr ?_ hpv
    obtain ⟨u', _, g2⟩ := ren_iface hpv
    simp [execOp, hop, g2]
  case func fn a b =>
    obtain ⟨fn', la, lb, g1, g2, g3, g4⟩ := ren_func hpv
    cases fn <;> simp only at h2 <;> first | (cases h2; done) | skip
    case func f =>
      simp only [Option.some.injEq, Prod.mk.injEq] at h2
      obtain ⟨rfl, rfl⟩ := h2
      refine Yield.keep hr ?_ hpv
      simp only [renFn, Option.some.injEq] at g1
      subst g1
      simp [execOp, hop, g4]
    case yield l =>
      simp only [Option.some.injEq, Prod.mk.injEq] at h2
      obtain ⟨rfl, rfl⟩ := h2
      refine Yield.keep hr ?_ hpv
      simp only [renFn] at g1
      cases hl : ρ l with
      | none => simp [hl] at g1
      | some bk =>
        simp only [hl, Option.some.injEq] at g1
        subst g1
        simp [execOp, hop, g4]
end
end Go.Ev
