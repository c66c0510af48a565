/-
  The evaluator's operations are the model's: conversions, maps, type assertions, len, cap; no condition.
-/
import Derived.Test.YtahbpehdjbmndaaGreatDoorEvOpsE
import Derived.Laws.BytesString
namespace Go.Ev
open Go.RowKit

section
variable {P : Program} {w0 w : World} {ρ : Ren} {h : AHeap} {n : Nat} {tm : T Value} {A : Act}

theorem isByte_some {e : TypeId} (hb : isByte P e = true) : P.underlying e = some (.int .u8) ∧ szOf P e = some 1 := by
  unfold isByte at hb
  cases hk : tk P e <;> simp only [hk] at hb <;> first | (cases hb; done) | skip
  rename_i k
  cases k <;> simp only at hb <;> first | (cases hb; done) | skip
  cases hs : szOf P e with
  | none => simp [hs] at hb
  | some s => simp only [hs] at hb; rw [Nat.eq_of_beq_eq_true hb]; exact ⟨tk_int hk, rfl⟩

/-! ### Strings to bytes -/
theorem bytesV_eq : ∀ l : List UInt8, bytesV l = l.map byteV
  | [] => rfl
  | b :: l => by simp only [bytesV, forceNat_eq, bytesV_eq l, List.map_cons, byteV]
theorem plainL_bytes : ∀ l : List UInt8, plainL (l.map byteV) = true
  | [] => rfl
  | b :: l => by simp [plainL, byteV, plain, plainL_bytes l]
theorem freeze_end {b : Nat} {C : Array Value} {e : TypeId} {fz : Nat × Nat} (hb : w.heap[b]? = some (.cells C e fz)) (hu : unfrozen fz C.size) :
    ∃ fz', (markStringish ⟨b, 0, none⟩).run P w = .ok () (setAt w b (.cells C e fz')) ∧ unfrozen fz' C.size ∧ ∀ o, (markStringish ⟨b, o, none⟩).run P w = .ok () (setAt w b (.cells C e fz')) := by
  obtain ⟨lo, hi⟩ := fz
  have hsh : w.shape? b = some (e, C.size) := by simp [World.shape?, hb]
  refine ⟨if lo == hi then (C.size, C.size + 1) else (min lo C.size, max hi (C.size + 1)), ?_, ?_, ?_⟩
  rotate_left
  · unfold unfrozen at hu ⊢
    split
    · right; simp
    · rename_i hne
      rcases hu with hu | hu
      · simp at hu hne; exact absurd hu hne
      · right; simp at hu ⊢; omega
  · intro o
    have : (w.freeze { block := b, off := C.size } 1) = setAt w b (.cells C e (if lo == hi then (C.size, C.size + 1) else (min lo C.size, max hi (C.size + 1)))) := by
      simp only [World.freeze, setAt]
      rw [if_neg (by omega)]
      congr 1
      apply Array.ext_getElem?
      intro j
      have hlt : b < w.heap.size := (Array.getElem?_eq_some_iff.1 hb).1
      by_cases e : j = b
      · subst e
        rw [Array.getElem?_modify, if_pos rfl, hb]
        simp [hlt]
      · rw [Array.getElem?_modify, if_neg (by omega), Array.getElem?_setIfInBounds_ne (by omega)]
    simp only [markStringish, Sem.run_bind, run_shape, hsh, Result.andThen_ok, run_freeze, this]
  · have : (w.freeze { block := b, off := C.size } 1) = setAt w b (.cells C e (if lo == hi then (C.size, C.size + 1) else (min lo C.size, max hi (C.size + 1)))) := by
      simp only [World.freeze, setAt]
      rw [if_neg (by omega)]
      congr 1
      apply Array.ext_getElem?
      intro j
      have hlt : b < w.heap.size := (Array.getElem?_eq_some_iff.1 hb).1
      by_cases e : j = b
      · subst e
        rw [Array.getElem?_modify, if_pos rfl, hb]
        simp [hlt]
      · rw [Array.getElem?_modify, if_neg (by omega), Array.getElem?_setIfInBounds_ne (by omega)]
    simp only [markStringish, Sem.run_bind, run_shape, hsh, Result.andThen_ok, run_freeze, this]
theorem toBytes_ok (hr : Rep P w0 ρ h w) {e : TypeId} {s : List UInt8} (hb : isByte P e = true) {v : Value} {h' : AHeap} (he : toBytes h e s = some (v, h')) :
    ∃ σ v' w', ρ.le σ ∧ (Conv.stringToBytes e ⟨⟨s⟩⟩).run P w = .ok v' w' ∧ ren σ v = some v' ∧ Rep P w0 σ h' w' := by
  simp only [toBytes, forceList_eq, AHeap.newK_eq, forceNat_eq, Option.some.injEq, Prod.mk.injEq] at he
  obtain ⟨rfl, rfl⟩ := he
  obtain ⟨_, hsz⟩ := isByte_some hb
  have hc : ∃ r, (choose (.appendCap s.length 0 e)).run P w = .ok (s.length + r) w.drew := by
    refine ⟨w.tape w.drawn (.appendCap s.length 0 e) % (2 ^ 63 - s.length), ?_⟩
    simp [run_choose, Question.forced, Question.cut]
  obtain ⟨r, hc⟩ := hc
  let C : Array Value := ⟨s.map byteV ++ List.replicate r (.int .u8 0)⟩
  have hC : ((⟨⟨s⟩⟩ : ByteArray).data.map (fun b => Value.int .u8 b.toNat) ++ Array.replicate (s.length + r - s.length) (Value.int .u8 0)) = C := by
    apply Array.ext'
    simp [C, byteV]
  have hb1 : (w.drew.alloc (.cells C e (0, 0))).heap[w.drew.heap.size]? = some (.cells C e (0, 0)) := by
    show (w.drew.heap.push _)[w.drew.heap.size]? = _
    rw [Array.getElem?_push, if_pos rfl]
  obtain ⟨fz', hm, hu, _⟩ := freeze_end (P := P) hb1 (.inl rfl)
  refine ⟨ρ.upd h.next (w.heap.size, r), .slice (some ⟨w.heap.size, 0, none⟩) s.length (s.length + r), setAt (w.drew.alloc (.cells C e (0, 0))) w.drew.heap.size (.cells C e fz'), hr.upd_le _, ?_, ren_slice_mk (Ren.upd_same _ _ _), ?_⟩
  · have hsz' : (⟨⟨s⟩⟩ : ByteArray).size = s.length := rfl
    have hrow : ∀ X, (newRow e X).run P w.drew = .ok ⟨w.drew.heap.size, 0, none⟩ (w.drew.alloc (.cells X e (0, 0))) := fun X => run_newRow e X w.drew
    simp only [Conv.stringToBytes, Sem.run_bind, hsz', hc, Result.andThen_ok, hC, hrow, hm, Sem.run_pure]
    rfl
  · have hr' := hr.drew
    refine hr'.add (b := w.drew.heap.size) (k := r) (O := .cells C e fz') (below_setAt (hr'.below.alloc hr'.below.size _) hr'.below.size) ?_ (setAt_heap_same hb1) ?_ hr'.below.size ?_
    · intro b' hne hlt
      rw [setAt_heap_other hne]; exact Below.heap_alloc _ _ _ hlt
    · intro i p k' hg hl hi
      obtain ⟨b, k1, O1, f1, _, f3, _⟩ := hr'.obj i p hg hl
      rw [hi] at f1; cases f1
      have := (Array.getElem?_eq_some_iff.1 f3).1
      omega
    · refine ⟨rfl, (fun hx => by cases hx), fun _ => hu, s.map byteV, List.replicate r (.int .u8 0), ?_, rfl, fun _ => ⟨1, hsz, by simp⟩, fun h0 => by subst h0; rfl, ?_⟩
      · rw [bytesV_eq]; exact renL_plain ρ _ (plainL_bytes s)
      · intro v hv; rw [List.eq_of_mem_replicate hv]; rfl

/-! ### Bytes to a string -/
theorem bytesL_some : ∀ {l : List Value} {bs : List UInt8}, bytesL l = some bs → ∃ ns : List Int, l = ns.map (Value.int .u8) ∧ bs = ns.map fun n => UInt8.ofNat n.toNat
  | [], bs, hb => by
    have hb' : some ([] : List UInt8) = some bs := hb
    cases hb'; exact ⟨[], rfl, rfl⟩
  | v :: l, bs, hb => by
    simp only [bytesL] at hb
    cases e1 : byteOf v with
    | none => simp [e1] at hb
    | some b =>
      cases e2 : bytesL l with
      | none => simp [e1, e2] at hb
      | some cs =>
        simp only [e1, e2, Option.some.injEq] at hb
        subst hb
        obtain ⟨ns, rfl, rfl⟩ := bytesL_some e2
        unfold byteOf at e1
        cases v <;> first | (cases e1; done) | skip
        rename_i k z
        cases k <;> first | (cases e1; done) | skip
        cases z with
        | negSucc m => cases e1
        | ofNat m =>
          have e3 : some (UInt8.ofNat m) = some b := e1
          cases e3
          exact ⟨(m : Int) :: ns, rfl, rfl⟩
theorem foldl_push : ∀ (ns : List Int) (s : ByteArray), (ns.foldl (fun r n => r.push (UInt8.ofNat n.toNat)) s) = ⟨⟨s.data.toList ++ ns.map fun n => UInt8.ofNat n.toNat⟩⟩
  | [], s => by apply ByteArray.ext; apply Array.ext'; simp
  | n :: ns, s => by
    rw [List.foldl_cons, foldl_push ns]
    apply ByteArray.ext; apply Array.ext'
    simp [ByteArray.push]
theorem toStr_ok (hr : Rep P w0 ρ h w) {x x' v : Value} (hx : ren ρ x = some x') (he : toStr h x = some v) : ∃ v', (Conv.bytesToString x').run P w = .ok v' w ∧ ren ρ v = some v' := by
  unfold toStr at he
  cases x <;> simp only at he <;> first | (cases he; done) | skip
  rename_i a m c
  cases a with
  | none =>
    simp only [Option.some.injEq] at he
    subst he
    have := ren_plain_eq hx rfl
    subst this
    exact ⟨.string ⟨⟨[]⟩⟩, by simp [Conv.bytesToString]; rfl, by simp [ren]⟩
  | some ad =>
    obtain ⟨i, o, sp⟩ := ad
    cases m with
    | zero =>
      simp only [Option.some.injEq] at he
      subst he
      obtain ⟨a', c', rfl⟩ := ren_slice_any hx
      refine ⟨_, run_bytesToString (P := P) w a' 0 c' [] rfl, ?_⟩
      rw [foldl_push]
      simp only [ren]
      rfl
    | succ m =>
    obtain rfl : sp = none := by cases sp with | none => rfl | some _ => simp at he
    obtain ⟨b, k, g1, rfl⟩ := ren_slice hx
    simp only at he
    cases ht : rowCut h i o (m + 1) with
    | none => simp [ht] at he
    | some l =>
        simp only [ht] at he
        cases hb : bytesL l with
        | none => simp [hb] at he
        | some bs =>
          simp only [hb, Option.some.injEq] at he
          subst he
          obtain ⟨b', k', C, e, fz, l', h1, h2, h5, h4, h6⟩ := hr.cut ht
          rw [g1] at h1; cases h1
          obtain ⟨ns, rfl, rfl⟩ := bytesL_some hb
          have hpl : plainL (ns.map (Value.int .u8)) = true := by
            clear hb ht h5
            induction ns with
            | nil => rfl
            | cons n ns ih => simp [plainL, plain, ih]
          have h7 := renL_plain_eq h5 hpl
          have hd : (C.toList.drop o).take (m + 1) = ns.map (Value.int .u8) := by rw [h4, h7]
          have hload := run_loadCells_heap (P := P) h2 o (m + 1) (by omega)
          rw [hd] at hload
          have := run_bytesToString (P := P) w ⟨b, o, none⟩ (m + 1) (c + k) ns hload
          refine ⟨_, this, ?_⟩
          rw [foldl_push]
          simp only [ren]
          rfl
theorem sameSlice_ok (hr : Rep P w0 ρ h w) {x x' v : Value} (hx : ren ρ x = some x') (he : sameSlice h x = some v) :
    ∃ a l c w', x' = .slice (some a) l c ∧ v = x ∧ (markStringish a).run P w = .ok () w' ∧ Rep P w0 ρ h w' := by
  unfold sameSlice at he
  obtain ⟨i, o, l, c, rfl, h1⟩ := sliceBase_some he
  obtain ⟨b, k, g1, rfl⟩ := ren_slice hx
  cases hg : h.get i with
  | none => simp [hg] at h1
  | some ob =>
    cases ob <;> simp only [hg] at h1 <;> first | (cases h1; done) | skip
    rename_i cs e rw ex
    cases rw with
    | false => simp at h1
    | true =>
      simp only [cond_true, Option.some.injEq] at h1
      subst h1
      obtain ⟨b', k', O, f1, f2, f3, f4⟩ := hr.obj i _ hg rfl
      rw [g1] at f1; cases f1
      cases O <;> simp only [ORel] at f4
      rename_i C e' fz
      obtain ⟨rfl, q2, q3, c', junk, q4⟩ := f4
      obtain ⟨fz', m1, m2, m3⟩ := freeze_end (P := P) f3 (q3 trivial)
      refine ⟨⟨b, o, none⟩, l, c + k, _, rfl, rfl, m3 o, ?_⟩
      have := hr.setAt (o' := .cells cs e' true ex) (O' := .cells C e' fz') hg rfl rfl g1 ⟨rfl, q2, fun _ => m2, c', junk, q4⟩
      have hput : ∀ j, (h.put i (.cells cs e' true ex)).get j = h.get j := by
        intro j; rw [AHeap.get_put]; split
        · rename_i e; rw [e, hg]
        · rfl
      exact ⟨this.below, fun j p hj => this.obj j p (by rw [hput]; exact hj), fun j j' p p' bb k1 k2 hj hj' => this.inj j j' p p' bb k1 k2 (by rw [hput]; exact hj) (by rw [hput]; exact hj'),
        fun j hj => hr.fresh j hj, this.glob⟩
theorem opConvert_ok (hr : Rep P w0 ρ h w) (ht : TRel ρ n tm A.tmps) {o : Oper} {s d : TypeId} {x : Operand} (hop : o.op = .convert s d x) {v : Value} {h' : AHeap}
    (he : opConvert s d x P o tm h = some (v, h')) : Yield P w0 ρ ((execOp A.eval o).run P w) v h' := by
  obtain ⟨a, h1, h2⟩ := with1_some he
  have hav := val_ren hr ht h1
  have hgen : ∀ {v h'}, gen P o tm h = some (v, h') → Yield P w0 ρ ((execOp A.eval o).run P w) v h' := fun hg => (gen_ok hr ht hg).1
  unfold convTo at h2
  cases a <;> simp only at h2 <;> first | (exact hgen h2) | skip
  case int k z =>
    cases hd : tk P d <;> simp only [hd] at h2 <;> first | (exact hgen h2) | skip
    cases hs : tk P s <;> simp only [hs] at h2 <;> first | (exact hgen h2) | skip
    obtain ⟨h3, rfl⟩ := keepO_some h2
    have hx := ren_plain_eq hav rfl
    rw [wrapK_some h3]
    rename_i kd _
    refine Yield.keep hr (v' := .int kd (kd.wrap z)) ?_ (by simp [ren])
    simp [execOp, hop, convert, run_underlying' (tk_int hs), run_underlying' (tk_int hd), hx, Conv.intToInt]
  case string b =>
    obtain ⟨⟨b⟩⟩ := b
    simp only at h2
    cases hd : tk P d <;> simp only [hd] at h2 <;> first | (exact hgen h2) | skip
    rename_i e
    cases hb : isByte P e with
    | false => simp [hb] at h2
    | true =>
      simp only [hb, cond_true] at h2
      cases hs : tk P s <;> simp only [hs] at h2 <;> first | (cases h2; done) | skip
      have hx := ren_plain_eq hav rfl
      obtain ⟨hu, _⟩ := isByte_some hb
      obtain ⟨σ, v', w', q1, q2, q3, q4⟩ := toBytes_ok hr hb h2
      refine ⟨σ, v', w', _, q1, ?_, .inl rfl, q3, q4⟩
      simp [execOp, hop, convert, run_underlying' (tk_str hs), run_underlying' (tk_slc hd), run_underlying' hu, hx, q2]
  case slice a l c =>
    cases hs : tk P s <;> simp only [hs] at h2 <;> first | (cases h2; done) | skip
    rename_i e
    cases hd : tk P d <;> simp only [hd] at h2 <;> first | (cases h2; done) | skip
    case str =>
      cases hb : isByte P e with
      | false => simp [hb] at h2
      | true =>
        simp only [hb, cond_true] at h2
        obtain ⟨h3, rfl⟩ := keepO_some h2
        obtain ⟨hu, _⟩ := isByte_some hb
        obtain ⟨v', q1, q2⟩ := toStr_ok hr hav h3
        refine Yield.keep hr ?_ q2
        have hsl : ∃ a' l' c', A.eval x = .slice a' l' c' := by
          cases a with
          | none => exact ⟨_, _, _, ren_plain_eq hav rfl⟩
          | some ad => obtain ⟨_, _, hx⟩ := ren_slice_any hav; exact ⟨_, _, _, hx⟩
        obtain ⟨a', l', c', hx⟩ := hsl
        rw [hx] at q1
        simp [execOp, hop, convert, run_underlying' (tk_slc hs), run_underlying' (tk_str hd), run_underlying' hu, hx, q1]
    case slc e' =>
      cases hb : (Nat.beq s d && isByte P e') with
      | false => simp [hb] at h2
      | true =>
        simp only [hb, cond_true] at h2
        simp only [Bool.and_eq_true] at hb
        obtain ⟨hb1, hb2⟩ := hb
        have := Nat.eq_of_beq_eq_true hb1
        subst this
        rw [hs] at hd; cases hd
        obtain ⟨h3, rfl⟩ := keepO_some h2
        obtain ⟨hu, _⟩ := isByte_some hb2
        obtain ⟨ad, l', c', w', hx, rfl, q1, q2⟩ := sameSlice_ok hr hav h3
        refine ⟨ρ, A.eval x, w', _, ρ.le_refl, ?_, .inl rfl, hav, q2⟩
        simp [execOp, hop, convert, run_underlying' (tk_slc hs), run_underlying' hu, hx, q1]
end
end Go.Ev
