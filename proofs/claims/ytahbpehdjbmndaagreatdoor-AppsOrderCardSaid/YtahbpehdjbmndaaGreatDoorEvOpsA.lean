/-
  The evaluator's operations are the model's: those that make, read and write memory; no condition.
-/
import Derived.Test.YtahbpehdjbmndaaGreatDoorEvHeap
namespace Go.Ev
open Go.RowKit

/-- What an operation of the model has come to stands for the evaluator's value and heap. -/
def Yield (P : Program) (w0 : World) (ρ : Ren) (r : Result Next) (v : Value) (h' : AHeap) : Prop :=
  ∃ σ v' w' x, ρ.le σ ∧ r = .ok x w' ∧ (x = .value v' ∨ (x = .skip ∧ v' = undef)) ∧ ren σ v = some v' ∧ Rep P w0 σ h' w'

theorem quick_run {α : Type} {P : Program} : ∀ (s : Sem α) (a : α), quick P s = some a → ∀ w, s.run P w = .ok a w := by
  intro s
  induction s with
  | pure b => intro a h w; simp [quick] at h; simp [Sem.run, h]
  | program k ih => intro a h w; simp only [Sem.run]; exact ih P a h w
  | mark m k ih => intro a h w; simp only [Sem.run]; exact ih a h w
  | _ => intro a h; simp [quick] at h

section
variable {P : Program} {w0 w : World} {ρ : Ren} {h : AHeap} {n : Nat} {tm : T Value} {A : Act}

theorem Yield.keep (hr : Rep P w0 ρ h w) {r : Result Next} {v v' : Value} (h1 : r = .ok (.value v') w) (h2 : ren ρ v = some v') : Yield P w0 ρ r v h :=
  ⟨ρ, v', w, _, ρ.le_refl, h1, .inl rfl, h2, hr⟩
theorem keepO_some {x : Option Value} {v : Value} {h' : AHeap} (he : keepO x h = some (v, h')) : x = some v ∧ h' = h := by
  cases x with
  | none => simp [keepO] at he
  | some u => simp only [keepO, Option.some.injEq, Prod.mk.injEq] at he; exact ⟨by rw [he.1], he.2.symm⟩
theorem with1_some {x : Operand} {k : Value → Out} {r : Value × AHeap} (he : with1 P x tm k = some r) : ∃ v, val? P x tm = some v ∧ k v = some r := by
  unfold with1 at he
  cases e : val? P x tm with
  | none => simp [e] at he
  | some v => simp only [e] at he; exact ⟨v, rfl, he⟩

theorem val_ren (hr : Rep P w0 ρ h w) (ht : TRel ρ n tm A.tmps) {x : Operand} {v : Value} (hv : val? P x tm = some v) : ren ρ v = some (A.eval x) := by
  cases x with
  | tmp t =>
    have h1 := ht.2 t
    have h2 : val? P (.tmp t) tm = some (getT tm t) := by
      show Option.rec (motive := fun _ => Option Value) (some undef) (fun v => some v) (tm.get t) = some (Option.rec (motive := fun _ => Value) undef (fun v => v) (tm.get t))
      cases tm.get t <;> rfl
    rw [h2] at hv; cases hv
    exact h1
  | const u =>
    have hv' : constV u tm = some v := hv
    unfold constV at hv'
    cases hp : plain u with
    | false => simp [hp] at hv'
    | true => simp only [hp, cond_true, Option.some.injEq] at hv'; subst hv'; exact ren_plain ρ _ hp
  | global g =>
    have hv' : globalV P g tm = some v := hv
    unfold globalV at hv'
    cases hp : Nat.blt g P.globals.size with
    | false => simp [hp] at hv'
    | true =>
      simp only [hp, cond_true, Option.some.injEq] at hv'; subst hv'
      exact ren_ptr_mk (hr.glob g (Nat.le_of_ble_eq_true hp))
  | func f =>
    have hv' : some (Value.func (.func f) #[] #[]) = some v := hv
    cases hv'
    simp [ren, renFn, renA, renL, Act.eval]
theorem vals_ren (hr : Rep P w0 ρ h w) (ht : TRel ρ n tm A.tmps) : ∀ {l : List Operand} {vs : List Value}, vals? P tm l = some vs → renL ρ vs = some (l.map A.eval)
  | [], vs, hv => by simp [vals?] at hv; subst hv; simp [renL]
  | x :: l, vs, hv => by
    simp only [vals?] at hv
    cases e1 : val? P x tm with
    | none => simp [e1] at hv
    | some v =>
      cases e2 : vals? P tm l with
      | none => simp [e1, e2] at hv
      | some us =>
        simp only [e1, e2, Option.some.injEq] at hv; subst hv
        exact renL_cons_mk (val_ren hr ht e1) (vals_ren hr ht e2)

/-! ### 'gen' -/
theorem slot_eval (hr : Rep P w0 ρ h w) (ht : TRel ρ n tm A.tmps) : ∀ {l : List Operand} {vs : List Value}, vals? P tm l = some vs → plainL vs = true → ∀ x ∈ l, slot P tm x = A.eval x
  | [], _, _, _ => by simp
  | x :: l, vs, hv, hp => by
    simp only [vals?] at hv
    cases e1 : val? P x tm with
    | none => simp [e1] at hv
    | some v =>
      cases e2 : vals? P tm l with
      | none => simp [e1, e2] at hv
      | some us =>
        simp only [e1, e2, Option.some.injEq] at hv; subst hv
        simp only [plainL, Bool.and_eq_true] at hp
        intro y hy
        rcases List.mem_cons.1 hy with rfl | hy
        · have := ren_plain_eq (val_ren hr ht e1) hp.1
          simp [slot, e1, this]
        · exact slot_eval hr ht e2 hp.2 y hy
theorem gen_ok (hr : Rep P w0 ρ h w) (ht : TRel ρ n tm A.tmps) {o : Oper} {v : Value} {h' : AHeap} (he : gen P o tm h = some (v, h')) :
    Yield P w0 ρ ((execOp A.eval o).run P w) v h' ∧ h' = h ∧ (execOp (slot P tm) o) = execOp A.eval o := by
  unfold gen at he
  cases e : vals? P tm o.op.operands.toList with
  | none => simp [e] at he
  | some vs =>
    simp only [e] at he
    cases hb : (plainL vs && !isSelect o.op) with
    | false => simp [hb] at he
    | true =>
      simp only [hb, cond_true] at he
      simp only [Bool.and_eq_true, Bool.not_eq_true'] at hb
      have hc : execOp (slot P tm) o = execOp A.eval o := execOp_congr o (fun cs b hs => by rw [hs] at hb; simp [isSelect] at hb) (fun x hx => slot_eval hr ht e hb.1 x (by simpa using hx))
      unfold nextOf at he
      cases hq : quick P (execOp (slot P tm) o) with
      | none => simp [hq] at he
      | some nx =>
        have hrun := quick_run _ _ hq w
        rw [hc] at hrun
        cases nx <;> simp only [hq] at he <;> first | (cases he; done) | skip
        case value u =>
          cases hp : plain u with
          | false => simp [hp] at he
          | true =>
            simp only [hp, cond_true, forceV_eq, Option.some.injEq, Prod.mk.injEq] at he
            obtain ⟨rfl, rfl⟩ := he
            exact ⟨Yield.keep hr hrun (ren_plain ρ _ hp), rfl, hc⟩
        case skip =>
          simp only [Option.some.injEq, Prod.mk.injEq] at he
          obtain ⟨rfl, rfl⟩ := he
          exact ⟨⟨ρ, undef, w, _, ρ.le_refl, hrun, .inr ⟨rfl, rfl⟩, ren_undef, hr⟩, rfl, hc⟩

/-! ### Moves -/
theorem opMove_ok (hr : Rep P w0 ρ h w) (ht : TRel ρ n tm A.tmps) {o : Oper} {x : Operand} (hop : o.op = .move x ∨ o.op = .assign x) {v : Value} {h' : AHeap} (he : opMove x P o tm h = some (v, h')) :
    Yield P w0 ρ ((execOp A.eval o).run P w) v h' := by
  obtain ⟨h1, rfl⟩ := keepO_some he
  refine Yield.keep hr ?_ (val_ren hr ht h1)
  rcases hop with hop | hop <;> simp [execOp, hop]
theorem opPick_ok (hr : Rep P w0 ρ h w) (ht : TRel ρ n tm A.tmps) {o : Oper} {c a b : Operand} (hop : o.op = .pick c a b) {v : Value} {h' : AHeap} (he : opPick c a b P o tm h = some (v, h')) :
    Yield P w0 ρ ((execOp A.eval o).run P w) v h' := by
  obtain ⟨u, h1, h2⟩ := with1_some he
  cases u <;> simp only at h2 <;> first | (cases h2; done) | skip
  rename_i t
  have hc := ren_plain_eq (val_ren hr ht h1) rfl
  cases t with
  | true =>
    obtain ⟨h3, rfl⟩ := keepO_some h2
    refine Yield.keep hr ?_ (val_ren hr ht h3)
    simp [execOp, hop, hc, asBool]
  | false =>
    obtain ⟨h3, rfl⟩ := keepO_some h2
    refine Yield.keep hr ?_ (val_ren hr ht h3)
    simp [execOp, hop, hc, asBool]

/-! ### New blocks -/
theorem zeroV_some {t : TypeId} {z : Value} (hz : zeroV P t = some z) (w : World) : (zeroValue t).run P w = .ok z w ∧ plain z = true := by
  unfold zeroV at hz
  cases hi : P.info? t with
  | none => simp [hi] at hz
  | some i =>
    cases hzz : i.zero with
    | none => simp [hi, hzz] at hz
    | some u =>
      cases hp : plain u with
      | false => simp [hi, hzz, hp] at hz
      | true =>
        simp only [hi, Option.bind_some, hzz, hp, cond_true, Option.some.injEq] at hz
        subst hz
        exact ⟨by simp [zeroValue, typeInfo, hi, hzz], hp⟩
theorem run_newRow (e : TypeId) (C : Array Value) (w : World) : (newRow e C).run P w = .ok ⟨w.heap.size, 0, none⟩ (w.alloc (.cells C e)) := by
  simp [newRow]
theorem ORel_new {c c' : List Value} (e : TypeId) (rw ex : Bool) (hc : renL ρ c = some c') : ORel P ρ 0 (.cells c e rw ex) (.cells ⟨c'⟩ e (0, 0)) :=
  ⟨rfl, fun _ => rfl, fun _ => .inl rfl, c', [], hc, by simp, fun h => absurd rfl h, fun _ => rfl, by simp⟩
/-- a block laid for a row of known cells -/
theorem Yield.newRow (hr : Rep P w0 ρ h w) {c : List Value} {C : Array Value} {e : TypeId} {rw ex : Bool} (hc : renL ρ c = some C.toList) {r : Result Next} {v v' : Value}
    (h1 : r = .ok (.value v') (w.alloc (.cells C e))) (h2 : ∀ σ, σ h.next = some (w.heap.size, 0) → ren σ v = some v') : Yield P w0 ρ r v (h.push (.cells c e rw ex)) := by
  refine ⟨ρ.upd h.next (w.heap.size, 0), v', _, _, hr.upd_le _, h1, .inl rfl, h2 _ (Ren.upd_same _ _ _), ?_⟩
  exact hr.new (k := 0) (ORel_new e rw ex hc)

theorem opAlloc_ok (hr : Rep P w0 ρ h w) {o : Oper} {e : TypeId} (hop : o.op = .alloc e) {v : Value} {h' : AHeap} (he : opAlloc e P o tm h = some (v, h')) :
    Yield P w0 ρ ((execOp A.eval o).run P w) v h' := by
  unfold opAlloc at he
  cases hz : zeroV P e with
  | none => simp [hz] at he
  | some z =>
    simp only [hz, AHeap.newK_eq, Option.some.injEq, Prod.mk.injEq] at he
    obtain ⟨rfl, rfl⟩ := he
    obtain ⟨h1, h2⟩ := zeroV_some hz w
    refine Yield.newRow hr (cellsL_ren (ren_plain ρ z h2)) (v' := .pointer (some ⟨w.heap.size, 0, none⟩)) ?_ (fun σ hs => ren_ptr_mk hs)
    simp [execOp, hop, Instr.alloc, h1, newVar, run_newRow]
theorem opBox_ok (hr : Rep P w0 ρ h w) (ht : TRel ρ n tm A.tmps) {o : Oper} {e : TypeId} {x : Operand} (hop : o.op = .box e x) {v : Value} {h' : AHeap} (he : opBox e x P o tm h = some (v, h')) :
    Yield P w0 ρ ((execOp A.eval o).run P w) v h' := by
  obtain ⟨u, h1, h2⟩ := with1_some he
  simp only [AHeap.newK_eq, Option.some.injEq, Prod.mk.injEq] at h2
  obtain ⟨rfl, rfl⟩ := h2
  refine Yield.newRow hr (cellsL_ren (val_ren hr ht h1)) (v' := .pointer (some ⟨w.heap.size, 0, none⟩)) ?_ (fun σ hs => ren_ptr_mk hs)
  simp [execOp, hop, Instr.box, newVar, run_newRow]

/-! ### Loads, stores -/
theorem atAddr_some {β : Type} {v : Value} {k : Nat → Nat → Option β} {r : β} (he : atAddr v k = some r) : ∃ i o, v = .pointer (some ⟨i, o, none⟩) ∧ k i o = some r := by
  unfold atAddr at he
  cases v <;> simp only at he <;> first | (cases he; done) | skip
  rename_i a
  cases a with
  | none => simp at he
  | some a =>
    obtain ⟨i, o, sp⟩ := a
    cases sp with
    | some s => simp at he
    | none => exact ⟨i, o, rfl, he⟩
theorem opLoad_ok (hr : Rep P w0 ρ h w) (ht : TRel ρ n tm A.tmps) {o : Oper} {t : TypeId} {x : Operand} (hop : o.op = .load t x) {v : Value} {h' : AHeap} (he : opLoad t x P o tm h = some (v, h')) :
    Yield P w0 ρ ((execOp A.eval o).run P w) v h' := by
  obtain ⟨p, h1, h2⟩ := with1_some he
  obtain ⟨h3, rfl⟩ := keepO_some h2
  obtain ⟨i, off, rfl, h4⟩ := atAddr_some h3
  obtain ⟨b, v', h5, h6, h7⟩ := partOf_load hr h4 (val_ren hr ht h1)
  refine Yield.keep hr ?_ h7
  simp [execOp, hop, Instr.loadAt, h5, Instr.sureAddr, h6]
theorem oneCells_iff : ∀ {l : List Value}, oneCells l = true ↔ ∀ v ∈ l, oneCell v = true
  | [] => by simp [oneCells]
  | v :: l => by simp [oneCells, oneCells_iff (l := l)]
theorem oneCells_ren {l l' : List Value} (hl : renL ρ l = some l') (ho : oneCells l = true) : ∀ v ∈ l', v.oneCell' = true := by
  induction l generalizing l' with
  | nil => rw [renL_nil hl]; simp
  | cons v l ih =>
    obtain ⟨v', m, rfl, hv, hm⟩ := renL_cons hl
    simp only [oneCells, Bool.and_eq_true] at ho
    intro u hu
    rcases List.mem_cons.1 hu with rfl | hu
    · exact oneCell_ren hv ho.1
    · exact ih hm ho.2 u hu
/-- cells written -/
theorem writeRow_ok (hr : Rep P w0 ρ h w) {i o : Nat} {vs vs' : List Value} (hvs : renL ρ vs = some vs') {h' : AHeap} (he : writeRow h i o vs = some h') :
    ∃ b k w', ρ i = some (b, k) ∧ (storeCells ⟨b, o, none⟩ vs').run P w = .ok () w' ∧ Rep P w0 ρ h' w' := by
  unfold writeRow at he
  cases hg : h.get i with
  | none => simp [hg] at he
  | some ob =>
    cases ob <;> simp only [hg] at he <;> first | (cases he; done) | skip
    rename_i c e rw ex
    cases hb : (rw && oneCells vs) with
    | false => simp [hb] at he
    | true =>
      simp only [hb, cond_true] at he
      simp only [Bool.and_eq_true] at hb
      obtain ⟨rfl, hone⟩ := hb
      cases hs : setCells o c vs with
      | none => simp [hs] at he
      | some c1 =>
        simp only [hs, AHeap.setK_eq, Option.some.injEq] at he
        subst he
        obtain ⟨b, k, O, f1, f2, f3, f4⟩ := hr.obj i _ hg rfl
        cases O <;> simp only [ORel] at f4
        rename_i C e' fz
        obtain ⟨rfl, g2, g3, c', junk, g4, g5, g6, g7, g8⟩ := f4
        obtain ⟨s1, s2⟩ := setCells_some o c vs c1 hs
        have hl := renL_length g4
        have hl2 := renL_length hvs
        have hsz : C.size = c'.length + junk.length := by rw [← Array.length_toList, g5, List.length_append]
        have hov : over C.toList o vs' = over c' o vs' ++ junk := by
          rw [g5]; unfold over
          rw [List.take_append_of_le_length (by omega), List.drop_append_of_le_length (by omega)]; simp
        refine ⟨b, k, setAt w b (.cells ⟨over C.toList o vs'⟩ e' fz), f1, ?_, ?_⟩
        · have := run_storeCells (P := P) vs' o 0 C w f3 (by omega) (g3 trivial) (oneCells_ren hvs hone)
          simpa using this
        · refine hr.setAt hg rfl rfl f1 ?_
          refine ⟨rfl, g2, fun _ => ?_, over c' o vs', junk, ?_, hov, g6, g7, g8⟩
          · have hlen : (over C.toList o vs').length = C.size := by rw [over_length (by simp; omega)]; simp
            simpa [hlen] using g3 trivial
          · rw [s1]; exact over_ren g4 hvs o
theorem wroteO_some {x : Option AHeap} {v : Value} {h' : AHeap} (he : wroteO x = some (v, h')) : x = some h' ∧ v = undef := by
  cases x with
  | none => simp [wroteO] at he
  | some u => simp only [wroteO, Option.some.injEq, Prod.mk.injEq] at he; exact ⟨by rw [he.2], he.1.symm⟩
theorem opStore_ok (hr : Rep P w0 ρ h w) (ht : TRel ρ n tm A.tmps) {o : Oper} {t : TypeId} {a x : Operand} (hop : o.op = .store t a x) {v : Value} {h' : AHeap} (he : opStore t a x P o tm h = some (v, h')) :
    Yield P w0 ρ ((execOp A.eval o).run P w) v h' := by
  obtain ⟨p, h1, h2⟩ := with1_some he
  obtain ⟨u, h3, h4⟩ := with1_some h2
  obtain ⟨h5, rfl⟩ := wroteO_some h4
  unfold storeA at h5
  cases hs : szOf P t with
  | none => simp [hs] at h5
  | some s =>
    simp only [hs] at h5
    cases hl : lenB (cellsL u) s with
    | false => simp [hl] at h5
    | true =>
      simp only [hl, cond_true] at h5
      obtain ⟨i, off, rfl, h6⟩ := atAddr_some h5
      have hu := val_ren hr ht h3
      have hcu := cellsL_ren hu
      obtain ⟨b, k, w', f1, f2, f3⟩ := writeRow_ok hr hcu h6
      obtain ⟨_, b', k', g1, g2⟩ := ren_ptr (val_ren hr ht h1)
      rw [f1] at g1; cases g1
      have hsz : (A.eval x).cells.size = s := by rw [← (lenB_iff _ _).1 hl, ← renL_length hcu]; simp
      refine ⟨ρ, undef, w', .skip, ρ.le_refl, ?_, .inr ⟨rfl, rfl⟩, ren_undef, f3⟩
      simp [execOp, hop, Instr.storeAt, g2, Instr.sureAddr, storeVar, run_sizeOf' hs, hsz, f2]
end
end Go.Ev
