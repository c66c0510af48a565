/-
  The evaluator's heap stands for a world's: 'Rep'; reads, stores, new blocks; no condition.
-/
import Derived.Test.YtahbpehdjbmndaaGreatDoorEvMem
import Derived.Laws.Cells
namespace Go.Ev
open Go.RowKit

/-- A frame's temporaries. -/
def TRel (ρ : Ren) (n : Nat) (tm : T Value) (A : Array Value) : Prop := A.size = n ∧ ∀ t, ren ρ (getT tm t) = some (A.getD t undef)

def EntRel (ρ : Ren) (e e' : MapEntry) : Prop := ren ρ e.key = some e'.key ∧ ren ρ e.val = some e'.val ∧ e'.born = e.born
def EntsRel (ρ : Ren) : List MapEntry → List MapEntry → Prop
  | [], [] => True
  | e :: es, e' :: es' => EntRel ρ e e' ∧ EntsRel ρ es es'
  | _, _ => False

/-- One block; k: how many elements of room the evaluator does not see. -/
def ORel (P : Program) (ρ : Ren) (k : Nat) : AObj → Obj → Prop
  | .cells c e rw ex, .cells C e' fz => e' = e ∧ (ex = true → k = 0) ∧ (rw = true → fz.1 = fz.2 ∨ C.size ≤ fz.1) ∧
      ∃ c' junk, renL ρ c = some c' ∧ C.toList = c' ++ junk ∧ (k ≠ 0 → ∃ s, szOf P e = some s ∧ junk.length = k * s) ∧ (k = 0 → junk = []) ∧ (∀ v ∈ junk, v.oneCell' = true)
  | .view c _, .cells C _ _ => k = 0 ∧ c.length = C.size ∧ ∀ (j : Nat) v, c[j]? = some (some v) → ∃ v', C[j]? = some v' ∧ ren ρ v = some v'
  | .map es clock, .map ES clock' => clock' = clock ∧ EntsRel ρ es ES.toList
  | .loop st pe n tm ps a b d, .loop r => r.state = st ∧ r.pending = pe ∧ TRel ρ n tm r.tmps ∧ r.params = ps ∧ r.assign = a ∧ r.body = b ∧ ∃ kd, ρ d = some (r.defers, kd)
  | .deferred shut, .deferred calls => calls = if shut then none else some []
  | .dead, _ => True
  | _, _ => False

def AObj.live : AObj → Bool
  | .dead => false
  | _ => true
/-- may the evaluator write it -/
def AObj.mine : AObj → Bool
  | .cells _ _ rw _ => rw
  | .view _ _ => false
  | _ => true

structure Rep (P : Program) (w0 : World) (ρ : Ren) (h : AHeap) (w : World) : Prop where
  below : Below w0.heap.size w0 w
  obj : ∀ i o, h.get i = some o → o.live = true → ∃ b k O, ρ i = some (b, k) ∧ (o.mine = true → w0.heap.size ≤ b) ∧ w.heap[b]? = some O ∧ ORel P ρ k o O
  inj : ∀ i j o o' b k k', h.get i = some o → h.get j = some o' → o.live = true → o'.live = true → ρ i = some (b, k) → ρ j = some (b, k') → i = j
  fresh : ∀ i, h.next ≤ i → ρ i = none ∧ h.get i = none
  glob : ∀ g, g < P.globals.size → ρ g = some (g, 0)

section
variable {P : Program} {w0 w : World} {ρ : Ren} {h : AHeap}

theorem TRel.mono {σ : Ren} (hle : ρ.le σ) {n : Nat} {tm : T Value} {A : Array Value} (ht : TRel ρ n tm A) : TRel σ n tm A := ⟨ht.1, fun t => ren_mono hle _ _ (ht.2 t)⟩
theorem EntsRel.mono {σ : Ren} (hle : ρ.le σ) : ∀ {es es' : List MapEntry}, EntsRel ρ es es' → EntsRel σ es es'
  | [], [], _ => trivial
  | _ :: _, _ :: _, ⟨⟨h1, h2, h3⟩, h4⟩ => ⟨⟨ren_mono hle _ _ h1, ren_mono hle _ _ h2, h3⟩, h4.mono hle⟩
  | [], _ :: _, h => h.elim
  | _ :: _, [], h => h.elim
theorem ORel.mono {σ : Ren} (hle : ρ.le σ) {k : Nat} {o : AObj} {O : Obj} (hr : ORel P ρ k o O) : ORel P σ k o O := by
  cases o <;> cases O <;> simp only [ORel] at hr ⊢ <;> first | exact hr | skip
  case cells.cells c e rw ex C e' fz =>
    obtain ⟨h1, h2, h3, c', junk, h4, h5⟩ := hr
    exact ⟨h1, h2, h3, c', junk, renL_mono hle _ _ h4, h5⟩
  case view.cells =>
    obtain ⟨h1, h2, h3⟩ := hr
    exact ⟨h1, h2, fun j v hj => let ⟨v', a, b⟩ := h3 j v hj; ⟨v', a, ren_mono hle _ _ b⟩⟩
  case map.map => exact ⟨hr.1, hr.2.mono hle⟩
  case loop.loop =>
    obtain ⟨h1, h2, h3, h4, h5, h6, kd, h7⟩ := hr
    exact ⟨h1, h2, h3.mono hle, h4, h5, h6, kd, hle _ _ h7⟩

theorem szOf_some {t : TypeId} {s : Nat} (h : szOf P t = some s) : (∃ i, P.info? t = some i ∧ i.size = s) ∧ P.cellsOf t = s := by
  unfold szOf at h
  cases e : P.info? t with
  | none => simp [e] at h
  | some i => simp only [e, forceNat_eq, Option.some.injEq] at h; exact ⟨⟨i, rfl, h⟩, by simp [Program.cellsOf, e, h]⟩
theorem run_sizeOf' {t : TypeId} {s : Nat} (h : szOf P t = some s) (w : World) : (sizeOf t).run P w = .ok s w := by
  obtain ⟨⟨i, h1, h2⟩, _⟩ := szOf_some h
  simp [sizeOf, typeInfo, h1, h2]
theorem run_bytesOf' {t : TypeId} {s : Nat} (h : byOf P t = some s) : ∃ i, P.info? t = some i ∧ i.bytes = s := by
  unfold byOf at h
  cases e : P.info? t with
  | none => simp [e] at h
  | some i => simp only [e, forceNat_eq, Option.some.injEq] at h; exact ⟨i, rfl, h⟩
theorem run_typeInfo' {t : TypeId} {i : TypeInfo} (h : P.info? t = some i) (w : World) : (typeInfo t).run P w = .ok i w := by simp [typeInfo, h]

/-- what 'tk' says of a type -/
theorem tk_some {t : TypeId} (h : tk P t ≠ .bad) : ∃ d, P.underlying t = some d ∧ tk P t = tkOf (some d) := by
  unfold tk at h ⊢
  cases e : P.underlying t with
  | none => simp [e, tkOf] at h
  | some d => exact ⟨d, rfl, rfl⟩
theorem run_underlying' {t : TypeId} {d : TypeDesc} (h : P.underlying t = some d) (w : World) : (underlying t).run P w = .ok d w := by simp [underlying, h]
theorem tk_slc {t e : TypeId} (h : tk P t = .slc e) : P.underlying t = some (.slice e) := by
  unfold tk at h
  cases hd : P.underlying t with
  | none => simp [hd, tkOf] at h
  | some d => cases d <;> simp [hd, tkOf] at h; simp [h]
theorem tk_arr {t e : TypeId} {n : Nat} (h : tk P t = .arr n e) : P.underlying t = some (.array n e) := by
  unfold tk at h
  cases hd : P.underlying t with
  | none => simp [hd, tkOf] at h
  | some d => cases d <;> simp [hd, tkOf] at h; simp [h]
theorem tk_strct {t : TypeId} {fs : Array Field} (h : tk P t = .strct fs) : P.underlying t = some (.struct fs) := by
  unfold tk at h
  cases hd : P.underlying t with
  | none => simp [hd, tkOf] at h
  | some d => cases d <;> simp [hd, tkOf] at h; simp [h]
theorem tk_str {t : TypeId} (h : tk P t = .str) : P.underlying t = some .string := by
  unfold tk at h
  cases hd : P.underlying t with
  | none => simp [hd, tkOf] at h
  | some d => cases d <;> simp [hd, tkOf] at h; rfl
theorem tk_int {t : TypeId} {k : IntKind} (h : tk P t = .int k) : P.underlying t = some (.int k) := by
  unfold tk at h
  cases hd : P.underlying t with
  | none => simp [hd, tkOf] at h
  | some d => cases d <;> simp [hd, tkOf] at h; simp [h]
theorem tk_map {t k v : TypeId} (h : tk P t = .map k v) : P.underlying t = some (.map k v) := by
  unfold tk at h
  cases hd : P.underlying t with
  | none => simp [hd, tkOf] at h
  | some d => cases d <;> simp [hd, tkOf] at h; simp [h]
theorem tk_ifc {t : TypeId} {ms : Array (String × TypeId)} (h : tk P t = .ifc ms) : P.underlying t = some (.interface ms) := by
  unfold tk at h
  cases hd : P.underlying t with
  | none => simp [hd, tkOf] at h
  | some d => cases d <;> simp [hd, tkOf] at h; simp [h]
theorem tk_ptr {t : TypeId} (h : tk P t = .ptr) : ∃ e, P.underlying t = some (.pointer e) := by
  unfold tk at h
  cases hd : P.underlying t with
  | none => simp [hd, tkOf] at h
  | some d => cases d <;> simp [hd, tkOf] at h; exact ⟨_, rfl⟩
theorem tk_func {t : TypeId} (h : tk P t = .func) : ∃ a b c, P.underlying t = some (.func a b c) := by
  unfold tk at h
  cases hd : P.underlying t with
  | none => simp [hd, tkOf] at h
  | some d => cases d <;> simp [hd, tkOf] at h; exact ⟨_, _, _, rfl⟩

/-- what a shape says -/
theorem shape_agg {t : TypeId} {s : Nat} (h : shapeOf P t = .agg s) (w : World) : (isAgg t).run P w = .ok true w ∧ (sizeOf t).run P w = .ok s w := by
  unfold shapeOf at h
  cases hk : tk P t <;> simp only [hk] at h <;> first | (cases h; done) | skip
  case strct fs =>
    cases e : szOf P t with
    | none => simp [e] at h
    | some s' => simp only [e, Shape.agg.injEq] at h; subst h; exact ⟨by simp [isAgg, run_underlying' (tk_strct hk)], run_sizeOf' e w⟩
  case arr n e' =>
    cases e : szOf P t with
    | none => simp [e] at h
    | some s' => simp only [e, Shape.agg.injEq] at h; subst h; exact ⟨by simp [isAgg, run_underlying' (tk_arr hk)], run_sizeOf' e w⟩
theorem shape_one {t : TypeId} (h : shapeOf P t = .one) (w : World) : (isAgg t).run P w = .ok false w := by
  have hb : tk P t ≠ .bad := fun e => by simp [shapeOf, e] at h
  obtain ⟨d, hd, hk⟩ := tk_some hb
  unfold shapeOf at h
  rw [hk] at h
  simp only [isAgg, Sem.run_bind, run_underlying' hd, Result.andThen_ok]
  cases d <;> simp only [tkOf] at h <;> first | rfl | (exfalso; revert h; split <;> simp)

theorem cell_of_heap {b : Nat} {C : Array Value} {e : TypeId} {fz : Nat × Nat} (hb : w.heap[b]? = some (.cells C e fz)) (o : Nat) : w.cell? ⟨b, o, none⟩ = C[o]? := by
  simp [World.cell?, hb]
theorem Addr.add_none (b o n : Nat) : (⟨b, o, none⟩ : Addr).add n = ⟨b, o + n, none⟩ := by
  unfold Addr.add; split <;> simp_all
/-- a row of cells, read -/
theorem run_loadCells_heap {b : Nat} {C : Array Value} {e : TypeId} {fz : Nat × Nat} (hb : w.heap[b]? = some (.cells C e fz)) (o s : Nat) (hs : s ≤ C.size - o) :
    (loadCells ⟨b, o, none⟩ s).run P w = .ok ⟨(C.toList.drop o).take s⟩ w := by
  have hl : ((C.toList.drop o).take s).length = s := by simp; omega
  have := run_loadCells_list (P := P) w ⟨b, o, none⟩ ((C.toList.drop o).take s) (fun j v hj => by
    rw [Addr.add_none, cell_of_heap hb]
    have hj' : j < s := by
      have := (List.getElem?_eq_some_iff.1 hj).1; omega
    rw [List.getElem?_take_of_lt hj', List.getElem?_drop] at hj
    rw [← hj]; simp)
  rw [hl] at this
  simpa using this

/-- the block that an evaluator's row stands for -/
theorem Rep.row (hr : Rep P w0 ρ h w) {i : Nat} {c : List Value} (hc : rowOf h i = some c) :
    ∃ b k C e fz c' junk, ρ i = some (b, k) ∧ w.heap[b]? = some (.cells C e fz) ∧ renL ρ c = some c' ∧ C.toList = c' ++ junk := by
  unfold rowOf at hc
  cases hg : h.get i with
  | none => simp [hg] at hc
  | some o =>
    cases o <;> simp only [hg] at hc <;> first | (cases hc; done) | skip
    rename_i c0 e rw ex
    simp only [Option.some.injEq] at hc; subst hc
    obtain ⟨b, k, O, h1, _, h3, h4⟩ := hr.obj i _ hg rfl
    cases O <;> simp only [ORel] at h4
    obtain ⟨_, _, _, c', junk, h5, h6, _⟩ := h4
    exact ⟨b, k, _, _, _, c', junk, h1, h3, h5, h6⟩

theorem allSome_some : ∀ {l : List (Option Value)} {r : List Value}, allSome l = some r → l = r.map some
  | [], r, h => by simp [allSome] at h; subst h; rfl
  | x :: l, r, h => by
    simp only [allSome] at h
    cases x with
    | none => simp at h
    | some v =>
      cases hl : allSome l with
      | none => simp [hl] at h
      | some r' =>
        simp only [hl, Option.some.injEq] at h
        subst h
        simp [allSome_some hl]
theorem Rep.viewed (hr : Rep P w0 ρ h w) {i o n : Nat} {l : List Value} (hl : viewCut h i o n = some l) :
    ∃ b k C e fz l', ρ i = some (b, k) ∧ w.heap[b]? = some (.cells C e fz) ∧ renL ρ l = some l' ∧ (C.toList.drop o).take n = l' ∧ n ≤ C.size - o := by
  unfold viewCut at hl
  cases hg : h.get i with
  | none => simp [hg] at hl
  | some ob =>
    cases ob <;> simp only [hg] at hl <;> first | (cases hl; done) | skip
    rename_i c e
    obtain ⟨b, k, O, h1, _, h3, h4⟩ := hr.obj i _ hg rfl
    cases O <;> simp only [ORel] at h4
    rename_i C e' fz
    obtain ⟨_, h5, h6⟩ := h4
    unfold cutV at hl
    cases ht : takeL n (dropL o c) with
    | none => simp [ht] at hl
    | some m =>
      simp only [ht] at hl
      obtain ⟨h7, h8⟩ := takeL_some _ _ _ ht
      rw [dropL_eq] at h7 h8
      have h9 := allSome_some hl
      have hlen : l.length = n := by
        have h10 : m.length = l.length := by rw [h9]; simp
        rw [← h10, h7]; simp at h8 ⊢; omega
      have hn : n ≤ C.size - o := by simp at h8; omega
      refine ⟨b, k, C, e', fz, (C.toList.drop o).take n, h1, h3, ?_, rfl, hn⟩
      have key : ∀ (l : List Value) (o : Nat), (∀ (j : Nat) v, l[j]? = some v → c[o + j]? = some (some v)) → l.length ≤ C.size - o → renL ρ l = some ((C.toList.drop o).take l.length) := by
        intro l
        induction l with
        | nil => intro o _ _; simp [renL]
        | cons v l ih =>
          intro o hj hsz
          simp only [List.length_cons] at hsz
          obtain ⟨v', e1, e2⟩ := h6 o v (by simpa using hj 0 v rfl)
          have ih' := ih (o + 1) (fun j u hu => by have := hj (j + 1) u (by simpa using hu); rw [show o + 1 + j = o + (j + 1) by omega]; exact this) (by omega)
          have hlt : o < C.toList.length := by simp; omega
          rw [List.drop_eq_getElem_cons hlt, List.length_cons, List.take_succ_cons]
          have e3 : C.toList[o] = v' := by
            have := e1
            rw [← Array.getElem?_toList, List.getElem?_eq_getElem hlt] at this
            exact Option.some.inj this
          rw [e3]
          exact renL_cons_mk e2 ih'
      have := key l o (fun j v hj => by
        have h10 : m[j]? = some (some v) := by rw [h9]; simp [hj]
        rw [h7, List.getElem?_take] at h10
        split at h10
        · rw [List.getElem?_drop] at h10; exact h10
        · cases h10) (by omega)
      rw [hlen] at this
      exact this
/-- cells of a row: the world's -/
theorem Rep.cut (hr : Rep P w0 ρ h w) {i o n : Nat} {l : List Value} (hl : rowCut h i o n = some l) :
    ∃ b k C e fz l', ρ i = some (b, k) ∧ w.heap[b]? = some (.cells C e fz) ∧ renL ρ l = some l' ∧ (C.toList.drop o).take n = l' ∧ n ≤ C.size - o := by
  unfold rowCut at hl
  cases hc : rowOf h i with
  | none => simp only [hc] at hl; exact hr.viewed hl
  | some c =>
    simp only [hc] at hl
    obtain ⟨b, k, C, e, fz, c', junk, h1, h2, h3, h4⟩ := hr.row hc
    obtain ⟨h5, h6⟩ := takeL_ren h3 hl
    have hsz : C.size = c'.length + junk.length := by rw [← Array.length_toList, h4, List.length_append]
    refine ⟨b, k, C, e, fz, _, h1, h2, h5, ?_, by omega⟩
    rw [h4]
    by_cases hs0 : n = 0
    · subst hs0; simp
    · rw [List.drop_append_of_le_length (by omega), List.take_append_of_le_length (by simp; omega)]
theorem partOf_load (hr : Rep P w0 ρ h w) {i o : Nat} {t : TypeId} {v : Value} (hv : loadAt h (shapeOf P t) i o = some v) {p : Value} (hp : ren ρ (.pointer (some ⟨i, o, none⟩)) = some p) :
    ∃ b v', p = .pointer (some ⟨b, o, none⟩) ∧ (loadVar t ⟨b, o, none⟩).run P w = .ok v' w ∧ ren ρ v = some v' := by
  obtain ⟨_, b, k, hb, rfl⟩ := ren_ptr hp
  unfold loadAt at hv
  cases hc : rowOf h i with
  | none =>
    simp only [hc] at hv
    cases hs : shapeOf P t with
    | bad => simp [hs, viewPart] at hv
    | one =>
      simp only [hs, viewPart, one?] at hv
      cases hx : viewCut h i o 1 with
      | none => simp [hx] at hv
      | some l =>
        simp only [hx] at hv
        match l, hv with
        | [u], hv =>
          simp only [Option.some.injEq] at hv
          subst hv
          obtain ⟨b', k', C, e, fz, l', h1, h2, h3, h4, h5⟩ := hr.viewed hx
          rw [hb] at h1; cases h1
          obtain ⟨v', m, rfl, h6, h7⟩ := renL_cons h3
          have hlt : o < C.size := by omega
          have hC : C[o]? = some v' := by
            have : ((C.toList.drop o).take 1)[0]? = some v' := by rw [h4]; rfl
            simpa [List.getElem?_take, List.getElem?_drop] using this
          refine ⟨b, v', rfl, ?_, h6⟩
          simp only [loadVar, Sem.run_bind, shape_one hs, Result.andThen_ok, Bool.false_eq_true, if_false, run_load, cell_of_heap h2, hC]
    | agg s =>
      simp only [hs, viewPart, aggOf] at hv
      cases hx : viewCut h i o s with
      | none => simp [hx] at hv
      | some l =>
        simp only [hx, Option.some.injEq] at hv
        subst hv
        obtain ⟨b', k', C, e, fz, l', h1, h2, h3, h4, h5⟩ := hr.viewed hx
        rw [hb] at h1; cases h1
        refine ⟨b, .agg ⟨l'⟩, rfl, ?_, ren_agg_mk h3⟩
        simp only [loadVar, Sem.run_bind, (shape_agg hs w).1, (shape_agg hs w).2, Result.andThen_ok, if_true, run_loadCells_heap h2 o s h5, Sem.run_pure, h4]
  | some c =>
    simp only [hc] at hv
    obtain ⟨b', k', C, e, fz, c', junk, h1, h2, h3, h4⟩ := hr.row hc
    rw [hb] at h1; cases h1
    have hlen := renL_length h3
    have hsz : C.size = c'.length + junk.length := by rw [← Array.length_toList, h4, List.length_append]
    cases hs : shapeOf P t with
    | bad => simp [hs, partOf] at hv
    | one =>
      simp only [hs, partOf, nthL_eq] at hv
      obtain ⟨v', hv', hrv⟩ := renL_get h3 hv
      have hlt : o < c'.length := (List.getElem?_eq_some_iff.1 hv').1
      have hC : C[o]? = some v' := by
        rw [← Array.getElem?_toList, h4, List.getElem?_append_left hlt]; exact hv'
      refine ⟨b, v', rfl, ?_, hrv⟩
      simp only [loadVar, Sem.run_bind, shape_one hs, Result.andThen_ok, Bool.false_eq_true, if_false, run_load, cell_of_heap h2, hC]
    | agg s =>
      simp only [hs, partOf, aggOf] at hv
      cases ht : takeL s (dropL o c) with
      | none => simp [ht] at hv
      | some x =>
        simp only [ht, Option.some.injEq] at hv; subst hv
        obtain ⟨h5, h6⟩ := takeL_ren h3 ht
        have hd : (C.toList.drop o).take s = (c'.drop o).take s := by
          rw [h4]
          by_cases hs0 : s = 0
          · subst hs0; simp
          · rw [List.drop_append_of_le_length (by omega), List.take_append_of_le_length (by simp; omega)]
        refine ⟨b, .agg ⟨(c'.drop o).take s⟩, rfl, ?_, ren_agg_mk h5⟩
        simp only [loadVar, Sem.run_bind, (shape_agg hs w).1, (shape_agg hs w).2, Result.andThen_ok, if_true, run_loadCells_heap h2 o s (by omega), Sem.run_pure, hd]
end
end Go.Ev
