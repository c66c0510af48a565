/-
  For walks with the symbolic executor: frames written as lists, the heap's reads and writes, what a call leaves; no condition.
-/
import Derived.Test.YtahbpehdjbmndaaGreatDoorEvSx3
namespace Go.Ev
open Go.RowKit
noncomputable section

/-! ### Frames -/
/-- a frame's temporaries, all places there -/
def tr (d : Nat) (g : Nat → Option Value) : T Value :=
  Nat.rec (motive := fun _ => (Nat → Option Value) → T Value) (fun _ => .leaf) (fun _ r g => .node (g 0) (r fun j => g (2 * j + 1)) (r fun j => g (2 * j + 2))) d g
/-- some places known, of the others nothing said -/
def upd (l : List (Nat × Value)) (g : Nat → Option Value) (n : Nat) : Option Value :=
  List.rec (motive := fun _ => Option Value) (g n) (fun p _ r => Bool.rec (motive := fun _ => Option Value) r (some p.2) (Nat.beq p.1 n)) l
def Fr (d : Nat) (l : List (Nat × Value)) (tm : T Value) : Prop := ∃ g, tm = tr d (upd l g)
theorem Fr.mk {d : Nat} {l : List (Nat × Value)} {tm : T Value} (h : tm = tr d (upd l tm.get)) : Fr d l tm := ⟨_, h⟩

/-! ### The heap -/
section
variable {h h' h'' : AHeap} {i j : Nat} {o x : AObj}
theorem get_self : (h.push o).get h.next = some o := by rw [AHeap.get_push, if_pos rfl]
theorem get_push (hi : i ≠ h.next) (hx : h.get i = some x) : (h.push o).get i = some x := by rw [AHeap.get_push, if_neg hi]; exact hx
theorem get_put_self : (h.put i o).get i = some o := by rw [AHeap.get_put, if_pos rfl]
theorem get_put (hj : j ≠ i) (hx : h.get j = some x) : (h.put i o).get j = some x := by rw [AHeap.get_put, if_neg hj]; exact hx
theorem LdW.of {sh : Shape} {off : Nat} {K : Value → Prop} {c : List Value} {e : TypeId} {rw ex : Bool} {v : Value} (hg : h.get i = some (.cells c e rw ex)) (hp : partOf sh c off = some v) (hk : K v) : LdW h sh i off K :=
  ⟨v, by simp only [loadAt, rowOf, hg, hp], hk⟩
theorem StW.of {off : Nat} {vs : List Value} {K : AHeap → Prop} {c c' : List Value} {e : TypeId} {ex : Bool} (hg : h.get i = some (.cells c e true ex)) (h1 : oneCells vs = true) (h2 : setCells off c vs = some c') (hk : K (h.put i (.cells c' e true ex))) : StW h i off vs K :=
  ⟨_, by simp only [writeRow, hg, h1, Bool.and_self, cond_true, h2, AHeap.setK_eq], hk⟩
/-- the blocks of a heap stand in another -/
structure Ext (h h' : AHeap) : Prop where
  next : h.next ≤ h'.next
  get : ∀ i, i < h.next → h'.get i = h.get i
theorem Ext.refl : Ext h h := ⟨Nat.le_refl _, fun _ _ => rfl⟩
theorem Ext.trans (a : Ext h h') (b : Ext h' h'') : Ext h h'' := ⟨Nat.le_trans a.next b.next, fun i hi => by rw [b.get i (by have := a.next; omega), a.get i hi]⟩
theorem Ext.push (a : Ext h h') : Ext h (h'.push o) := ⟨by rw [AHeap.next_push]; have := a.next; omega, fun i hi => by rw [AHeap.get_push, if_neg (by have := a.next; omega), a.get i hi]⟩
theorem Ext.put (a : Ext h h') (hi : h.next ≤ i) : Ext h (h'.put i o) := ⟨by rw [AHeap.next_put]; exact a.next, fun j hj => by rw [AHeap.get_put, if_neg (by omega), a.get j hj]⟩
theorem Ext.at (a : Ext h h') (hi : i < h.next) (hx : h.get i = some x) : h'.get i = some x := by rw [a.get i hi]; exact hx
end

/-- what the oracle knows -/
theorem orcW {P : Program} {orc : Orc} {f : FuncId} {args : List Value} {h : AHeap} {K : OpK} {v : Value} {h' : AHeap} (ho : orc f args h = some (.val v h')) (hk : K v h') : CallW P orc f args h K :=
  ⟨v, h', ⟨1, by show evCall P orc (ev P orc 0) f args h = _; simp only [evCall, ho]⟩, hk⟩
/-- which other call it is -/
theorem orcTo {P : Program} {orc : Orc} {f g : FuncId} {args args' : List Value} {h : AHeap} {K : OpK} (ho : orc f args h = some (.to g args')) (hc : CallW P orc g args' h K) : CallW P orc f args h K := by
  obtain ⟨v, h', ⟨fu, hl⟩, hk⟩ := hc
  exact ⟨v, h', ⟨fu + 1, by show evCall P orc (ev P orc fu) f args h = _; simp only [evCall, ho]; exact hl⟩, hk⟩
/-- a load that is looked at again -/
theorem load_run {P : Program} {t : TypeId} {a : Operand} {ih : IH} {o : Oper} {tm : T Value} {h : AHeap} {i off : Nat} {v : Value} (ha : val? P a tm = some (.pointer (some ⟨i, off, none⟩))) (hl : loadAt h (shapeOf P t) i off = some v) :
    evOper (.load t a) ih P o tm h = some (v, h) := by
  show opLoad t a P o tm h = _
  simp only [opLoad, with1_mk ha, loadA, atAddr, hl, keepO]

/-! ### Rows -/
theorem partOf_agg {c : List Value} {s off : Nat} (hl : off + s ≤ c.length) : partOf (.agg s) c off = some (.agg ⟨(c.drop off).take s⟩) := by
  have : ∀ (n : Nat) (l : List Value), n ≤ l.length → takeL n l = some (l.take n) := by
    intro n
    induction n with
    | zero => intro l _; simp [takeL]
    | succ n ih =>
      intro l hl
      cases l with
      | nil => simp at hl
      | cons x l => simp [takeL, ih l (by simpa using hl)]
  simp only [partOf, aggOf, dropL_eq]
  rw [this s _ (by simp; omega)]
theorem partOf_one {c : List Value} {off : Nat} {v : Value} (hv : c[off]? = some v) : partOf .one c off = some v := by simp only [partOf, nthL_eq, hv]
theorem takeL_eq {α : Type} : ∀ (n : Nat) (l : List α), n ≤ l.length → takeL n l = some (l.take n)
  | 0, l, _ => by simp [takeL]
  | n + 1, [], hl => by simp at hl
  | n + 1, x :: l, hl => by
    have := takeL_eq n l (by simpa using hl)
    simp [takeL, this]
theorem loadAt_agg {h : AHeap} {s i o : Nat} {l : List Value} (hc : rowCut h i o s = some l) : loadAt h (.agg s) i o = some (.agg ⟨l⟩) := by
  unfold rowCut at hc
  unfold loadAt
  cases hr : rowOf h i with
  | none => simp only [hr] at hc; simp only [viewPart, hc, aggOf]
  | some c => simp only [hr] at hc; simp only [partOf, hc, aggOf]
theorem loadAt_one {h : AHeap} {i o : Nat} {v : Value} (hc : rowCut h i o 1 = some [v]) : loadAt h .one i o = some v := by
  unfold rowCut at hc
  unfold loadAt
  cases hr : rowOf h i with
  | none => simp only [hr] at hc; simp only [viewPart, hc, one?]
  | some c =>
    simp only [hr] at hc
    simp only [partOf, nthL_eq]
    obtain ⟨h1, h2⟩ := takeL_some _ _ _ hc
    rw [dropL_eq] at h1 h2
    have : ((c.drop o).take 1)[0]? = some v := by rw [← h1]; rfl
    simpa [List.getElem?_take, List.getElem?_drop] using this
theorem LdW.cutA {h : AHeap} {s i o : Nat} {K : Value → Prop} {l : List Value} (hc : rowCut h i o s = some l) (hk : K (.agg ⟨l⟩)) : LdW h (.agg s) i o K := ⟨_, loadAt_agg hc, hk⟩
theorem LdW.cut1 {h : AHeap} {i o : Nat} {K : Value → Prop} {v : Value} (hc : rowCut h i o 1 = some [v]) (hk : K v) : LdW h .one i o K := ⟨_, loadAt_one hc, hk⟩
theorem rowCut_ext {h h' : AHeap} (a : Ext h h') {i o s : Nat} (hi : i < h.next) : rowCut h' i o s = rowCut h i o s := by
  unfold rowCut rowOf viewCut
  rw [a.get i hi]
theorem rowCut_cells {h : AHeap} {i o s : Nat} {c : List Value} {e : TypeId} {rw ex : Bool} (hg : h.get i = some (.cells c e rw ex)) (hl : o + s ≤ c.length) : rowCut h i o s = some ((c.drop o).take s) := by
  simp only [rowCut, rowOf, hg, dropL_eq]
  exact takeL_eq _ _ (by simp; omega)
theorem allSome_map (l : List Value) : allSome (l.map some) = some l := by
  induction l with
  | nil => rfl
  | cons v l ih => simp [allSome, ih]
/-- a part of a part -/
theorem rowCut_sub {h : AHeap} {i o s : Nat} {l : List Value} (hc : rowCut h i o s = some l) {j n : Nat} (hj : j + n ≤ s) : rowCut h i (o + j) n = some ((l.drop j).take n) := by
  unfold rowCut at hc ⊢
  cases hr : rowOf h i with
  | some c =>
    simp only [hr] at hc ⊢
    obtain ⟨h1, h2⟩ := takeL_some _ _ _ hc
    rw [dropL_eq] at h1 h2
    rw [dropL_eq, takeL_eq _ _ (by simp at h2 ⊢; omega), h1, List.drop_take, List.take_take, List.drop_drop]
    congr 2
    omega
  | none =>
    simp only [hr] at hc ⊢
    unfold viewCut at hc ⊢
    cases hg : h.get i with
    | none => simp [hg] at hc
    | some ob =>
      cases ob <;> simp only [hg] at hc ⊢ <;> first | (cases hc; done) | skip
      rename_i c e
      unfold cutV at hc ⊢
      cases ht : takeL s (dropL o c) with
      | none => simp [ht] at hc
      | some m =>
        simp only [ht] at hc
        obtain ⟨h1, h2⟩ := takeL_some _ _ _ ht
        rw [dropL_eq] at h1 h2
        have h3 := allSome_some hc
        rw [dropL_eq, takeL_eq _ _ (by simp at h2 ⊢; omega)]
        have h4 : (c.drop (o + j)).take n = ((l.drop j).take n).map some := by
          rw [List.map_take, List.map_drop, ← h3, h1, List.drop_take, List.take_take, List.drop_drop]
          congr 1
          omega
        rw [h4]
        exact allSome_map _
/-- a slice's elements, each of s cells -/
def Elems (h : AHeap) (s : Nat) (v : Value) (cs : List (List Value)) : Prop :=
  ∃ base cap, v = .slice base cs.length cap ∧ ∀ (k : Nat) (x : List Value), cs[k]? = some x → ∃ i o, base = some ⟨i, o, none⟩ ∧ i < h.next ∧ rowCut h i (o + k * s) s = some x
theorem Elems.ext {h h' : AHeap} (a : Ext h h') {s : Nat} {v : Value} {cs : List (List Value)} (he : Elems h s v cs) : Elems h' s v cs := by
  obtain ⟨base, cap, h1, h2⟩ := he
  refine ⟨base, cap, h1, fun k x hx => ?_⟩
  obtain ⟨i, o, h3, h4, h5⟩ := h2 k x hx
  exact ⟨i, o, h3, by have := a.next; omega, by rw [rowCut_ext a h4]; exact h5⟩

/-! ### A slice that is built by appending: its own row -/
def Own (h0 h : AHeap) (e : TypeId) (base : Option Addr) (xs : List (List Value)) : Prop :=
  (base = none ∧ xs = []) ∨ ∃ b ex, base = some ⟨b, 0, none⟩ ∧ h0.next ≤ b ∧ b < h.next ∧ h.get b = some (.cells xs.flatten e true ex) ∧ (ex = true → xs = [])
theorem Own.later {h0 h h' : AHeap} (a : Ext h h') {e : TypeId} {base : Option Addr} {xs : List (List Value)} (ho : Own h0 h e base xs) : Own h0 h' e base xs := by
  rcases ho with h1 | ⟨b, ex, h1, h2, h3, h4, h5⟩
  · exact .inl h1
  · exact .inr ⟨b, ex, h1, h2, by have := a.next; omega, a.at h3 h4, h5⟩
theorem Own.weaken {h0 h1 h : AHeap} (a : h0.next ≤ h1.next) {e : TypeId} {base : Option Addr} {xs : List (List Value)} (ho : Own h1 h e base xs) : Own h0 h e base xs := by
  rcases ho with h2 | ⟨b, ex, h2, h3, h4, h5, h6⟩
  · exact .inl h2
  · exact .inr ⟨b, ex, h2, by omega, h4, h5, h6⟩
theorem flatten_len {s : Nat} : ∀ {xs : List (List Value)}, (∀ x ∈ xs, x.length = s) → xs.flatten.length = xs.length * s
  | [], _ => by simp
  | x :: xs, h => by
    have h1 := h x List.mem_cons_self
    have h2 := flatten_len (xs := xs) fun y hy => h y (List.mem_cons_of_mem _ hy)
    simp [h1, h2, Nat.add_mul]; omega
theorem flatten_cut {s : Nat} : ∀ {xs : List (List Value)} {k : Nat} {x : List Value}, (∀ x ∈ xs, x.length = s) → xs[k]? = some x → (xs.flatten.drop (k * s)).take s = x
  | [], k, x, _, hx => by simp at hx
  | y :: xs, 0, x, h, hx => by
    simp at hx; subst hx
    have h1 := h y List.mem_cons_self
    simp [← h1]
  | y :: xs, k + 1, x, h, hx => by
    have h1 := h y List.mem_cons_self
    have h2 := flatten_cut (xs := xs) (k := k) (x := x) (fun z hz => h z (List.mem_cons_of_mem _ hz)) (by simpa using hx)
    rw [List.flatten_cons, Nat.add_mul, Nat.one_mul, Nat.add_comm, ← h1, List.drop_length_add_append, h1]
    exact h2
theorem Own.elems {h0 h : AHeap} {e : TypeId} {base : Option Addr} {xs : List (List Value)} {s cap : Nat} (ho : Own h0 h e base xs) (hl : ∀ x ∈ xs, x.length = s) : Elems h s (.slice base xs.length cap) xs := by
  refine ⟨base, cap, rfl, fun k x hx => ?_⟩
  rcases ho with ⟨h1, h2⟩ | ⟨b, ex, h1, h2, h3, h4, h5⟩
  · subst h2; simp at hx
  · have hk : k < xs.length := (List.getElem?_eq_some_iff.1 hx).1
    have hle : (k + 1) * s ≤ xs.length * s := Nat.mul_le_mul_right _ hk
    rw [Nat.add_mul, Nat.one_mul] at hle
    refine ⟨b, 0, h1, h3, ?_⟩
    rw [Nat.zero_add, rowCut_cells h4 (by rw [flatten_len hl]; exact hle), flatten_cut hl hx]
theorem roomy_of {P : Program} {e : TypeId} {s need b : Nat} (hb : byOf P e = some b) (hz : (!Nat.beq b 0 && (!Nat.beq s 0 && zeroFits P e s)) = true) (hle : (2 * need + 1000) * b ≤ 281474976710656) : roomy P e s need = true := by
  unfold roomy
  rw [hb]
  simp only [Nat.ble_eq_true_of_le hle, Bool.true_and]
  exact hz
/-- one element appended -/
theorem Own.append {P : Program} {h0 h : AHeap} {e t u : TypeId} {s : Nat} {base : Option Addr} {xs : List (List Value)} (ho : Own h0 h e base xs) (ha : Ext h0 h) (hk : tk P t = .slc e) (hn : notInt (tk P u) = true) (hs : szOf P e = some s)
    (hl : ∀ x ∈ xs, x.length = s) (hone : ∀ x ∈ xs, oneCells x = true) (hroom : roomy P e s (xs.length + 1) = true) {b2 cap2 : Nat} {new : List Value} (hnew : rowCut h b2 0 s = some new) (hnl : new.length = s) (hno : oneCells new = true) :
    ∃ b h', appendA P t u (.slice base xs.length xs.length) (.slice (some ⟨b2, 0, none⟩) 1 cap2) h = some (.slice (some ⟨b, 0, none⟩) (xs.length + 1) (xs.length + 1), h') ∧ Own h0 h' e (some ⟨b, 0, none⟩) (xs ++ [new]) ∧ Ext h0 h' := by
  have hf : firstA h s 1 (.slice (some ⟨b2, 0, none⟩) 1 cap2) = some new := by simp [firstA, hnew]
  have hble : Nat.ble (xs.length + 1) xs.length = false := by
    cases hb : Nat.ble (xs.length + 1) xs.length with
    | false => rfl
    | true => have := Nat.le_of_ble_eq_true hb; omega
  have hones : ∀ (l : List (List Value)), (∀ x ∈ l, oneCells x = true) → oneCells l.flatten = true := by
    intro l
    induction l with
    | nil => intro _; rfl
    | cons x l ih =>
      intro h
      rw [List.flatten_cons, oneCells_iff]
      intro v hv
      rcases List.mem_append.1 hv with hv | hv
      · exact oneCells_iff.1 (h x List.mem_cons_self) v hv
      · exact oneCells_iff.1 (ih fun y hy => h y (List.mem_cons_of_mem _ hy)) v hv
  simp only [appendA, hk, hn, cond_true, hs, appendWith, lenA, hf, appendTo]
  rcases ho with ⟨rfl, rfl⟩ | ⟨b, ex, rfl, h2, h3, h4, h5⟩
  · simp only [List.length_nil, Nat.beq_refl, Bool.and_self, cond_true, List.length_nil, Nat.zero_add] at hroom ⊢
    rw [show Nat.beq 1 0 = false from rfl]
    simp only [cond_false, hroom, hno, Bool.and_self, cond_true, loose, forceList_eq, AHeap.newK_eq, forceNat_eq]
    refine ⟨h.next, _, rfl, .inr ⟨h.next, false, rfl, ha.next, by simp, ?_, (fun e => by cases e)⟩, ha.push⟩
    rw [get_self]; simp
  · simp only [hble, cond_false, hroom, hno, Bool.and_self, cond_true, appendOut, h4]
    have ht : takeL (xs.length * s) (dropL 0 xs.flatten) = some xs.flatten := by
      rw [dropL_eq, List.drop_zero, takeL_eq _ _ (by rw [flatten_len hl]; exact Nat.le_refl _), List.take_of_length_le (by rw [flatten_len hl]; exact Nat.le_refl _)]
    simp only [ht, hones xs hone, cond_true]
    cases ex with
    | true =>
      have hx := h5 rfl
      subst hx
      simp only [cond_true, loose, forceList_eq, AHeap.newK_eq, forceNat_eq]
      refine ⟨h.next, _, rfl, .inr ⟨h.next, false, rfl, ha.next, by simp, ?_, (fun e => by cases e)⟩, ha.push⟩
      rw [get_self]; simp
    | false =>
      have hb1 : lenB xs.flatten (xs.length * s) = true := (lenB_iff _ _).2 (flatten_len hl)
      have hb2 : lenB new (1 * s) = true := (lenB_iff _ _).2 (by rw [hnl, Nat.one_mul])
      simp only [cond_false, hb1, hb2, Nat.beq_refl, Bool.and_self, cond_true, loose, forceList_eq, AHeap.setK_eq, AHeap.newK_eq, forceNat_eq]
      refine ⟨(h.put b .dead).next, _, rfl, .inr ⟨(h.put b .dead).next, false, rfl, by rw [AHeap.next_put]; exact ha.next, by simp, ?_, (fun e => by cases e)⟩, (ha.put h2).push⟩
      rw [get_self]; simp
end
end Go.Ev
