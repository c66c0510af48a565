/-
  For walks: calls that leave what was there, slices of bytes, numbers and strings, texts made bytes and back; no condition.
-/
import Derived.Test.YtahbpehdjbmndaaGreatDoorEvHl
namespace Go.Ev
open Go.RowKit
noncomputable section
variable {P : Program} {orc : Orc} {f : FuncId} {args : List Value} {h h' : AHeap} {v : Value} {K : OpK}

/-! ### Calls that leave what was there -/
def PuW (P : Program) (orc : Orc) (f : FuncId) (args : List Value) (h : AHeap) (v : Value) : Prop := CallW P orc f args h fun r h' => r = v ∧ Ext h h'
theorem PuW.to (hc : PuW P orc f args h v) (hk : ∀ h', Ext h h' → K v h') : CallW P orc f args h K := hc.mono fun r h' ⟨he, hx⟩ => by subst he; exact hk h' hx

theorem SameW.ld {t : TypeId} {a : Operand} {ih : IH} {o : Oper} {tm : T Value} {i off : Nat} {p : Prop} (ha : val? P a tm = some (.pointer (some ⟨i, off, none⟩))) (hl : LdW h (shapeOf P t) i off fun u => u = v) (hp : p) :
    SameW (evOper (.load t a) ih P o tm h) v p := by
  obtain ⟨u, h1, h2⟩ := hl
  subst h2
  exact ⟨_, load_run ha h1, hp⟩
/-- a loop that is left at once -/
theorem LoopW.once {b : Code} {n : Nat} {ro : Option Nat} {tm : T Value} {mk : List Nat} {K : CodeK} (hs : sx b P orc n ro tm mk h (seqK (fun tm' mk' h' => ∃ m' : Nat, m' < 0 ∧ (m' = 0 ∧ tm' = tm ∧ mk' = mk ∧ h' = h)) K)) : LoopW P orc b n ro tm mk h K :=
  LoopW.rule (fun m t k hh => m = 0 ∧ t = tm ∧ k = mk ∧ hh = h) 0 ⟨rfl, rfl, rfl, rfl⟩ (by
    rintro m t k hh ⟨rfl, rfl, rfl, rfl⟩
    exact hs)
/-! ### Operations that are told by the model's own words -/
theorem OpW.gen {o : Oper} {tm : T Value} {vs : List Value} (hv : vals? P tm o.op.operands.toList = some vs) (hp : plainL vs = true) (hs : isSelect o.op = false) (hq : quick P (execOp (slot P tm) o) = some (.value v)) (hpl : plain v = true) (hk : K v h) :
    OpW (gen P o tm h) K := by
  refine ⟨v, h, ?_, hk⟩
  simp only [Ev.gen, hv, hp, hs, Bool.not_false, Bool.and_self, cond_true, nextOf, hq, hpl, forceV_eq]
theorem OpW.gen' {o : Oper} {tm : T Value} {r : Option Value} {vs : List Value} (hr : r = none) (hv : vals? P tm o.op.operands.toList = some vs) (hp : plainL vs = true) (hs : isSelect o.op = false) (hq : quick P (execOp (slot P tm) o) = some (.value v)) (hpl : plain v = true) (hk : K v h) :
    OpW (orGen r P o tm h) K := by
  subst hr
  exact OpW.gen hv hp hs hq hpl hk

theorem OpW.genV {o : Oper} {tm : T Value} (v : Value) (hx : Ev.gen P o tm h = some (v, h)) (hk : K v h) : OpW (Ev.gen P o tm h) K := ⟨v, h, hx, hk⟩
theorem OpW.bi {b : Builtin} {ar : Array Operand} {ts : Array TypeId} {o : Oper} {tm : T Value} (v : Value) (hx : opBuiltin b ar ts P o tm h = some (v, h)) (hk : K v h) : OpW (opBuiltin b ar ts P o tm h) K := ⟨v, h, hx, hk⟩
/-! ### Texts and bytes -/
theorem bytesV_len : ∀ l : List UInt8, (bytesV l).length = l.length
  | [] => rfl
  | b :: l => by simp [bytesV, forceNat_eq, bytesV_len l]
theorem bytesV_cons (b : UInt8) (l : List UInt8) : bytesV (b :: l) = byteV b :: bytesV l := by simp [bytesV, forceNat_eq, byteV]
theorem bytesV_get : ∀ (l : List UInt8) (i : Nat), (bytesV l)[i]? = (l[i]?).map byteV
  | [], i => by simp [bytesV]
  | b :: l, 0 => by simp [bytesV_cons]
  | b :: l, i + 1 => by simp [bytesV_cons, bytesV_get l i]
theorem bytesL_bytesV : ∀ l : List UInt8, bytesL (bytesV l) = some l
  | [] => rfl
  | b :: l => by
    have h1 : byteOf (byteV b) = some b := by simp [byteOf, byteV]
    simp only [bytesV_cons, bytesL, h1, bytesL_bytesV l]
theorem OpW.bytes {s d e : TypeId} {b : List UInt8} {o : Oper} {tm : T Value} (hs : tk P s = .str) (hd : tk P d = .slc e) (hb : isByte P e = true)
    (hk : K (.slice (some ⟨h.next, 0, none⟩) b.length b.length) (h.push (.cells (bytesV b) e true false))) : OpW (convTo P s d (.string ⟨⟨b⟩⟩) o tm h) K := by
  refine ⟨_, _, ?_, hk⟩
  simp only [convTo, hd, hb, cond_true, hs, toBytes, forceList_eq, AHeap.newK_eq, forceNat_eq]
theorem OpW.str {s d e : TypeId} {b : List UInt8} {o : Oper} {tm : T Value} {base : Option Addr} {len cap : Nat} (hs : tk P s = .slc e) (hd : tk P d = .str) (hb : isByte P e = true)
    (hv : toStr h (.slice base len cap) = some (.string ⟨⟨b⟩⟩)) (hk : K (.string ⟨⟨b⟩⟩) h) : OpW (convTo P s d (.slice base len cap) o tm h) K := by
  refine ⟨_, _, ?_, hk⟩
  simp only [convTo, hs, hd, hb, cond_true, hv, keepO]

/-- a slice cut -/
theorem boundOf_nat {d n : Nat} {kd : IntKind} : boundOf d (some (.int kd (n : Int))) = some n := by simp [boundOf, natOf]
theorem OpW.cut {t e : TypeId} {s b o len cap l u : Nat} {lo hi : Option Value} (hk : tk P t = .slc e) (hs : szOf P e = some s) (hl : boundOf 0 lo = some l) (hu : boundOf len hi = some u) (h1 : l ≤ u) (h2 : u ≤ cap) (h3 : l < cap ∨ l = 0)
    (hkk : K (.slice (some ⟨b, o + l * s, none⟩) (u - l) (cap - l)) h) : OpW (keepO (sliceA P t (.slice (some ⟨b, o, none⟩) len cap) lo hi h) h) K := by
  refine ⟨_, _, ?_, hkk⟩
  have hb : (Nat.ble l u && Nat.ble u cap && (Nat.blt l cap || isExact h b || Nat.beq l 0)) = true := by
    rw [Nat.ble_eq_true_of_le h1, Nat.ble_eq_true_of_le h2]
    rcases h3 with h3 | h3
    · rw [show Nat.blt l cap = true from Nat.ble_eq_true_of_le h3]; rfl
    · subst h3; simp
  simp only [keepO, sliceA, hk, hs, isNil0, cond_false, sliceBase, cutRow, hl, hu, hb, cond_true]
  cases hc : Nat.beq l cap with
  | true =>
    have := Nat.eq_of_beq_eq_true hc
    have : l = 0 := by omega
    subst this
    simp [sliceTo, forceNat_eq, orTail]
  | false => simp [sliceTo, forceNat_eq, orTail]
/-- the empty end of a row -/
theorem OpW.tail {t e : TypeId} {s b o len cap : Nat} {lo hi : Option Value} {K : OpK} {c : List Value} {el : TypeId} {rw : Bool} (hg : h.get b = some (.cells c el rw false)) (hk : tk P t = .slc e) (hs : szOf P e = some s) (hl : boundOf 0 lo = some cap) (hu : boundOf len hi = some cap) (h3 : cap ≠ 0)
    (hkk : K (.slice (some ⟨b, o, some 1⟩) 0 (cap * s)) h) : OpW (keepO (sliceA P t (.slice (some ⟨b, o, none⟩) len cap) lo hi h) h) K := by
  refine ⟨_, _, ?_, hkk⟩
  have h0 : Nat.beq cap 0 = false := by cases hc : Nat.beq cap 0 with
    | false => rfl
    | true => exact absurd (Nat.eq_of_beq_eq_true hc) h3
  have h1 : Nat.blt cap cap = false := by cases hc : Nat.blt cap cap with
    | false => rfl
    | true => have := Nat.le_of_ble_eq_true hc; omega
  have hx : isExact h b = false := by simp [isExact, hg]
  have hcr : cutRow h s b o len cap lo hi = none := by simp [cutRow, hl, hu, h0, h1, hx]
  simp only [keepO, sliceA, hk, hs, isNil0, cond_false, sliceBase, hcr, hl, hu, orTail, cutTail, Nat.beq_refl, Bool.and_self, cond_true, forceNat_eq]
/-- a slice cut, its room told -/
theorem OpW.max {t e : TypeId} {s b o len cap l u m : Nat} {lo hi : Option Value} {mv : Value} (hk : tk P t = .slc e) (hs : szOf P e = some s) (hl : boundOf 0 lo = some l) (hu : boundOf len hi = some u) (hm : natOf mv = some m) (h1 : l ≤ u) (h2 : u ≤ m) (h3 : m ≤ cap)
    (hkk : K (.slice (some ⟨b, if m = l then o else o + l * s, some 0⟩) (u - l) (m - l)) h) : OpW (keepO (sliceMax P t (.slice (some ⟨b, o, none⟩) len cap) lo hi mv) h) K := by
  refine ⟨_, _, ?_, hkk⟩
  simp only [keepO, sliceMax, hk, hs, hm, cutMax, hl, hu, Nat.ble_eq_true_of_le h1, Nat.ble_eq_true_of_le h2, Nat.ble_eq_true_of_le h3, Bool.and_self, cond_true]
  cases hc : Nat.beq m l with
  | true => simp [Nat.eq_of_beq_eq_true hc]
  | false =>
    have hne : m ≠ l := fun e => by subst e; simp at hc
    simp [hne, forceNat_eq]
theorem OpW.cutN {t e : TypeId} {s b o len cap l u : Nat} {lo hi : Option Value} {x : Value} (hx : x = .slice (some ⟨b, o, none⟩) len cap) (hk : tk P t = .slc e) (hs : szOf P e = some s) (hl : boundOf 0 lo = some l) (hu : boundOf len hi = some u) (h1 : l ≤ u) (h2 : u ≤ cap) (h3 : l < cap ∨ l = 0)
    (hkk : K (.slice (some ⟨b, o + l * s, none⟩) (u - l) (cap - l)) h) : OpW (keepO (sliceA P t x lo hi h) h) K := by
  subst hx
  exact OpW.cut hk hs hl hu h1 h2 h3 hkk

/-! ### Rows of which each element is one cell -/
/-- a slice of cells -/
def Row1 (h : AHeap) (v : Value) (l : List Value) : Prop :=
  (l = [] ∧ ∃ base cap, v = .slice base 0 cap ∧ (base = none → cap = 0)) ∨ ∃ i o cap, v = .slice (some ⟨i, o, none⟩) l.length cap ∧ l.length ≤ cap ∧ i < h.next ∧ rowCut h i o l.length = some l
theorem Row1.ext (a : Ext h h') {l : List Value} (hr : Row1 h v l) : Row1 h' v l := by
  rcases hr with h1 | ⟨i, o, cap, h1, h2, h3, h4⟩
  · exact .inl h1
  · exact .inr ⟨i, o, cap, h1, h2, by have := a.next; omega, by rw [rowCut_ext a h3]; exact h4⟩
/-- a row that is not empty -/
theorem Row1.has {l : List Value} (hr : Row1 h v l) (hl : 0 < l.length) : ∃ i o cap, v = .slice (some ⟨i, o, none⟩) l.length cap ∧ l.length ≤ cap ∧ i < h.next ∧ rowCut h i o l.length = some l := by
  rcases hr with ⟨rfl, _⟩ | h1
  · simp at hl
  · exact h1
theorem Row1.len {l : List Value} (hr : Row1 h v l) : ∃ base cap, v = .slice base l.length cap := by
  rcases hr with ⟨rfl, b, c, h1, _⟩ | ⟨i, o, cap, h1, _⟩
  · exact ⟨b, c, h1⟩
  · exact ⟨_, _, h1⟩
theorem take_one {l : List Value} {k : Nat} {x : Value} (hx : l[k]? = some x) : (l.drop k).take 1 = [x] := by
  obtain ⟨hk, rfl⟩ := List.getElem?_eq_some_iff.1 hx
  rw [List.drop_eq_getElem_cons hk, List.take_succ_cons, List.take_zero]
theorem row_at {i o n : Nat} {l : List Value} (hc : rowCut h i o n = some l) {k : Nat} {x : Value} (hx : l[k]? = some x) (hk : k < n) : rowCut h i (o + k) 1 = some [x] := by
  rw [rowCut_sub hc (j := k) (n := 1) (by omega), take_one hx]
theorem row_drop {i o n : Nat} {l : List Value} (hc : rowCut h i o n = some l) (hn : l.length = n) {k : Nat} (hk : k ≤ n) : rowCut h i (o + k) (n - k) = some (l.drop k) := by
  rw [rowCut_sub hc (j := k) (n := n - k) (by omega), List.take_of_length_le (by simp; omega)]
/-- a block that was just made, of cells -/
theorem Row1.push {c : List Value} {e : TypeId} {w x : Bool} {cap : Nat} (hc : c.length ≤ cap) : Row1 (h.push (.cells c e w x)) (.slice (some ⟨h.next, 0, none⟩) c.length cap) c := by
  refine .inr ⟨h.next, 0, cap, rfl, hc, by simp, ?_⟩
  rw [rowCut_cells get_self (by omega)]
  simp
theorem Row1.bytes {b : List UInt8} {e : TypeId} {w x : Bool} : Row1 (h.push (.cells (bytesV b) e w x)) (.slice (some ⟨h.next, 0, none⟩) b.length b.length) (bytesV b) := by
  have := Row1.push (h := h) (c := bytesV b) (e := e) (w := w) (x := x) (cap := b.length) (by rw [bytesV_len]; omega)
  rwa [bytesV_len] at this
theorem toStr_row {b : List UInt8} (hr : Row1 h v (bytesV b)) : toStr h v = some (.string ⟨⟨b⟩⟩) := by
  rcases hr with ⟨h1, base, cap, rfl, _⟩ | ⟨i, o, cap, rfl, _, _, h4⟩
  · cases b with
    | cons x b => simp [bytesV_cons] at h1
    | nil =>
      cases base <;> rfl
  · cases b with
    | nil => rfl
    | cons x b =>
      rw [bytesV_len] at h4
      simp only [bytesV_len, toStr, List.length_cons] at h4 ⊢
      simp only [h4, bytesL_bytesV]
end
end Go.Ev
