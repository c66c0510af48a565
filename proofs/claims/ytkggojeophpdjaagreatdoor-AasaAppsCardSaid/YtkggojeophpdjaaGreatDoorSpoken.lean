/-
  'speaks' of layer 20 comes to true in every world of the rows; strings.Index where it is called; no condition.
-/
import Derived.Test.YtkggojeophpdjaaGreatDoorSpeaks
namespace Go.Proofs.YtkggojeophpdjaaGreatDoor
open Go.Ev Go.RowKit

theorem begin2 : (((begin Tryz.prog (fun _ _ => 0) default).world).heap[2]?).bind Obj.row? = some (#[.int .i64 0], 3) := by kernel_rfl
theorem under3 : Tryz.prog.underlying 3 = some (.int .i64) := by kernel_rfl
theorem build3 : Tryz.prog.buildable 3 = true := by kernel_rfl
theorem cellT3 : Tryz.prog.cellTypes Tryz.prog.depth 3 = some [3] := by kernel_rfl

/-- the one call of strings.Index, whatever 'internal/bytealg.MaxLen' holds -/
def buy : List UInt8 := [47, 98, 117, 121, 47, 42]
def dollar : List UInt8 := [36, 40]
theorem index_neg (a : Nat) : saysV (.int .i64 (.negSucc 0)) (ev Tryz.prog orcNone 1000 (.call 195 [.string ⟨⟨buy⟩⟩, .string ⟨⟨dollar⟩⟩] (heap0 6 [(2, [.int .i64 (.negSucc a)], 3)]))) = true := by kernel_rfl
theorem index_0 : saysV (.int .i64 (.negSucc 0)) (ev Tryz.prog orcNone 1000 (.call 195 [.string ⟨⟨buy⟩⟩, .string ⟨⟨dollar⟩⟩] (heap0 6 [(2, [.int .i64 (.ofNat 0)], 3)]))) = true := by kernel_rfl
theorem index_1 : saysV (.int .i64 (.negSucc 0)) (ev Tryz.prog orcNone 1000 (.call 195 [.string ⟨⟨buy⟩⟩, .string ⟨⟨dollar⟩⟩] (heap0 6 [(2, [.int .i64 (.ofNat 1)], 3)]))) = true := by kernel_rfl
theorem index_more (a : Nat) : saysV (.int .i64 (.negSucc 0)) (ev Tryz.prog orcNone 1000 (.call 195 [.string ⟨⟨buy⟩⟩, .string ⟨⟨dollar⟩⟩] (heap0 6 [(2, [.int .i64 (.ofNat (Nat.succ (Nat.succ a)))], 3)]))) = true := by kernel_rfl
theorem index_any (x : Int) : saysV (.int .i64 (.negSucc 0)) (ev Tryz.prog orcNone 1000 (.call 195 [.string ⟨⟨buy⟩⟩, .string ⟨⟨dollar⟩⟩] (heap0 6 [(2, [.int .i64 x], 3)]))) = true := by
  cases x with
  | negSucc a => exact index_neg a
  | ofNat a =>
    match a with
    | 0 => exact index_0
    | 1 => exact index_1
    | a + 2 => exact index_more a
/-- what the program's tables hold when a call begins -/
structure Tabs (W : World) : Prop where
  words : ∃ e fz, W.heap[1]? = some (.cells ⟨cellsWords⟩ e fz)
  maxLen : ∃ x, W.heap[2]? = some (.cells ⟨[.int .i64 x]⟩ 3)
  classes : ∃ e fz, W.heap[3]? = some (.cells ⟨cellsClasses⟩ e fz)
  first : ∃ e fz, W.heap[4]? = some (.cells ⟨cellsFirst⟩ e fz)
  ranges : ∃ e fz, W.heap[5]? = some (.cells ⟨cellsRanges⟩ e fz)
theorem Tabs.of {W : World} {laid : List (String × DataW Unit)} (hl : laidMet Tryz.prog laid W) (hs : W.ShapedOpen Tryz.prog)
    (m1 : ("waybill/scan.words", Rows.laid_waybill_scan_words) ∈ laid) (m3 : ("waybill/subst.classes", Rows.laid_waybill_subst_classes) ∈ laid)
    (m4 : ("unicode/utf8.first", Rows.laid_unicode_utf8_first) ∈ laid) (m5 : ("unicode/utf8.acceptRanges", Rows.laid_unicode_utf8_acceptRanges) ∈ laid) : Tabs W :=
  ⟨laid_cells hl m1 gW tW flatW, shaped_int hs (g := 2) (by rw [nG]; omega) begin2 rfl build3 cellT3 under3, laid_cells hl m3 gC tC flatC, laid_cells hl m4 gF tF flatF, laid_cells hl m5 gA tA flatA⟩
theorem block_of {W w : World} {i : Nat} {o : Obj} (hb : Below W.heap.size W w) (h : W.heap[i]? = some o) : w.heap[i]? = some o := by
  rw [hb.block i (Array.getElem?_eq_some_iff.1 h).1]; exact h
theorem Tabs.below {W w : World} (h : Tabs W) (hb : Below W.heap.size W w) : Tabs w := by
  obtain ⟨⟨a1, a2, a3⟩, ⟨b1, b2⟩, ⟨c1, c2, c3⟩, ⟨d1, d2, d3⟩, e1, e2, e3⟩ := h
  exact ⟨⟨a1, a2, block_of hb a3⟩, ⟨b1, block_of hb b2⟩, ⟨c1, c2, block_of hb c3⟩, ⟨d1, d2, block_of hb d3⟩, e1, e2, block_of hb e3⟩
theorem orc_ok {W : World} (hs : Tabs W) : OrcOk Tryz.prog W orc := by
  intro g args v hv
  unfold orc at hv
  cases hg : Nat.beq g 195 with
  | false => simp [hg] at hv
  | true =>
    simp only [hg, cond_true] at hv
    have hg := Nat.eq_of_beq_eq_true hg
    subst hg
    split at hv
    · rename_i s t
      cases hb : (eqBytes s [47, 98, 117, 121, 47, 42] && eqBytes t [36, 40]) with
      | false => simp [hb] at hv
      | true =>
        simp only [hb, cond_true, Option.some.injEq] at hv
        simp only [Bool.and_eq_true] at hb
        have h1 : s = buy := eqBytes_eq hb.1
        have h2 : t = dollar := eqBytes_eq hb.2
        subst h1; subst h2; subst hv
        refine ⟨rfl, rfl, fun w hw => ?_⟩
        obtain ⟨x, hx'⟩ := (hs.below hw).maxLen
        have hr := run_gives (P := Tryz.prog) (w := w) orcNone_ok (l := [(2, [.int .i64 x], 3)]) (by
          intro y hy
          simp only [List.mem_singleton] at hy
          subst hy
          exact ⟨by rw [nG]; omega, rfl, _, hx'⟩) (fuel := 1000) (f := 195) (args := [.string ⟨⟨buy⟩⟩, .string ⟨⟨dollar⟩⟩]) rfl (v := .int .i64 (.negSucc 0)) (by rw [nG]; exact index_any x)
        refine hr.mono fun e w' ⟨he, hB⟩ => ?_
        subst he
        exact ⟨rfl, hB⟩
    · cases hv
theorem Tabs.size {W : World} (h : Tabs W) : Tryz.prog.globals.size ≤ W.heap.size := by
  obtain ⟨e, fz, h⟩ := h.ranges
  have := (Array.getElem?_eq_some_iff.1 h).1
  rw [nG]; omega
/-- ████ THE DOCUMENT'S EXAMPLE ████ -/
theorem speaks {W : World} (ht : Tabs W) : Calls Tryz.prog 8 #[] W fun e w' => e = .returned (.bool true) ∧ Below W.heap.size W w' := by
  obtain ⟨e1, f1, h1⟩ := ht.words
  obtain ⟨e3, f3, h3⟩ := ht.classes
  obtain ⟨e4, f4, h4⟩ := ht.first
  obtain ⟨e5, f5, h5⟩ := ht.ranges
  refine run_says (P := Tryz.prog) (orc_ok ht) (l := tables e1 e3 e4 e5) ?_ (fuel := 100000) (f := 8) (args := []) rfl (by rw [nG]; exact runs e1 e3 e4 e5)
  intro x hx
  simp only [tables, List.mem_cons, List.not_mem_nil, or_false] at hx
  rcases hx with rfl | rfl | rfl | rfl
  · exact ⟨by rw [nG]; omega, by kernel_rfl, _, h1⟩
  · exact ⟨by rw [nG]; omega, by kernel_rfl, _, h3⟩
  · exact ⟨by rw [nG]; omega, by kernel_rfl, _, h4⟩
  · exact ⟨by rw [nG]; omega, by kernel_rfl, _, h5⟩
end Go.Proofs.YtkggojeophpdjaaGreatDoor
