/-
  What the rows list of this program's tables, as facts on memory; a world that holds it; no condition.
-/
import Derived.Test.YtahbpehdjbmndaaGreatDoorAsO
import Derived.Test.YtahbpehdjbmndaaGreatDoorRows
import Derived.LaidHandle
import Derived.LaidLaws
import Derived.Deep.DeepHandedRow
namespace Go.Proofs.YtahbpehdjbmndaaGreatDoor
open Go.ChangeShapes Go.WideShapes Go.ChangeAt Go.RowKit Go.Ev
/-- what the program's tables hold when a call begins -/
structure Tabs (W : World) : Prop where
  first : ∃ e fz, W.heap[2]? = some (.cells ⟨cellsFirst⟩ e fz)
  ranges : ∃ e fz, W.heap[3]? = some (.cells ⟨cellsRanges⟩ e fz)
  allowed : ∃ e fz, W.heap[4]? = some (.cells ⟨cellsAllowed⟩ e fz)
  handle : W.cell? ⟨0, 0, none⟩ = some (.iface 244 (.agg #[.pointer (some ⟨5, 28, none⟩)]))
theorem tF : (Tryz.prog.globals[2]?).map (·.type) = some 329 := by kernel_rfl
theorem tA : (Tryz.prog.globals[3]?).map (·.type) = some 332 := by kernel_rfl
theorem tL : (Tryz.prog.globals[4]?).map (·.type) = some 340 := by kernel_rfl
theorem flatF : flatD Tryz.prog 5 329 Rows.laid_unicode_utf8_first = some cellsFirst := by kernel_rfl
theorem flatA : flatD Tryz.prog 5 332 (Rows.laid_unicode_utf8_acceptRanges (H := Unit)) = some cellsRanges := by kernel_rfl
theorem flatL : flatD Tryz.prog 5 340 (Rows.laid_waybill_label_allowed (H := Unit)) = some cellsAllowed := by kernel_rfl
theorem etB : Tryz.prog.globalNamed "errors.errorType" = some 0 := by kernel_rfl
theorem rtB : (Tryz.prog.cutTypes.find? (·.1 == "internal/reflectlite.rtype")).map (·.2) = some 244 := by kernel_rfl
theorem oneRowB : ((List.range 414).filter fun t => Tryz.prog.rowNamed t [101, 114, 114, 111, 114]) = [28] := by kernel_rfl
theorem sizeB : Tryz.prog.types.size = 414 := by kernel_rfl
/-- the rows' list -/
def laidB : List (String × DataW Unit) := [("unicode/utf8.acceptRanges", Rows.laid_unicode_utf8_acceptRanges), ("errors.errorType", Rows.laid_errors_errorType), ("waybill/label.allowed", Rows.laid_waybill_label_allowed), ("unicode/utf8.first", Rows.laid_unicode_utf8_first)]
theorem partsB {W : World} (h : laidMetH Tryz.prog laidB W) : laidMet Tryz.prog [("unicode/utf8.acceptRanges", Rows.laid_unicode_utf8_acceptRanges), ("waybill/label.allowed", Rows.laid_waybill_label_allowed), ("unicode/utf8.first", Rows.laid_unicode_utf8_first)] W ∧ handlesMet Tryz.prog [("errors.errorType", Rows.laid_errors_errorType)] W := h
theorem Tabs.of {W : World} (h : laidMetH Tryz.prog laidB W) : Tabs W := by
  obtain ⟨hl, hh⟩ := partsB h
  refine ⟨laid_cells hl (.tail _ (.tail _ (.head _))) gF tF flatF, laid_cells hl (.head _) gA tA flatA, laid_cells hl (.tail _ (.head _)) gL tL flatL, ?_⟩
  obtain ⟨name, u, ty, e1, e2, e3, e4, e5⟩ := hh _ (List.mem_singleton.2 rfl)
  have en : name = [101, 114, 114, 111, 114] := (Option.some.inj e1).symm
  subst en
  obtain rfl := Option.some.inj (rtB.symm.trans e2)
  have hm : ty ∈ (List.range 414).filter fun t => Tryz.prog.rowNamed t [101, 114, 114, 111, 114] := List.mem_filter.2 ⟨List.mem_range.2 (by rw [← sizeB]; exact e3), e4⟩
  rw [oneRowB] at hm
  obtain rfl := List.mem_singleton.1 hm
  have hh : typeHandle Tryz.prog 28 = .pointer (some ⟨5, 28, none⟩) := by kernel_rfl
  rw [hh] at e5
  simpa using World.var?_cell etB e5 0
theorem block_of {W w : World} {i : Nat} {o : Obj} (hb : Below W.heap.size W w) (h : W.heap[i]? = some o) : w.heap[i]? = some o := by
  rw [hb.block i (Array.getElem?_eq_some_iff.1 h).1]; exact h
theorem Tabs.below {W w : World} (h : Tabs W) (hb : Below W.heap.size W w) : Tabs w := by
  obtain ⟨⟨a1, a2, a3⟩, ⟨c1, c2, c3⟩, ⟨d1, d2, d3⟩, e⟩ := h
  refine ⟨⟨a1, a2, block_of hb a3⟩, ⟨c1, c2, block_of hb c3⟩, ⟨d1, d2, block_of hb d3⟩, ?_⟩
  have := (Array.getElem?_eq_some_iff.1 a3).1
  rw [hb.cell (p := ⟨0, 0, none⟩) (by show 0 < W.heap.size; omega)]
  exact e
theorem Tabs.size {W : World} (h : Tabs W) : Tryz.prog.globals.size ≤ W.heap.size := by
  obtain ⟨e, fz, h⟩ := h.allowed
  have := (Array.getElem?_eq_some_iff.1 h).1
  rw [nG]; omega
/-- a closed run that uses the tables -/
theorem Tabs.runs {W w : World} (ht : Tabs W) (hw : Below W.heap.size W w) {fuel : Nat} {f : FuncId} {args : List Value} (ha : plainL args = true) {v : Value} (he : ∀ e2 e3 e4, saysV v (ev Tryz.prog orcNone fuel (.call f args (heap0 5 (tables e2 e3 e4)))) = true) :
    Calls Tryz.prog f ⟨args⟩ w fun e w' => e = .returned v ∧ Below w.heap.size w w' := by
  obtain ⟨⟨a1, a2, a3⟩, ⟨c1, c2, c3⟩, ⟨d1, d2, d3⟩, _⟩ := ht.below hw
  refine run_gives (P := Tryz.prog) (w := w) orcNone_ok (l := tables a1 c1 d1) (by
    intro y hy
    simp only [tables, List.mem_cons, List.not_mem_nil, or_false] at hy
    rcases hy with rfl | rfl | rfl
    · exact ⟨by rw [nG]; omega, by kernel_rfl, _, a3⟩
    · exact ⟨by rw [nG]; omega, by kernel_rfl, _, c3⟩
    · exact ⟨by rw [nG]; omega, by kernel_rfl, _, d3⟩) ha (by rw [nG]; exact he a1 c1 d1)
/-- a call told by a closed run -/
theorem Tabs.plain {W : World} (ht : Tabs W) {fuel : Nat} {f : FuncId} {args : List Value} {v : Value} (ha : plainL args = true) (hv : plain v = true) (he : ∀ e2 e3 e4, saysV v (ev Tryz.prog orcNone fuel (.call f args (heap0 5 (tables e2 e3 e4)))) = true)
    {ρ : Ren} {h : AHeap} {w : World} {args' : List Value} (hr : Rep Tryz.prog W ρ h w) (hargs : renL ρ args = some args') : Calls Tryz.prog f ⟨args'⟩ w (Gives Tryz.prog W ρ v h) :=
  orc_plain ha hv (fun w hw => (ht.runs hw ha he).mono fun e w' ⟨he, hB⟩ => by subst he; exact ⟨rfl, hB⟩) hr hargs
/-- a block's cells laid -/
def laying (l : List Value) (o : Obj) : Obj := match o with
  | .cells _ t frozen => .cells ⟨l⟩ t frozen
  | o => o
/-- the settled world, its tables as their initialisers lay them -/
noncomputable def laidWorld (os : Os) : World :=
  { World.holding Tryz.prog os ⟨#[], #[], []⟩ with
    heap := ((((World.holding Tryz.prog os ⟨#[], #[], []⟩).heap.modify 0 (laying [.iface 244 (.agg #[.pointer (some ⟨5, 28, none⟩)])])).modify 2 (laying cellsFirst)).modify 3 (laying cellsRanges)).modify 4 (laying cellsAllowed) }
end Go.Proofs.YtahbpehdjbmndaaGreatDoor
