/-
  AppsOrder, for every two bytes, in every memory that holds the listed tables: it returns true; no condition.
-/
import Derived.Test.YtahbpehdjbmndaaGreatDoorRunsB
import Derived.Test.YtahbpehdjbmndaaGreatDoorAoFacts
import Derived.Test.YtahbpehdjbmndaaGreatDoorEvCard
import Derived.Test.YtahbpehdjbmndaaGreatDoorCards
import Derived.Test.YtahbpehdjbmndaaGreatDoorTie
namespace Go.Proofs.YtahbpehdjbmndaaGreatDoor.fnAppsOrder
open Go.ChangeShapes Go.WideShapes Go.ChangeAt Go.RowKit Go.Ev
theorem params_ok : Tryz.f11.params.toList.all (fun t => Tryz.prog.readableRec t && decide (t < Tryz.prog.types.size)) = true := by kernel_rfl
theorem params_simple : Tryz.f11.params.toList.all (simple Tryz.prog 12) = true := by kernel_rfl
theorem u4 : Tryz.prog.underlying 4 = some .bool := by kernel_rfl
theorem u5 : Tryz.prog.underlying 5 = some (.int .u8) := by kernel_rfl
theorem res11 : Tryz.f11.resultTypes = #[4] := by kernel_rfl
set_option maxRecDepth 100000 in
theorem byte_arg {v : Value} {n : Nat} {h : AHeap} (hs : Seen Tryz.prog h n 5 v.cells.toList) (hv : Shp Tryz.prog 5 v) : ∃ x : Nat, x < 256 ∧ v = .int .u8 (x : Int) := by
  rw [shp_int u5 hv] at hs
  obtain ⟨z, h1, h2, h3⟩ := seen_int u5 hs
  cases h1
  have h2 : (0 : Int) ≤ z := h2
  have h3 : z ≤ (255 : Int) := h3
  exact ⟨z.toNat, by omega, by congr; omega⟩
set_option maxRecDepth 100000 in
theorem contract (H : Type) (enc : TypeId × Value → H) (W : World) (base : Nat) (args : Array Value) (ds gs : List (DataW H)) (before : List MemPlace)
    (hval : ∀ (j : Nat) t v, Tryz.f11.params[j]? = some t → args[j]? = some v → Value.okWide Tryz.prog W .any base t v)
    (hW : DataW.Whole enc Tryz.prog Tryz.f11.params.toList Rows.appsOrderSpec.vars false W args.toList ds gs before) (hL : laidMetH Tryz.prog Rows.appsOrderRow.laid W) :
    Calls Tryz.prog 11 args W fun e W' => ∃ v, e = .returned v ∧ Rows.appsOrderSpec.post enc Tryz.prog Tryz.f11 false true false false W args v W' := by
  have hT : Tabs W := Tabs.of (show laidMetH Tryz.prog laidB W from hL)
  refine law_contract laidOutP params_ok params_simple hW rfl (fun ds hd => ?_) res11 u4 hval (orcB_ok hT) hT.size fun vs hs => ?_
  · match ds, hd with
    | [d, e], _ => rfl
  · match vs, hs with
    | [v, u], ⟨⟨hs, hv⟩, ⟨hs2, hv2⟩, _⟩ =>
      obtain ⟨x, hx, rfl⟩ := byte_arg hs hv
      obtain ⟨y, hy, rfl⟩ := byte_arg hs2 hv2
      exact law_w orcB_law hx hy
theorem laid_met (os : Os) : laidMetH Tryz.prog Rows.appsOrderRow.laid ((laidWorld os).forCall (fun _ _ => 0) ⟨#[], #[.int .u8 0, .int .u8 0], []⟩).memory :=
  laidMetH_of_parts (laidMet_of_run' 8 (by kernel_rfl) (by kernel_rfl)) (by kernel_rfl)
theorem reads (os : Os) {H : Type} (enc : TypeId × Value → H) : ∃ places, DataW.whole enc Tryz.prog ((laidWorld os).forCall (fun _ _ => 0) ⟨#[], #[.int .u8 0, .int .u8 0], []⟩).memory Tryz.f11.params.toList Rows.appsOrderSpec.vars false #[Value.int .u8 0, Value.int .u8 0].toList 8 = some ([.lit (.int .u8 0), .lit (.int .u8 0)], [], places) :=
  ⟨[], by kernel_rfl⟩
set_option maxRecDepth 100000 in
theorem lifted (os : Os) (started : os.Started) (H : Type) (enc : TypeId × Value → H) (F : Stop.Interp) :
    ReturnsInHanded {} Tryz.checked os 11 .any ((OpenSpec.ofChange Rows.appsOrderSpec).preRow enc Tryz.prog Tryz.f11 Rows.appsOrderRow.domain false Rows.appsOrderRow.laid) (((OpenSpec.ofChange Rows.appsOrderSpec).at F).post enc Tryz.prog Tryz.f11 false true false false) := by
  obtain ⟨places, hx⟩ := reads os enc
  refine returnsInHanded_of_row (C := Tryz.checked) (s := OpenSpec.ofChange Rows.appsOrderSpec) ownP started (by kernel_rfl) Tryz.func11
    (witness_row_at (enc := enc) (C := Tryz.checked) false (laidWorld os) #[.int .u8 0, .int .u8 0] rfl (by kernel_rfl) (by kernel_rfl) (by kernel_rfl)
      (OpenSpec.preRow_of_cond 8 hx (by kernel_rfl) (fun k hk => by cases hk) (by kernel_rfl) (laid_met os))) ?_
  intro W base args ds gs before hval hW _ _ _ hL hS _
  exact contract H enc W base args ds gs before hval hW hL
theorem said : Rows.AppsOrderSaid :=
  OpenClaim.holds_of_cond 11 Tryz.f11 rfl rfl rfl rfl rfl rfl rfl ⟨rfl, rfl, rfl, rfl, rfl⟩ rfl rfl rfl rfl rfl (by kernel_rfl) Tryz.func11 joined
    (of_decide_eq_true (by kernel_rfl)) (by unfold Func.isWrapper; first | (rw [if_pos (by decide +kernel)]; kernel_rfl) | (rw [if_neg (by decide +kernel)]; exact ⟨rfl, rfl⟩))
    (fun os started H enc _ F => by rw [OpenClaim.pre_eq_preRow]; exact lifted os started H enc F)
/-- No parameter wants a stand-in. -/
theorem plain (f : FuncId) (fn : Func) (hf : Tryz.pinned.checked.prog.funcNamed "waybill/waybilllaw25.AppsOrder" = some f) (hfn : Tryz.pinned.checked.prog.funcs[f]? = some fn) :
    true = Tryz.pinned.checked.prog.looks [] ∧ ∀ (j : Nat) t, fn.params[j]? = some t → Tryz.pinned.checked.prog.wantsStandIn t = false := by
  obtain rfl : f = 11 := Option.some.inj ((show Tryz.prog.funcNamed "waybill/waybilllaw25.AppsOrder" = some 11 by kernel_rfl).symm.trans hf) |>.symm
  obtain rfl : fn = Tryz.f11 := (Option.some.inj (Tryz.func11.symm.trans hfn)).symm
  refine ⟨looksP, fun j t ht => ?_⟩
  have hall : Tryz.f11.params.toList.all (fun t => !Tryz.prog.wantsStandIn t) = true := by kernel_rfl
  have := List.all_eq_true.1 hall t (List.mem_of_getElem? (by rw [Array.getElem?_toList]; exact ht))
  exact (by simpa using this : Tryz.prog.wantsStandIn t = false)
/-- ████ THE CARD ████ -/
theorem card : Rows.AppsOrderCardSaid :=
  Claim7.holds_tied_plain_at .later [] _ _ _ _ said (fun _ h => by cases h) wfText (fun _ h => by cases h) appsOrder_row_tie rfl ⟨rfl, rfl⟩ mainP rfl plain goesBy
end Go.Proofs.YtahbpehdjbmndaaGreatDoor.fnAppsOrder
