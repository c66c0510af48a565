/-
  AasaApps, for every list of details, in every memory that holds the listed tables: it returns true; no condition.
-/
import Derived.Test.YtkggojeophpdjaaGreatDoorAppsLaw
import Derived.Test.YtkggojeophpdjaaGreatDoorLaidAt
import Derived.Test.YtkggojeophpdjaaGreatDoorEvCard
import Derived.Test.YtkggojeophpdjaaGreatDoorCards
import Derived.Test.YtkggojeophpdjaaGreatDoorTie
namespace Go.Proofs.YtkggojeophpdjaaGreatDoor.fnAasaApps
open Go.ChangeShapes Go.WideShapes Go.ChangeAt Go.RowKit Go.Ev

/-! ### The argument -/
theorem u24 : Tryz.prog.underlying 24 = some (.slice 35) := by kernel_rfl
theorem c35 : Tryz.prog.cellsOf 35 = 2 := by kernel_rfl
theorem u32 : Tryz.prog.underlying 32 = some (.slice 37) := by kernel_rfl
theorem u33 : Tryz.prog.underlying 33 = some (.slice 40) := by kernel_rfl
theorem c37 : Tryz.prog.cellsOf 37 = 2 := by kernel_rfl
theorem u9 : Tryz.prog.underlying 9 = some .string := by kernel_rfl
theorem parts35 : partsOf Tryz.prog 35 = some ([(32, 0, 1), (33, 1, 1)], 2) := by kernel_rfl
theorem parts37 : partsOf Tryz.prog 37 = some ([(9, 0, 1), (9, 1, 1)], 2) := by kernel_rfl
theorem two {c : List Value} (h : c.length = 2) : ∃ a b, c = [a, b] := by
  match c, h with
  | [a, b], _ => exact ⟨a, b, rfl⟩
set_option maxRecDepth 100000 in
theorem seen37 {h : AHeap} {n : Nat} {c : List Value} (hc : Seen Tryz.prog h (n + 1) 37 c) : ∃ a : AppD, c = appCells a ∧ True := by
  obtain ⟨hl, hp⟩ := seen_parts parts37 hc
  obtain ⟨a, b, rfl⟩ := two hl
  obtain ⟨s, h1, _⟩ := seen_string u9 (hp (9, 0, 1) (by simp))
  obtain ⟨t, h2, _⟩ := seen_string u9 (hp (9, 1, 1) (by simp))
  simp at h1 h2
  exact ⟨(s, t), by rw [h1, h2]; rfl, trivial⟩
set_option maxRecDepth 100000 in
theorem seen35 {h : AHeap} {n : Nat} {c : List Value} (hc : Seen Tryz.prog h (n + 3) 35 c) :
    ∃ d : DetD, c = detCells d ∧ (Elems h 2 d.va (d.apps.map appCells) ∧ oneCell d.va = true ∧ oneCell d.vr = true) := by
  obtain ⟨hl, hp⟩ := seen_parts parts35 hc
  obtain ⟨a, b, rfl⟩ := two hl
  obtain ⟨v, xs, h1, h2, _, _, h3⟩ := seen_slice u32 c37 (hp (32, 0, 1) (by simp)) (cells := appCells) (Q := fun _ => True) fun c hc => seen37 hc
  have h4 := hp (33, 1, 1) (by simp)
  simp only [Seen, u33] at h4
  obtain ⟨base, len, cap, h5, _⟩ := h4
  simp at h1 h5
  exact ⟨⟨a, b, xs⟩, rfl, by rw [h1]; exact h2, by rw [h1]; exact h3, by rw [h5]; rfl⟩
theorem own : ownKnob Tryz.prog.godebug = none := by kernel_rfl
theorem laidOut : laidOutB Tryz.prog = true := by kernel_rfl
theorem params_ok : Tryz.f4.params.toList.all (fun t => Tryz.prog.readableRec t && decide (t < Tryz.prog.types.size)) = true := by kernel_rfl
theorem params_simple : Tryz.f4.params.toList.all (simple Tryz.prog 12) = true := by kernel_rfl
theorem u4 : Tryz.prog.underlying 4 = some .bool := by kernel_rfl
theorem res4 : Tryz.f4.resultTypes = #[4] := by kernel_rfl
set_option maxRecDepth 100000 in
theorem orcLaw_ok {W : World} (ht : Tabs W) : OrcOk Tryz.prog W orcLaw := by
  intro g args v hv
  unfold orcLaw at hv
  cases hg : Nat.beq g 8 with
  | false => simp [hg] at hv
  | true =>
    simp only [hg, cond_true] at hv
    have hg := Nat.eq_of_beq_eq_true hg
    subst hg
    split at hv
    · cases hv
      refine ⟨rfl, rfl, fun w hw => (speaks (ht.below hw)).mono fun e w' ⟨he, hB⟩ => ?_⟩
      subst he
      exact ⟨rfl, hB⟩
    · cases hv
set_option maxRecDepth 100000 in
theorem contract (H : Type) (enc : TypeId × Value → H) (W : World) (base : Nat) (args : Array Value) (ds gs : List (DataW H)) (before : List MemPlace)
    (hval : ∀ (j : Nat) t v, Tryz.f4.params[j]? = some t → args[j]? = some v → Value.okWide Tryz.prog W .any base t v)
    (hW : DataW.Whole enc Tryz.prog Tryz.f4.params.toList Rows.aasaAppsSpec.vars false W args.toList ds gs before) (hL : laidMetH Tryz.prog Rows.aasaAppsRow.laid W) (hS : W.ShapedOpen Tryz.prog) :
    Calls Tryz.prog 4 args W fun e W' => ∃ v, e = .returned v ∧ Rows.aasaAppsSpec.post enc Tryz.prog Tryz.f4 false true false false W args v W' := by
  have hT : Tabs W := Tabs.of (show laidMet Tryz.prog Rows.aasaAppsRow.laid W from hL) hS (.tail _ (.head _)) (.tail _ (.tail _ (.head _))) (.tail _ (.tail _ (.tail _ (.head _)))) (.head _)
  refine law_contract laidOut params_ok params_simple hW rfl (fun ds hd => ?_) res4 u4 hval (orcLaw_ok hT) hT.size fun vs hs => ?_
  · match ds, hd with
    | [d], _ => rfl
  · match vs, hs with
    | [v], ⟨⟨hs, hv⟩, _⟩ =>
      rw [shp_slice u24 hv] at hs
      obtain ⟨v', xs, h1, h2, h3, h4, h5⟩ := seen_slice u24 c35 hs (cells := detCells) (Q := fun d => Elems (Ev.start W) 2 d.va (d.apps.map appCells) ∧ oneCell d.va = true ∧ oneCell d.vr = true) fun c hc => seen35 hc
      cases h1
      exact law_walk ⟨h2, fun d hm => (h3 d hm).1, fun d hm => (h3 d hm).2, h4⟩
theorem laid_met (os : Os) : laidMet Tryz.prog Rows.aasaAppsRow.laid ((laidWorld os).forCall (fun _ _ => 0) ⟨#[], #[.slice none 0 0], []⟩).memory :=
  laidMet_of_run' 8 (by kernel_rfl) (by kernel_rfl)
theorem reads (os : Os) {H : Type} (enc : TypeId × Value → H) : ∃ places, DataW.whole enc Tryz.prog ((laidWorld os).forCall (fun _ _ => 0) ⟨#[], #[.slice none 0 0], []⟩).memory Tryz.f4.params.toList Rows.aasaAppsSpec.vars false #[Value.slice none 0 0].toList 8 = some ([.nil], [], places) :=
  ⟨[], by kernel_rfl⟩
set_option maxRecDepth 100000 in
theorem lifted (os : Os) (started : os.Started) (H : Type) (enc : TypeId × Value → H) (F : Stop.Interp) :
    ReturnsInHanded {} Tryz.checked os 4 .any ((OpenSpec.ofChange Rows.aasaAppsSpec).preRow enc Tryz.prog Tryz.f4 Rows.aasaAppsRow.domain false Rows.aasaAppsRow.laid) (((OpenSpec.ofChange Rows.aasaAppsSpec).at F).post enc Tryz.prog Tryz.f4 false true false false) := by
  obtain ⟨places, hx⟩ := reads os enc
  refine returnsInHanded_of_row (C := Tryz.checked) (s := OpenSpec.ofChange Rows.aasaAppsSpec) own started (by kernel_rfl) Tryz.func4
    (witness_row_at (enc := enc) (C := Tryz.checked) false (laidWorld os) #[.slice none 0 0] rfl (by kernel_rfl) (by kernel_rfl) (by kernel_rfl)
      (OpenSpec.preRow_of_cond 8 hx (by kernel_rfl) (fun k hk => by cases hk) (by kernel_rfl) (laid_met os))) ?_
  intro W base args ds gs before hval hW _ _ _ hL hS _
  exact contract H enc W base args ds gs before hval hW hL hS
theorem said : Rows.AasaAppsSaid :=
  OpenClaim.holds_of_cond 4 Tryz.f4 rfl rfl rfl rfl rfl rfl rfl ⟨rfl, rfl, rfl, rfl, rfl⟩ rfl rfl rfl rfl rfl (by kernel_rfl) Tryz.func4 (by kernel_rfl)
    (of_decide_eq_true (by kernel_rfl)) (by unfold Func.isWrapper; first | (rw [if_pos (by decide +kernel)]; kernel_rfl) | (rw [if_neg (by decide +kernel)]; exact ⟨rfl, rfl⟩))
    (fun os started H enc _ F => by rw [OpenClaim.pre_eq_preRow]; exact lifted os started H enc F)
/-- No parameter wants a stand-in; the program's own looks are off. -/
theorem plain (f : FuncId) (fn : Func) (hf : Tryz.pinned.checked.prog.funcNamed "waybill/waybilllaw20.AasaApps" = some f) (hfn : Tryz.pinned.checked.prog.funcs[f]? = some fn) :
    true = Tryz.pinned.checked.prog.looks [] ∧ ∀ (j : Nat) t, fn.params[j]? = some t → Tryz.pinned.checked.prog.wantsStandIn t = false := by
  obtain rfl : f = 4 := Option.some.inj ((show Tryz.prog.funcNamed "waybill/waybilllaw20.AasaApps" = some 4 by kernel_rfl).symm.trans hf) |>.symm
  obtain rfl : fn = Tryz.f4 := (Option.some.inj (Tryz.func4.symm.trans hfn)).symm
  refine ⟨by kernel_rfl, fun j t ht => ?_⟩
  have hall : Tryz.f4.params.toList.all (fun t => !Tryz.prog.wantsStandIn t) = true := by kernel_rfl
  have := List.all_eq_true.1 hall t (List.mem_of_getElem? (by rw [Array.getElem?_toList]; exact ht))
  exact (by simpa using this : Tryz.prog.wantsStandIn t = false)
/-- ████ THE CARD ████ -/
theorem card : Rows.AasaAppsCardSaid :=
  Claim7.holds_tied_plain_at .later [] _ _ _ _ said (fun _ h => by cases h) (by kernel_rfl) (fun _ h => by cases h) aasaApps_row_tie rfl ⟨rfl, rfl⟩ (by kernel_rfl) rfl plain (by kernel_rfl)
end Go.Proofs.YtkggojeophpdjaaGreatDoor.fnAasaApps
