/-
  The walk of the law AasaApps; no condition.
-/
import Derived.Test.YtkggojeophpdjaaGreatDoorAppsRef
namespace Go.Proofs.YtkggojeophpdjaaGreatDoor
open Go.Ev
/-- what is known of the argument, before its lengths are looked at -/
structure DetsAny (h : AHeap) (v : Value) (ds : List DetD) : Prop where
  row : Elems h 2 v (ds.map detCells)
  apps : ∀ d ∈ ds, Elems h 2 d.va (d.apps.map appCells)
  one : ∀ d ∈ ds, oneCell d.va = true ∧ oneCell d.vr = true
  big : ds.length ≤ 9223372036854775807
theorem DetsAny.ext {h h' : AHeap} (a : Ext h h') {v : Value} {ds : List DetD} (hd : DetsAny h v ds) : DetsAny h' v ds := ⟨hd.row.ext a, fun d hm => (hd.apps d hm).ext a, hd.one, hd.big⟩
theorem Dets.ext {h h' : AHeap} (a : Ext h h') {v : Value} {ds : List DetD} (hd : Dets h v ds) : Dets h' v ds := ⟨hd.row.ext a, fun d hm => (hd.apps d hm).ext a, hd.few, hd.less, hd.one⟩
theorem allApps_len {ds : List DetD} (hf : ds.length ≤ 60) (hl : ∀ d ∈ ds, d.apps.length ≤ 20) : (allApps ds).length ≤ 1200 := by
  have := dets_len hl ds.length (Nat.le_refl _)
  rw [List.take_length] at this
  unfold allApps
  omega
set_option maxRecDepth 100000 in
theorem law_walk {v : Value} {h : AHeap} {ds : List DetD} (hd : DetsAny h v ds) : CallW Tryz.prog orcLaw 4 [v] h fun r _ => r = .bool true := by
  refine enterW rfl ?_
  have hd0 := hd
  obtain ⟨⟨based, capd, rfl, hrow⟩, happs, hone, hbig⟩ := hd
  simp only [List.length_map] at hrow hd0 ⊢
  conv => whnf
  refine orcW rfl ?_
  conv => whnf
  refine CondW.mk (fun hf => by cases hf) (fun _ => ?_)
  conv => whnf
  refine CondW.mk (fun hlt0 => ?_) (fun hlt0 => ?_) <;> (try simp at hlt0) <;> conv => whnf
  · rfl
  refine LoopW.rule (fun m tm mk h' => ∃ (k : Nat), Fr 5 [(0, .slice based ds.length capd), (11, .slice based ds.length capd), (12, .int .i64 (ds.length : Int)), (13, .int .i64 (k : Int))] tm ∧ mk = [] ∧
      Ext h h' ∧ m = ds.length - k ∧ k ≤ ds.length ∧ ∀ (j : Nat) d, j < k → ds[j]? = some d → d.apps.length ≤ 20) _ ⟨0, Fr.mk rfl, rfl, Ext.refl, rfl, Nat.zero_le _, fun j d hj => absurd hj (Nat.not_lt_zero _)⟩ ?_
  rintro m tm mk h1 ⟨k, ⟨g, rfl⟩, rfl, hext, rfl, hk, hfew⟩
  conv => whnf
  refine CondW.mk (fun hlt => ?_) (fun hlt => ?_) <;> (try simp at hlt) <;> conv => whnf
  · obtain ⟨i, o, rfl, p1, p2⟩ := hrow k (detCells ds[k]) (by simp [hlt])
    obtain ⟨base2, cap2, hva, hrow2⟩ := happs ds[k] (List.getElem_mem hlt)
    obtain ⟨ho1, ho2⟩ := hone ds[k] (List.getElem_mem hlt)
    simp only [List.length_map] at hva
    refine NeedW.mk ⟨by omega, by omega⟩ ?_
    conv => whnf
    refine LdW.cutA (by rw [rowCut_ext hext p1]; simpa using p2) ?_
    conv => whnf
    refine StW.of get_self (by show oneCells [ds[k].va, ds[k].vr] = true; simp [oneCells, ho1, ho2]) rfl ?_
    conv => whnf
    refine LdW.of get_put_self (partOf_one (v := .slice base2 ds[k].apps.length cap2) (by rw [← hva]; rfl)) ?_
    conv => whnf
    refine CondW.mk (fun hgt => ?_) (fun hgt => ?_) <;> (try simp at hgt) <;> conv => whnf
    · rfl
    · refine ArW.small (by omega) ?_
      conv => whnf
      refine ⟨_, ?_, k + 1, Fr.mk rfl, rfl, (hext.push).put hext.next, rfl, hlt, fun j d hj hx => ?_⟩
      · omega
      · by_cases e : j = k
        · subst e
          rw [List.getElem?_eq_getElem hlt] at hx; cases hx
          omega
        · exact hfew j d (by omega) hx
  · have hD : Dets h (.slice based ds.length capd) ds := ⟨hd0.row, happs, by omega, fun d hm => by
      obtain ⟨j, hj, rfl⟩ := List.getElem_of_mem hm
      exact hfew j _ (by omega) (List.getElem?_eq_getElem hj), hone⟩
    refine OpW.mk _ _ rfl ?_
    conv => whnf
    refine StW.of get_self (by kernel_rfl) rfl ?_
    conv => whnf
    have hE1 : Ext h ((h1.push (.cells (cellsL (.agg ⟨[.slice none 0 0, .slice none 0 0]⟩)) 27 true true)).put h1.next (.cells [.slice based ds.length capd, .slice none 0 0] 27 true true)) := (hext.push).put hext.next
    have hg1 : ((h1.push (.cells (cellsL (.agg ⟨[.slice none 0 0, .slice none 0 0]⟩)) 27 true true)).put h1.next (.cells [.slice based ds.length capd, .slice none 0 0] 27 true true)).get h1.next = some (.cells [.slice based ds.length capd, .slice none 0 0] 27 true true) := get_put_self
    have hlt1 : h1.next < ((h1.push (.cells (cellsL (.agg ⟨[.slice none 0 0, .slice none 0 0]⟩)) 27 true true)).put h1.next (.cells [.slice based ds.length capd, .slice none 0 0] 27 true true)).next := by simp
    refine DrawW.full _ (by kernel_rfl) rfl ?_
    conv => whnf
    refine LdW.of hg1 (partOf_agg (Nat.le_refl 2)) ?_
    conv => whnf
    have hlen := allApps_len hD.few hD.less
    refine apps_walk (ds := ds) (hD.ext hE1) fun base2 h2 hown hE2 => ?_
    conv => whnf
    refine LdW.of (hE2.at hlt1 hg1) (partOf_agg (Nat.le_refl 2)) ?_
    conv => whnf
    refine ref_walk (ds := ds) (hD.ext (hE1.trans hE2)) fun base3 h3 hown3 hE3 => ?_
    conv => whnf
    refine same_apps (xs := allApps ds) ?_ ?_ (by omega) ?_
    · have := (hown.later hE3).elems (s := 2) (cap := (allApps ds).length) mapLen
      rw [List.length_map] at this
      exact this
    · have := hown3.elems (s := 2) (cap := (allApps ds).length) mapLen
      rw [List.length_map] at this
      exact this
    conv => whnf
    refine SameW.mk _ (load_run (i := h1.next) (off := 0) rfl (show loadAt _ (.agg 2) _ _ = _ from loadAt_agg (rowCut_cells hg1 (Nat.le_refl 2)))) ?_
    conv => whnf
    rfl
end Go.Proofs.YtkggojeophpdjaaGreatDoor
