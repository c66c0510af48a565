/-
  Closed runs: the documents' examples, a fixed app's texts; no condition.
-/
import Derived.Test.YtahbpehdjbmndaaGreatDoorSpokenB
import Derived.Test.YtahbpehdjbmndaaGreatDoorAoF
namespace Go.Proofs.YtahbpehdjbmndaaGreatDoor
open Go.Ev Go.RowKit
theorem run42 (e2 e3 e4 : TypeId) : saysV (.bool true) (ev Tryz.prog orcNone 100000 (.call 42 [] (heap0 5 (tables e2 e3 e4)))) = true := by kernel_rfl
theorem run184 (e2 e3 e4 : TypeId) : saysV (.tuple ⟨[.agg ⟨[.string ⟨⟨teamB⟩⟩, .string ⟨⟨bundB⟩⟩]⟩, .nilIface]⟩) (ev Tryz.prog orcNone 100000 (.call 184 [.string ⟨⟨appText⟩⟩] (heap0 5 (tables e2 e3 e4)))) = true := by kernel_rfl
theorem run187 (e2 e3 e4 : TypeId) : saysV .nilIface (ev Tryz.prog orcNone 100000 (.call 187 [.string ⟨⟨schB⟩⟩, .int .i64 0] (heap0 5 (tables e2 e3 e4)))) = true := by kernel_rfl
open Classical in
noncomputable def orcB : Orc := fun g args h =>
  if g = 42 ∧ args = [] then some (.val (.bool true) h) else
  if g = 184 ∧ args = [.string ⟨⟨appText⟩⟩] then some (.val (.tuple ⟨[.agg ⟨[.string ⟨⟨teamB⟩⟩, .string ⟨⟨bundB⟩⟩]⟩, .nilIface]⟩) h) else
  if g = 187 ∧ args = [.string ⟨⟨schB⟩⟩, .int .i64 0] then some (.val .nilIface h) else
  if g = 77 then asO args h else none
theorem orcB_law : LawB orcB := by
  refine ⟨⟨fun g hg a h => ?_, fun h => ?_, fun h => ?_⟩, fun h => ?_, fun a h => ?_⟩
  · unfold orcB
    have h1 : g ≠ 42 := by rintro rfl; exact absurd hg (by decide)
    have h2 : g ≠ 184 := by rintro rfl; exact absurd hg (by decide)
    have h3 : g ≠ 187 := by rintro rfl; exact absurd hg (by decide)
    have h4 : g ≠ 77 := by rintro rfl; exact absurd hg (by decide)
    rw [if_neg (fun h => h1 h.1), if_neg (fun h => h2 h.1), if_neg (fun h => h3 h.1), if_neg h4]
  · unfold orcB
    rw [if_neg (fun h => absurd h.1 (by decide)), if_pos ⟨rfl, rfl⟩]
  · unfold orcB
    rw [if_neg (fun h => absurd h.1 (by decide)), if_neg (fun h => absurd h.1 (by decide)), if_pos ⟨rfl, rfl⟩]
  · unfold orcB
    rw [if_pos ⟨rfl, rfl⟩]
  · unfold orcB
    rw [if_neg (fun h => absurd h.1 (by decide)), if_neg (fun h => absurd h.1 (by decide)), if_neg (fun h => absurd h.1 (by decide)), if_pos rfl]
theorem orcB_ok {W : World} (ht : Tabs W) : OrcOk Tryz.prog W orcB := by
  intro g args h r hv ρ w args' hr ha
  unfold orcB at hv
  split at hv
  · rename_i hc
    obtain ⟨rfl, rfl⟩ := hc
    cases hv
    exact ht.plain rfl rfl run42 hr ha
  split at hv
  · rename_i hc
    obtain ⟨rfl, rfl⟩ := hc
    cases hv
    exact ht.plain rfl rfl run184 hr ha
  split at hv
  · rename_i hc
    obtain ⟨rfl, rfl⟩ := hc
    cases hv
    exact ht.plain rfl rfl run187 hr ha
  split at hv
  · rename_i hc
    subst hc
    obtain ⟨v, h', rfl, hcall⟩ := asO_ok ht.handle hv hr ha
    exact hcall
  · cases hv
end Go.Proofs.YtahbpehdjbmndaaGreatDoor
