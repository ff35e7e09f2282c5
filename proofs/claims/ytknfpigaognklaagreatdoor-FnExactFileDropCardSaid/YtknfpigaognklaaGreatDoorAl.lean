/- Helpers for laws over worlds: what the law's own size test gives. No condition. -/
import Derived.Test.YtknfpigaognklaaGreatDoorPf
import Derived.Test.YtknfpigaognklaaGreatDoorI12
import Derived.Test.YtknfpigaognklaaGreatDoorS9
import Derived.Test.YtknfpigaognklaaGreatDoorOw
import Derived.Test.YtknfpigaognklaaGreatDoorLx
import Derived.Test.YtknfpigaognklaaGreatDoorZr
namespace Go.Proofs.YtknfpigaognklaaGreatDoor
open Go.RowKit Go.Sort
theorem fitG_of {M : WorldM} (h : WFit M) : FitG M := by
  obtain ⟨h1, h2, h3, h4⟩ := h
  refine ⟨h1, h2, h3, fun k hk => ?_, fun k hk => ?_, fun k hk => ?_, fun k hk => ?_⟩
  all_goals have := h4 k hk
  all_goals rw [grp_eq hk] at this
  · exact this.2.1.1
  · exact this.2.1.2
  · exact this.2.2
  · exact this.1
theorem nextOk_of {M : WorldM} (h : ∀ k (hk : k < M.groups.length), M.groups[k].next ≤ 9223372036854775807) : NextOk M := by
  intro k _
  by_cases hk : k < M.groups.length
  · rw [← grp_eq hk]; exact h k hk
  · rw [grp, List.getD_eq_getElem?_getD, List.getElem?_eq_none (by omega)]; decide
end Go.Proofs.YtknfpigaognklaaGreatDoor
