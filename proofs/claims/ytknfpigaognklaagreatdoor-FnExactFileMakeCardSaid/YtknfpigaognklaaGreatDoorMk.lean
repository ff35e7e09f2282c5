/- A whole world, plain. No program in sight. -/
import Derived.Test.YtknfpigaognklaaGreatDoorMt
namespace Go.Proofs.YtknfpigaognklaaGreatDoor
def worldH (M : WorldM) : Bool := inR M.now 0 100000000000000000 && inR M.cpus.length 1 4 && (M.tasks.length == 12) && treeB M && !(ups M == 0)
def shelvesB (M : WorldM) : Bool := (List.range 8).all fun g => (List.range (grp M g).shelves.length).all (shelfB M g)
def cpusB (M : WorldM) : Bool := (List.range M.cpus.length).all (cpuB M)
def worldL (M : WorldM) : Bool := (List.range 8).all (groupB M) && (List.range M.tasks.length).all (taskB M) && (shelvesB M && cpusB M)
/-- a valid world -/
def worldB (M : WorldM) : Bool := worldH M && worldL M
theorem gok_of {M : WorldM} (h : (List.range 8).all (groupB M) = true) : GOk M := by
  have hall : ∀ k, k < 8 → groupB M k = true := fun k hk => List.all_eq_true.1 h k (List.mem_range.2 hk)
  constructor
  · intro g hg hu
    have h1 := hall g hg
    simp only [groupB, hu, if_true, Bool.and_eq_true, grpU, beq_iff_eq] at h1
    have := h1.1.1.2
    omega
  · intro g hg hu hq
    have h1 := hall g hg
    have hq0 : (grp M g).band.quota ≠ 0 := by omega
    simp only [groupB, hu, if_true, Bool.and_eq_true, grpQ, if_neg hq0, bandB, bandHead, beq_iff_eq] at h1
    obtain ⟨_, ⟨⟨⟨⟨⟨⟨⟨⟨_, _⟩, h5⟩, _⟩, _⟩, _⟩, _⟩, h6⟩, _⟩⟩ := h1
    omega
theorem gz_of {M : WorldM} (h : (List.range 8).all (groupB M) = true) : ∀ k, k < 8 → (grp M k).used = false → (grp M k).shelves.length = 0 := by
  intro k hk hu
  have h1 : groupB M k = true := List.all_eq_true.1 h k (List.mem_range.2 hk)
  simp only [groupB, hu, grpZ] at h1
  have := h1
  simp at this
  simp [this]
end Go.Proofs.YtknfpigaognklaaGreatDoor
