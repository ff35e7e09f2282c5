/- What a valid world gives; what the told functions answer. No program in sight. -/
import Derived.Test.YtknfpigaognklaaGreatDoorPw
namespace Go.Proofs.YtknfpigaognklaaGreatDoor
structure Facts (M : WorldM) : Prop where
  tree : Tree M
  gok : GOk M
  ear : Ear M
  c4 : M.cpus.length ≤ 4
  c1 : 1 ≤ M.cpus.length
  t12 : M.tasks.length = 12
  tk : ∀ t, t < 12 → (tsk M t).st ≠ 0 → ∃ g c : Nat, (tsk M t).gr = g ∧ g < 8 ∧ (grp M g).used = true ∧ (tsk M t).cpu = c ∧ c < M.cpus.length
  band : ∀ g, g < 8 → (grp M g).used = true → (grp M g).band.quota ≠ 0 → bandB (grp M g).band = true
theorem facts_of {M : WorldM} (h : worldB M = true) : Facts M := by
  simp only [worldB, worldH, worldL, Bool.and_eq_true, beq_iff_eq] at h
  obtain ⟨⟨⟨⟨⟨h1, h2⟩, h3⟩, h4⟩, h5⟩, ⟨h6, h7⟩, h8, h9⟩ := h
  have hT := tree_of h4
  have hG := gok_of h6
  rw [inR_iff] at h2
  have hc : M.cpus.length ≤ 4 := by omega
  have hr := rest_same hT hG (gz_of h6) hc
  rw [h7, h8, h9] at hr
  simp only [Bool.and_true, Bool.and_eq_true] at hr
  refine ⟨hT, hG, ear_of hT hr.1 hr.2.1, hc, by omega, h3, fun t ht hst => ?_, fun g hg hu hq => ?_⟩
  · have := List.all_eq_true.1 h7 t (List.mem_range.2 (by omega))
    rw [taskB, if_neg hst, Bool.and_eq_true, Bool.and_eq_true] at this
    obtain ⟨⟨t1, t2⟩, _⟩ := this
    simp only [taskB1, Bool.and_eq_true, usedI, decide_eq_true_eq] at t1
    simp only [taskB2, Bool.and_eq_true] at t2
    obtain ⟨hcl, hcu⟩ := where_has hc t2.2
    have := hT.len
    exact ⟨(tsk M t).gr.toNat, (tsk M t).cpu.toNat, by omega, by omega, t1.1.1.1.2.2, by omega, by omega⟩
  · have := List.all_eq_true.1 h6 g (List.mem_range.2 hg)
    rw [groupB, if_pos hu] at this
    simp only [grpQ, if_neg hq, Bool.and_eq_true] at this
    exact this.2.1.1.1.1
def lagG (M : WorldM) (g c : Int) : Int × Bool := if (worldB M && usedI M g && !(g == 0) && inR c 0 (M.cpus.length - 1) && (she M g.toNat c.toNat).on) = true then ((she M g.toNat c.toNat).v - (she M (par M g.toNat) c.toNat).floor, true) else (0, false)
def lagT (M : WorldM) (t : Int) : Int × Bool := if (worldB M && taskIn M t && ((tsk M t.toNat).st == 1)) = true then ((tsk M t.toNat).v - (she M (tsk M t.toNat).gr.toNat (tsk M t.toNat).cpu.toNat).floor, true) else (0, false)
def leftG (M : WorldM) (g : Int) : Int := if (worldB M && usedI M g && !((grp M g.toNat).band.quota == 0)) = true then (grp M g.toNat).band.quota - (grp M g.toNat).band.spent else -1
end Go.Proofs.YtknfpigaognklaaGreatDoor
