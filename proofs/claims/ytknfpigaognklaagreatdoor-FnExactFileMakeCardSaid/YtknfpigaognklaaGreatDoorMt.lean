/- A tree that the test accepts is one. No program in sight. -/
import Derived.Test.YtknfpigaognklaaGreatDoorMw
namespace Go.Proofs.YtknfpigaognklaaGreatDoor
theorem depL_spec (M : WorldM) : ∀ (r : Nat) (n g : Int), depL M r n g ≠ -1 →
    ∃ d : Nat, depL M r n g = n + d ∧ usedI M g = true ∧ (∀ f : Nat, d ≤ f → dpF M f g.toNat = d) ∧
      (g ≠ 0 → ∃ d' : Nat, d = d' + 1 ∧ usedI M (grp M g.toNat).parent = true ∧ (∀ f : Nat, d' ≤ f → dpF M f (grp M g.toNat).parent.toNat = d'))
  | 0, _, _, h => absurd rfl h
  | r + 1, n, g, h => by
    by_cases hu : usedI M g = true
    · by_cases h0 : g = 0
      · subst h0
        refine ⟨0, by simp [depL, hu], hu, fun f _ => by cases f <;> rfl, fun h => absurd rfl h⟩
      · have e : depL M (r + 1) n g = depL M r (n + 1) (grp M g.toNat).parent := by rw [depL, if_pos hu, if_neg h0]
        rw [e] at h
        obtain ⟨d, h1, h2, h3, _⟩ := depL_spec M r (n + 1) _ h
        have hg : g.toNat ≠ 0 := by
          simp only [usedI, Bool.and_eq_true, decide_eq_true_eq] at hu
          omega
        refine ⟨d + 1, by rw [e, h1]; omega, hu, fun f hf => ?_, fun _ => ⟨d, rfl, h2, h3⟩⟩
        obtain ⟨f', rfl⟩ : ∃ f', f = f' + 1 := ⟨f - 1, by omega⟩
        simp only [dpF, if_neg hg]
        rw [par, h3 f' (by omega)]
    · exact absurd (by simp [depL, hu]) h
theorem tree_of {M : WorldM} (h : treeB M = true) : Tree M := by
  simp only [treeB, Bool.and_eq_true, List.all_eq_true, List.mem_range, Bool.or_eq_true, beq_iff_eq, List.isEmpty_iff] at h
  obtain ⟨⟨⟨⟨h1, h2⟩, h3⟩, h4⟩, h5⟩ := h
  have hd : ∀ g : Nat, g < 8 → (grp M g).used = true → g ≠ 0 → ∃ d' : Nat, d' ≤ 2 ∧ dp M g = d' + 1 ∧ usedI M (grp M g).parent = true ∧ dp M (par M g) = d' := by
    intro g hg hu h0
    have hn := (h5 g hg).resolve_left h0
    simp only [nodeB, hu, Bool.not_true, Bool.false_or, Bool.and_eq_true, inR_iff] at hn
    obtain ⟨⟨_, hd1, hd3⟩, _⟩ := hn
    obtain ⟨d, e1, _, e3, e4⟩ := depL_spec M 9 0 g (by omega)
    obtain ⟨d', rfl, f2, f3⟩ := e4 (by omega)
    rw [Int.toNat_natCast] at e3 f2 f3
    exact ⟨d', by omega, e3 8 (by omega), f2, f3 8 (by omega)⟩
  refine ⟨h1, h2, h3, h4, fun g hg hu h0 => ?_, fun g hg hu => ?_⟩
  · obtain ⟨d', _, e1, e2, e3⟩ := hd g hg hu h0
    simp only [usedI, Bool.and_eq_true, decide_eq_true_eq] at e2
    refine ⟨by unfold par; omega, by unfold par; omega, e2.2, by rw [e1, e3]⟩
  · by_cases h0 : g = 0
    · subst h0; simp [dp_zero]
    · obtain ⟨d', e0, e1, _⟩ := hd g hg hu h0
      omega
end Go.Proofs.YtknfpigaognklaaGreatDoor
