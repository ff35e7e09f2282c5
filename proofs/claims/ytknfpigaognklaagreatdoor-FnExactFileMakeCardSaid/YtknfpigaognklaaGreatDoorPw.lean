/- The program's tests of a world and the reference's are one. No program in sight. -/
import Derived.Test.YtknfpigaognklaaGreatDoorI11
import Derived.IntWalk
namespace Go.Proofs.YtknfpigaognklaaGreatDoor
open Go.RowKit
theorem kvHas_keys (M : WorldM) (g : Nat) : kvHas (keysTo M g) (grp M g).parent (grp M g).name = (List.range g).any fun h => h != 0 && sameB M g h := by
  rw [Bool.eq_iff_iff]
  simp only [kvHas, keysTo, List.any_map, List.any_filter, List.any_eq_true, List.mem_range, Function.comp, sameB, Bool.and_eq_true, bne_iff_ne, beq_iff_eq]
  constructor
  · rintro ⟨h, h1, ⟨h2, h3⟩, h4, h5⟩
    exact ⟨h, h1, h2, ⟨h3, h4.symm⟩, h5.symm⟩
  · rintro ⟨h, h1, h2, ⟨h3, h4⟩, h5⟩
    exact ⟨h, h1, ⟨h2, h3⟩, h4.symm, h5.symm⟩
theorem depP_bd (M : WorldM) : ∀ (r n g : Nat), 0 ≤ depP M r n g → (n : Int) ≤ depP M r n g ∧ depP M r n g < n + r ∧ (g ≠ 0 → (n : Int) + 1 ≤ depP M r n g)
  | 0, n, g, h => by simp [depP] at h
  | r + 1, n, g, h => by
    by_cases h0 : g = 0
    · simp only [depP, if_pos h0] at h ⊢
      exact ⟨Int.le_refl _, by omega, fun h1 => absurd h0 h1⟩
    · simp only [depP, if_neg h0] at h ⊢
      obtain ⟨h1, h2, _⟩ := depP_bd M r (n + 1) (par M g) h
      exact ⟨by omega, by omega, fun _ => by omega⟩
theorem depL_of (M : WorldM) (h0 : (grp M 0).used = true) (hl : M.groups.length = 8) (hp : ∀ g, g < 8 → g ≠ 0 → (grp M g).used = true → usedI M (grp M g).parent = true) :
    ∀ (r r' n g : Nat), r ≤ r' → g < 8 → (grp M g).used = true → 0 ≤ depP M r n g → depL M r' n g = depP M r n g
  | 0, _, n, g, _, _, _, h => by simp [depP] at h
  | r + 1, 0, n, g, hr, _, _, _ => by omega
  | r + 1, r' + 1, n, g, hr, hg, hu, h => by
    have hui : usedI M (g : Int) = true := by simp [usedI, hl, hu]; omega
    by_cases hz : g = 0
    · subst hz
      simp only [depP, depL, if_pos hui]
      simp
    · have hpu := hp g hg hz hu
      obtain ⟨q, hq⟩ : ∃ q : Nat, (grp M g).parent = q := by
        simp only [usedI, Bool.and_eq_true, decide_eq_true_eq] at hpu
        exact ⟨(grp M g).parent.toNat, by omega⟩
      have hpq : par M g = q := by rw [par, hq]; rfl
      have hq8 : q < 8 ∧ (grp M q).used = true := by
        rw [hq] at hpu
        simp only [usedI, Bool.and_eq_true, decide_eq_true_eq, Int.toNat_natCast] at hpu
        exact ⟨by omega, hpu.2⟩
      simp only [depP, if_neg hz, hpq] at h ⊢
      have ih := depL_of M h0 hl hp r r' (n + 1) q (by omega) hq8.1 hq8.2 h
      rw [depL, if_pos hui, if_neg (by omega), Int.toNat_natCast, hq]
      exact ih
theorem depP_of (M : WorldM) : ∀ (r n g d : Nat), d < r → (∀ f, d ≤ f → dpF M f g = d) → depP M r n g = n + d
  | 0, n, g, d, h, _ => by omega
  | r + 1, n, g, d, h, hd => by
    by_cases h0 : g = 0
    · have := hd (d + 1) (by omega)
      simp only [dpF, if_pos h0] at this
      simp only [depP, if_pos h0]
      omega
    · have h1 := hd (d + 1) (by omega)
      simp only [dpF, if_neg h0] at h1
      obtain ⟨d', rfl⟩ : ∃ d', d = d' + 1 := ⟨d - 1, by omega⟩
      have ih := depP_of M r (n + 1) (par M g) d' (by omega) fun f hf => by
        have h2 := hd (f + 1) (by omega)
        simp only [dpF, if_neg h0] at h2
        omega
      simp only [depP, if_neg h0, ih]
      omega
theorem nodes_tree (M : WorldM) : nodesB M = treeB M := by
  by_cases hh : nodesH M = true
  · rw [nodesB_of hh]
    have hh2 := hh
    simp only [nodesH, Bool.and_eq_true, beq_iff_eq, List.isEmpty_iff] at hh2
    obtain ⟨⟨⟨hl, hu0⟩, hp0⟩, hn0⟩ := hh2
    have e : treeB M = (List.range 8).all fun g => g == 0 || nodeB M g := by
      rw [treeB, show ((M.groups.length == 8) && (grp M 0).used && ((grp M 0).parent == -1) && (grp M 0).name.toList.isEmpty) = true from hh]; rfl
    rw [e, Bool.eq_iff_iff]
    simp only [Bool.and_eq_true, List.all_eq_true, List.mem_range]
    constructor
    · rintro ⟨h1, h2⟩ g hg
      by_cases h0 : g = 0
      · simp [h0]
      by_cases hu : (grp M g).used = true
      · have a1 := h1 g hg
        have a2 := h2 g hg
        simp only [nodeI, hu, show (g == 0) = false by simpa using h0, Bool.not_true, Bool.false_or, Bool.and_eq_true, Bool.not_eq_true'] at a1
        simp only [depI, hu, Bool.not_true, Bool.false_or, decide_eq_true_eq] at a2
        have hb := depP_bd M 4 0 g a2
        have hp : ∀ g, g < 8 → g ≠ 0 → (grp M g).used = true → usedI M (grp M g).parent = true := fun k hk hk0 hku => by
          have := h1 k hk
          simp only [nodeI, hku, show (k == 0) = false by simpa using hk0, Bool.not_true, Bool.false_or, Bool.and_eq_true] at this
          exact this.1.2
        have hd := depL_of M hu0 hl hp 4 9 0 g (by omega) hg hu a2
        have h3 := hb.2.2 h0
        simp only [nodeB, hu, show (g == 0) = false by simpa using h0, Bool.not_true, Bool.false_or, Bool.and_eq_true, Bool.not_eq_true', ← kvHas_keys, inR_iff]
        have hd' : depL M 9 0 (g : Int) = depP M 4 0 g := hd
        exact ⟨⟨a1.1.1, by rw [hd']; omega⟩, a1.2⟩
      · simp [nodeB, show (grp M g).used = false by simpa using hu]
    · intro h
      have key : ∀ g, g < 8 → g ≠ 0 → (grp M g).used = true → nameB (grp M g).name = true ∧ (1 ≤ depL M 9 0 g ∧ depL M 9 0 g ≤ 3) ∧ kvHas (keysTo M g) (grp M g).parent (grp M g).name = false := fun g hg h0 hu => by
        have := h g hg
        simp only [nodeB, hu, show (g == 0) = false by simpa using h0, Bool.not_true, Bool.false_or, Bool.and_eq_true, Bool.not_eq_true', ← kvHas_keys, inR_iff] at this
        exact ⟨this.1.1, this.1.2, this.2⟩
      refine ⟨fun g hg => ?_, fun g hg => ?_⟩
      · by_cases h0 : g = 0
        · simp [nodeI, h0]
        by_cases hu : (grp M g).used = true
        · obtain ⟨k1, k2, k3⟩ := key g hg h0 hu
          obtain ⟨d, e1, _, _, e4⟩ := depL_spec M 9 0 g (by omega)
          obtain ⟨d', _, hpu, _⟩ := e4 (by omega)
          rw [Int.toNat_natCast] at hpu
          simp [nodeI, k1, k3, hpu]
        · simp [nodeI, show (grp M g).used = false by simpa using hu]
      · by_cases hu : (grp M g).used = true
        · by_cases h0 : g = 0
          · subst h0
            simp [depI, depP]
          · obtain ⟨k1, k2, k3⟩ := key g hg h0 hu
            obtain ⟨d, e1, _, e3, _⟩ := depL_spec M 9 0 g (by omega)
            rw [Int.toNat_natCast] at e3
            have := depP_of M 4 0 g d (by omega) e3
            simp [depI, this]
        · simp [depI, show (grp M g).used = false by simpa using hu]
  · have hh' : nodesH M = false := by simpa using hh
    rw [nodesB, hh', treeB, show ((M.groups.length == 8) && (grp M 0).used && ((grp M 0).parent == -1) && (grp M 0).name.toList.isEmpty) = false from hh']
    rfl
/-- the groups' numbers are those of an int -/
def NextOk (M : WorldM) : Prop := ∀ k, k < 8 → (grp M k).next ≤ 9223372036854775807
theorem quota_same (M : WorldM) (k : Nat) (hn : 0 ≤ M.now ∧ M.now ≤ 100000000000000000) (hx : (grp M k).next ≤ 9223372036854775807) : quotaI M (grp M k) = grpQ M (grp M k) := by
  generalize grp M k = x at *
  unfold quotaI grpQ
  by_cases hq : x.band.quota = 0
  · rw [if_pos hq]
    by_cases hb : noBand x.band = true
    · rw [if_pos hb, hb]; rfl
    · rw [if_neg hb, show noBand x.band = false by simpa using hb]
      simp [bandB, bandHead, inR, hq]
  · rw [if_neg hq, if_neg (by simp [noBand, hq])]
    by_cases hp : inR x.period 1 1000 = true
    · rw [inR_iff] at hp
      have e : inR x.next (M.now + 1) (M.now + x.period) = (decide (M.now < x.next) && decide (wrap64 (x.next - M.now) ≤ x.period)) := by
        by_cases hlt : M.now < x.next
        · have hw : wrap64 (x.next - M.now) = x.next - M.now := IntWalk.wrap64_in _ ⟨by omega, by omega⟩
          rw [hw, Bool.eq_iff_iff]
          simp only [inR_iff, Bool.and_eq_true, decide_eq_true_eq]
          omega
        · rw [Bool.eq_iff_iff]
          simp only [inR_iff, Bool.and_eq_true, decide_eq_true_eq]
          omega
      rw [e]
      simp only [Bool.and_assoc]
    · rw [show inR x.period 1 1000 = false by simpa using hp]
      simp
theorem groups_same (M : WorldM) (hl : M.groups.length = 8) (h0 : (grp M 0).used = true) (hn : 0 ≤ M.now ∧ M.now ≤ 100000000000000000) (hx : NextOk M) : groupsI M = (List.range 8).all (groupB M) := by
  have e : ∀ k, k < 8 → groupB M k = (groupI M (grp M k) && (decide (k ≠ 0) || grpR (grp M k) || !(grp M k).used)) := by
    intro k hk
    unfold groupB groupI
    by_cases hu : (grp M k).used = true
    · rw [if_pos hu, if_pos hu, quota_same M k hn (hx k hk), hu]
      simp only [grpU, Bool.not_true, Bool.or_false]
      cases inR (grp M k).weight 1 20 <;> cases inR (grp M k).cpus 0 15 <;> cases ((grp M k).cpus == 0) <;> cases timeB (grp M k).sum <;> cases (((grp M k).shelves.length : Int) == M.cpus.length) <;> cases grpQ M (grp M k) <;> cases (decide (k ≠ 0) || grpR (grp M k)) <;> rfl
    · rw [if_neg hu, if_neg hu, show (grp M k).used = false by simpa using hu]
      simp
  rw [groupsI, hl, Bool.eq_iff_iff]
  simp only [Bool.and_eq_true, List.all_eq_true, List.mem_range]
  constructor
  · rintro ⟨h1, h2⟩ k hk
    rw [e k hk, h1 k hk]
    by_cases hz : k = 0
    · subst hz; simp [h2]
    · simp [hz]
  · intro h
    refine ⟨fun k hk => ?_, ?_⟩
    · have := h k hk
      rw [e k hk, Bool.and_eq_true] at this
      exact this.1
    · have := h 0 (by decide)
      rw [e 0 (by decide), Bool.and_eq_true] at this
      simpa [h0] using this.2
theorem all3 (p : Int → Bool) (a b c : Int) : [a, b, c].all p = (p a && p b && p c) := by simp [Bool.and_assoc]
theorem all2 (p : Int → Bool) (a b : Int) : [a, b].all p = (p a && p b) := by simp
theorem wof_zero (n : Int) : (wof n == 0) = !inR n (-10) 9 := by
  unfold wof
  by_cases h : inR n (-10) 9 = true
  · rw [if_pos h, h]
    rw [inR_iff] at h
    simp; omega
  · rw [if_neg h, show inR n (-10) 9 = false by simpa using h]; rfl
/-- a task's two tests differ by the floor of its shelf -/
theorem task_same (M : WorldM) (t : Nat) (hf : (tsk M t).st = 1 → taskB1 M (tsk M t) = true → taskB2 M (tsk M t) = true → timeB (she M (tsk M t).gr.toNat (tsk M t).cpu.toNat).floor = true) : taskI M t = taskB M t := by
  unfold taskI taskB
  generalize tsk M t = x at *
  by_cases h0 : x.st = 0
  · rw [if_pos h0]
    simp [h0]
  · rw [if_neg h0, show zeroT x = false by simp [zeroT, h0], Bool.false_or]
    have e1 : (((x.st == 1) || (x.st == 2)) && taskI1 M x) = taskB1 M x := by
      simp only [taskI1, taskB1, wof_zero, Bool.not_not]
      cases ((x.st == 1) || (x.st == 2)) <;> cases usedI M x.gr <;> cases inR x.nice (-10) 9 <;> simp
    have e2 : taskI2 M x = taskB2 M x := by simp only [taskI2, taskB2, all3]
    rw [e1, e2]
    by_cases hb : (taskB1 M x && taskB2 M x) = true
    · have hb2 := hb
      simp only [Bool.and_eq_true] at hb2
      have hst : x.st = 1 ∨ x.st = 2 := by
        have := hb2.1
        simp only [taskB1, Bool.and_eq_true, Bool.or_eq_true, beq_iff_eq] at this
        exact this.1.1.1.1
      rw [hb]
      rcases hst with h1 | h2
      · have := hf h1 hb2.1 hb2.2
        simp [taskI3, taskB3, h1, this]
      · simp [taskI3, taskB3, h2]
    · rw [show (taskB1 M x && taskB2 M x) = false by simpa only [Bool.not_eq_true] using hb]
      rfl
theorem shelves_same (M : WorldM) (hT : Tree M) (hG : GOk M) (hZ : ∀ k, k < 8 → (grp M k).used = false → (grp M k).shelves.length = 0) : shelvesI M = shelvesB M := by
  rw [Bool.eq_iff_iff]
  simp only [shelvesI, shelvesB, hT.len, Bool.and_eq_true, List.all_eq_true, List.mem_range]
  have e1 : ∀ x, shelfI1 x = shelfB1 x := fun x => by simp only [shelfI1, shelfB1, all3]
  constructor
  · rintro ⟨h1, h2⟩ g hg c hc
    by_cases hu : (grp M g).used = true
    · have hcl : c < M.cpus.length := by rw [← hG.she g hg hu]; exact hc
      have a1 := h1 g hg c hc
      have a2 := h2 c hcl
      simp only [laneI, Bool.and_eq_true, List.all_eq_true, List.mem_range] at a2
      rw [shelfB, ← e1, a1, Bool.true_and]
      by_cases h0 : g = 0
      · subst h0; rw [if_pos rfl]; exact a2.1
      · have a3 := a2.2 g hg
        rw [if_neg h0]
        simpa [shelfI2, h0, hu] using a3
    · rw [hZ g hg (by simpa using hu)] at hc; omega
  · intro h
    refine ⟨fun g hg c hc => ?_, fun c hc => ?_⟩
    · have := h g hg c hc
      rw [shelfB, Bool.and_eq_true] at this
      rw [e1]; exact this.1
    · simp only [laneI, Bool.and_eq_true, List.all_eq_true, List.mem_range]
      constructor
      · have := h 0 (by decide) c (by rw [hG.she 0 (by decide) hT.root]; exact hc)
        rw [shelfB, if_pos rfl, Bool.and_eq_true] at this
        exact this.2
      · intro g hg
        by_cases h0 : g = 0
        · simp [shelfI2, h0]
        by_cases hu : (grp M g).used = true
        · have := h g hg c (by rw [hG.she g hg hu]; exact hc)
          rw [shelfB, if_neg h0, Bool.and_eq_true] at this
          simpa [shelfI2, h0, hu] using this.2
        · simp [shelfI2, show (grp M g).used = false by simpa using hu]
theorem cpu_same (M : WorldM) (c : Nat) : cpuI M c = cpuB M c := by
  unfold cpuI cpuB cpuHead
  generalize cpo M c = x
  rw [all2]
  by_cases hn : x.cur < 0
  · rw [if_pos hn]
    by_cases h1 : x.cur = -1
    · have e : inR x.cur (-1) ((M.tasks.length : Int) - 1) = true := by rw [inR_iff]; omega
      have e2 : taskIn M x.cur = false := by rw [h1]; rfl
      rw [e, e2, h1]
      simp
    · have e : inR x.cur (-1) ((M.tasks.length : Int) - 1) = false := by
        rw [← Bool.not_eq_true, inR_iff]; omega
      have e2 : taskIn M x.cur = false := by
        rw [taskIn, show inR x.cur 0 ((M.tasks.length : Int) - 1) = false by rw [← Bool.not_eq_true, inR_iff]; omega]; rfl
      rw [e, e2, show (x.cur == -1) = false by simpa using h1]
      simp
  · rw [if_neg hn, show (x.cur == -1) = false by simp; omega, Bool.false_and, Bool.false_or]
    obtain ⟨t, ht⟩ : ∃ t : Nat, x.cur = t := ⟨x.cur.toNat, by omega⟩
    rw [ht, Int.toNat_natCast]
    by_cases hl : t < M.tasks.length
    · have e : inR (t : Int) (-1) ((M.tasks.length : Int) - 1) = true := by rw [inR_iff]; omega
      have e2 : inR (t : Int) 0 ((M.tasks.length : Int) - 1) = true := by rw [inR_iff]; omega
      rw [e, taskIn, e2, Int.toNat_natCast]
      unfold lineI lineM
      by_cases h1 : (tsk M t).st = 1
      · by_cases h2 : (tsk M t).cpu = (c : Int)
        · rw [h1, h2, Int.toNat_natCast]
          simp only [show ((1 : Int) == 0) = false from rfl, show ((1 : Int) == 1) = true from rfl, beq_self_eq_true, Bool.not_false, Bool.and_true, Bool.true_and]
          cases timeB x.busy <;> cases timeB x.idle <;> cases x.up <;> cases inR x.ran 1 149 <;> cases onL M c (ch M (tsk M t).gr.toNat) <;> rfl
        · rw [show ((tsk M t).cpu == (c : Int)) = false by simpa using h2]
          simp
      · rw [show ((tsk M t).st == 1) = false by simpa using h1]
        simp
    · have e : inR (t : Int) (-1) ((M.tasks.length : Int) - 1) = false := by rw [← Bool.not_eq_true, inR_iff]; omega
      have e2 : inR (t : Int) 0 ((M.tasks.length : Int) - 1) = false := by rw [← Bool.not_eq_true, inR_iff]; omega
      rw [e, taskIn, e2]
      simp
/-- the shelf of a valid task has a valid floor -/
theorem floor_ok {M : WorldM} (hT : Tree M) (hG : GOk M) (hc : M.cpus.length ≤ 4) (hS : shelvesB M = true) (x : TaskM) (h1 : taskB1 M x = true) (h2 : taskB2 M x = true) : timeB (she M x.gr.toNat x.cpu.toNat).floor = true := by
  simp only [taskB1, taskB2, Bool.and_eq_true, usedI, decide_eq_true_eq] at h1 h2
  obtain ⟨hcl, hcu⟩ := where_has hc h2.2
  have hg8 : x.gr.toNat < 8 := by have := hT.len; omega
  have hu : (grp M x.gr.toNat).used = true := h1.1.1.1.2.2
  simp only [shelvesB, List.all_eq_true, List.mem_range] at hS
  have := hS x.gr.toNat hg8 x.cpu.toNat (by rw [hG.she _ hg8 hu]; omega)
  simp only [shelfB, shelfB1, Bool.and_eq_true] at this
  exact this.1.1.1.1
/-- the three last tests together -/
theorem rest_same {M : WorldM} (hT : Tree M) (hG : GOk M) (hZ : ∀ k, k < 8 → (grp M k).used = false → (grp M k).shelves.length = 0) (hc : M.cpus.length ≤ 4) :
    (tasksI M && (shelvesI M && cpusI M)) = ((List.range M.tasks.length).all (taskB M) && (shelvesB M && cpusB M)) := by
  have e3 : cpusI M = cpusB M := by rw [cpusI, cpusB]; congr 1; funext c; exact cpu_same M c
  rw [shelves_same M hT hG hZ, e3]
  by_cases hS : shelvesB M = true
  · have e : tasksI M = (List.range M.tasks.length).all (taskB M) := by
      rw [tasksI]; congr 1; funext t
      exact task_same M t fun _ h1 h2 => floor_ok hT hG hc hS _ h1 h2
    rw [e]
  · rw [show shelvesB M = false by simpa using hS]
    simp
def shapeI (M : WorldM) : Bool := [M.now].all timeB && inR M.cpus.length 1 4 && !(ups M == 0) && ((M.tasks.length : Int) == 12) && nodesB M
theorem shape_same (M : WorldM) : shapeI M = worldH M := by
  rw [shapeI, worldH, nodes_tree]
  have e : ((M.tasks.length : Int) == 12) = (M.tasks.length == 12) := by
    rw [Bool.eq_iff_iff]; simp; omega
  rw [e, show [M.now].all timeB = inR M.now 0 100000000000000000 by simp [timeB]]
  cases inR M.now 0 100000000000000000 <;> cases inR (M.cpus.length : Int) 1 4 <;> cases (ups M == 0) <;> cases (M.tasks.length == 12) <;> cases treeB M <;> rfl
/-- the program's tests, one behind the other, are the reference's -/
theorem world_same (M : WorldM) (hx : NextOk M) : worldB M = (shapeI M && (groupsI M && (tasksI M && (shelvesI M && cpusI M)))) := by
  rw [worldB, worldL, shape_same]
  by_cases hh : worldH M = true
  · rw [hh, Bool.true_and, Bool.true_and]
    simp only [worldH, Bool.and_eq_true] at hh
    obtain ⟨⟨⟨⟨h1, h2⟩, h3⟩, h4⟩, h5⟩ := hh
    have hT := tree_of h4
    rw [groups_same M hT.len hT.root (inR_iff.1 h1) hx, Bool.and_assoc]
    by_cases hg : (List.range 8).all (groupB M) = true
    · rw [hg, Bool.true_and, Bool.true_and]
      exact (rest_same hT (gok_of hg) (gz_of hg) (by have := (inR_iff.1 h2).2; omega)).symm
    · rw [show (List.range 8).all (groupB M) = false by simpa only [Bool.not_eq_true] using hg]
      rfl
  · rw [show worldH M = false by simpa using hh]
    rfl
/-- what the first tests have shown -/
theorem ear_of {M : WorldM} (hT : Tree M) (hI : tasksI M = true) (hS : shelvesI M = true) : Ear M := by
  simp only [tasksI, shelvesI, hT.len, Bool.and_eq_true, List.all_eq_true, List.mem_range] at hI hS
  have htb : ∀ {n : Int}, timeB n = true → 0 ≤ n ∧ n ≤ 100000000000000000 := fun h => inR_iff.1 h
  refine ⟨fun t ht h1 => ?_, fun t ht => ?_, fun g c hg hc => ?_, fun g c hg hc => ?_⟩
  · have := hI t ht
    simp only [taskI, Bool.or_eq_true, Bool.and_eq_true, taskI1] at this
    rcases this with h | h
    · simp [zeroT, h1] at h
    · have hu := h.1.1.2.1.1
      simp only [usedI, Bool.and_eq_true, decide_eq_true_eq] at hu
      exact ⟨(tsk M t).gr.toNat, by omega, by have := hT.len; omega, hu.2⟩
  · have := hI t ht
    simp only [taskI, Bool.or_eq_true, Bool.and_eq_true, taskI2, all3] at this
    rcases this with h | h
    · simp only [zeroT, Bool.and_eq_true, beq_iff_eq] at h
      rw [h.1.1.1.2]; omega
    · exact htb h.1.2.1.1.1.1
  · have := hS.1 g hg c hc
    simp only [shelfI1, all3, Bool.and_eq_true] at this
    exact htb this.1.1.2
  · have := hS.1 g hg c hc
    simp only [shelfI1, all3, Bool.and_eq_true] at this
    exact htb this.1.1.1
end Go.Proofs.YtknfpigaognklaaGreatDoor
