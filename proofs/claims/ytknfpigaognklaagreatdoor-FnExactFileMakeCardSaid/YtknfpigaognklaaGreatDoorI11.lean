/- The program's own test of the tree of groups. -/
import Derived.Test.YtknfpigaognklaaGreatDoorNd
namespace Go.Proofs.YtknfpigaognklaaGreatDoor
open Go.RowKit Go.Sort
attribute [local go_sem ↓] Go.wp_at_zero Go.wp_at_succ
def nodesH (M : WorldM) : Bool := (M.groups.length == 8) && (grp M 0).used && ((grp M 0).parent == -1) && (grp M 0).name.toList.isEmpty
def nodeI (M : WorldM) (g : Nat) : Bool := (g == 0) || !(grp M g).used || (nameB (grp M g).name && usedI M (grp M g).parent && !kvHas (keysTo M g) (grp M g).parent (grp M g).name)
def depI (M : WorldM) (g : Nat) : Bool := !(grp M g).used || decide (0 ≤ depP M 4 0 g)
/-- the program's test of a tree -/
def nodesB (M : WorldM) : Bool := nodesH M && ((List.range 8).all (nodeI M) && (List.range 8).all (depI M))
/-- what comes back -/
def NodesOut (M : WorldM) (W : World) (e : Ending) (w' : World) : Prop :=
  ∃ v, e = .returned (.tuple #[v, .bool (nodesB M)]) ∧ Below W.heap.size W w' ∧ (nodesB M = true → ∃ a nb, v = .slice (some ⟨a, 0, none⟩) 8 8 ∧ Blk w' a 116 (arrN M nb 8) ∧ NodesAt w' M nb)
theorem nodesB_of {M : WorldM} (h : nodesH M = true) : nodesB M = ((List.range 8).all (nodeI M) && (List.range 8).all (depI M)) := by rw [nodesB, h]; rfl
theorem out_no {M : WorldM} {W w' : World} (h : nodesB M = false) (hb : Below W.heap.size W w') : NodesOut M W (.returned (.tuple #[.slice none 0 0, .bool false])) w' :=
  ⟨_, by rw [h], hb, fun h' => by rw [h] at h'; cases h'⟩
set_option maxRecDepth 100000 in
set_option maxHeartbeats 4000000 in
theorem iNodes_any (ca ta ga : Option Addr) (gc : Nat) (gh : Nat → GH) (M : WorldM) (w : World) (hs : WA w ca ta ga gh M) (hgm : M.groups.length ≤ 1048576) (hnm : ∀ k, k < M.groups.length → (grp M k).name.size ≤ 1048576) :
    Calls Tryz.prog 113 #[.slice ga M.groups.length gc] w (NodesOut M w) := by
  by_cases hh : nodesH M = true
  · have NB := Lib.hid (nodesB_of hh)
    simp only [nodesH, Bool.and_eq_true, beq_iff_eq, List.isEmpty_iff] at hh
    obtain ⟨⟨⟨hl, hu0⟩, hp0⟩, hn0⟩ := hh
    have HS := Lib.hid hs
    have HU0 := Lib.hid hu0
    have HL := Lib.hid hl
    have HNM := Lib.hid hnm
    obtain ⟨b, o, rfl, hB, c0, c1, c2, c3, c4, c5, c6, c7, c8, c9, c10, c11, c12, c13⟩ := hs.group_ (k := 0) (by omega)
    simp only [Nat.zero_mul, Nat.add_zero] at c0 c1 c2
    rw [hu0] at c0
    rw [hp0] at c1
    have hl0 : ((M.groups.length : Int) != 8) = false := by rw [hl]; rfl
    have hl1 : (0 : Int) < (M.groups.length : Int) := by omega
    have hl2 : M.groups.length ≤ 8 := by omega
    have hn1 : ((grp M 0).name.toList != []) = false := by rw [hn0]; rfl
    have hn2 : (grp M 0).name.toList.isEmpty = true := by rw [hn0]; rfl
    have hmk : ∀ w, (Instr.makeSlice 138 (.int .i64 8) (.int .i64 8)).run Tryz.prog w = .ok (.slice (some ⟨w.heap.size, 0, none⟩) 8 8) (w.alloc (.cells #[.pointer none, .pointer none, .pointer none, .pointer none, .pointer none, .pointer none, .pointer none, .pointer none] 116)) := fun _ => by kernel_rfl
    clear hl hu0 hp0 hn0 hnm hs c3 c4 c5 c6 c7 c8 c9 c10 c11 c12 c13
    go_enter Tryz.func113, Tryz.ntmps113
    have hmm := @run_makeMap Tryz.prog
    go_wp2
    clear c0 c1 c2 hn1 hn2 hl0 hB hmk
    go_loopw [5, 40] (fun _ i wr => ∃ (k : Nat) (nb : Nat → Nat), k ≤ 8 ∧ i = .int .i64 k ∧ Nd1 w wr M w.heap.size k nb) (fun _ i _ => 8 - (intOf i).toNat)
    case atStart => exact ⟨0, fun _ => 0, by omega, rfl, ⟨by rw [arrN_zero]; exact Blk.new _ _ _, fun i hi => by omega, fun i j _ hj => by omega, (Below.refl _ _).alloc (Nat.le_refl _) _, Nat.le_refl _⟩⟩
    case round =>
      obtain ⟨k, nb, hk, rfl, hN⟩ := hrel
      have HN := Lib.hid hN
      have hs := HS.out.keep hN.bel
      clear hN
      by_cases hlt : k < 8
      · have hlg : k < M.groups.length := by have := HL.out; omega
        obtain ⟨b2, o2, e2, hB, c0, c1, c2, c3, c4, c5, c6, c7, c8, c9, c10, c11, c12, c13⟩ := hs.group_ hlg
        obtain ⟨rfl, rfl⟩ : b = b2 ∧ o = o2 := by injection e2 with e2; injection e2 with e2 e3; exact ⟨e2, e3⟩
        clear hs c1 c3 c4 c5 c6 c7 c8 c9 c10 c11 c12 c13 e2
        have hkI : (k : Int) < (M.groups.length : Int) := by omega
        by_cases hu : (grp M k).used = true
        · have HU := Lib.hid hu
          rw [hu] at c0
          have d0 : wr.cell? ⟨w.heap.size, k, none⟩ = some (.pointer none) := by rw [HN.out.blk.cell, arrN_at M nb k k hlt, if_neg (by omega)]
          have d1 : wr.frozen? ⟨w.heap.size, k, none⟩ = false := HN.out.blk.frozen k
          have d2 := HN.out.blk.lt
          have hk8 : (k : Int) < 8 := by omega
          clear hu
          go_wp2
          go_roundw
          case rel => exact ⟨k + 1, _, by omega, by go_num, by rw [← World.setCell_alloc_past _ _ _ _ HN.out.blk.lt]; exact HN.out.put hlt HU.out⟩
          case measure => simp [intOf]; omega
        · have hu' : (grp M k).used = false := by simpa using hu
          have HU := Lib.hid hu'
          rw [hu'] at c0
          clear hu hu'
          go_wp2
          go_roundw
          case rel => exact ⟨k + 1, nb, by omega, by go_num, HN.out.skip HU.out⟩
          case measure => simp [intOf]; omega
      · have hk8 : k = 8 := by omega
        have HN1 : Nd1 w wr M w.heap.size 8 nb := by rw [← hk8]; exact HN.out
        have HN2 := Lib.hid HN1.on
        clear HN1
        have hge : M.groups.length ≤ k := by omega
        have hdec : decide (k < M.groups.length) = false := decide_eq_false (by omega)
        clear hk8
        go_wp2
        have hrg : wr.heap.size < (wr.alloc (.map #[] 0)).heap.size := by simp
        obtain ⟨r, hr⟩ : ∃ r, wr.heap.size = r := ⟨_, rfl⟩
        rw [hr] at HN2 ⊢
        generalize wr.alloc (.map #[] 0) = W0 at *
        clear HN hs hr hrg hmm
        go_loopw [7, 8, 9, 10] (fun i _ _ _ wr => ∃ g : Nat, 1 ≤ g ∧ g ≤ 8 ∧ i = .int .i64 g ∧ (List.range g).all (nodeI M) = true ∧ Nd2 w wr M w.heap.size r g nb) (fun i _ _ _ _ => 8 - (intOf i).toNat)
        case atStart => exact ⟨1, by omega, by omega, rfl, rfl, HN2.out⟩
        case round =>
          obtain ⟨g, hg1, hg8, rfl, hall, hN⟩ := hrel
          have HA := Lib.hid hall
          have HN := Lib.hid hN
          have hs := HS.out.keep hN.bel
          clear hN hall
          by_cases hlt : g < 8
          · have hlg : g < M.groups.length := by have := HL.out; omega
            have hs2 := Lib.hid hs
            obtain ⟨b2, o2, e2, hB, c0, c1, c2, c3, c4, c5, c6, c7, c8, c9, c10, c11, c12, c13⟩ := hs.group_ hlg
            obtain ⟨rfl, rfl⟩ : b = b2 ∧ o = o2 := by injection e2 with e2; injection e2 with e2 e3; exact ⟨e2, e3⟩
            have hgI : (g : Int) < (M.groups.length : Int) := by omega
            have hg0 : (0 : Int) ≤ (g : Int) := by omega
            have hgJ : (g : Int) < 8 := by omega
            have d0 : wr.cell? ⟨w.heap.size, g, none⟩ = some (if g < 8 ∧ (grp M g).used = true then .pointer (some ⟨nb g, 0, none⟩) else .pointer none) := by rw [HN.out.blk.cell, arrN_at M nb 8 g hlt]
            clear hs c0 c3 c4 c5 c6 c7 c8 c9 c10 c11 c12 c13 e2
            by_cases hu : (grp M g).used = true
            · have HU := Lib.hid hu
              rw [if_pos ⟨hlt, hu⟩] at d0
              have hnl := HNM.out g hlg
              clear hu
              by_cases f1 : nameB (grp M g).name = true
              · have F1 := Lib.hid f1
                clear f1
                by_cases f2 : usedI M (grp M g).parent = true
                · have F2 := Lib.hid f2
                  clear f2
                  obtain ⟨q, hq⟩ : ∃ q : Nat, (grp M g).parent = q := by
                    have h := F2.out
                    simp only [usedI, Bool.and_eq_true, decide_eq_true_eq] at h
                    exact ⟨(grp M g).parent.toNat, by omega⟩
                  have hpq : par M g = q := by rw [par, hq]; rfl
                  have hqu : q < 8 ∧ (grp M q).used = true := by
                    have h := F2.out
                    rw [hq] at h
                    have := HL.out
                    simp only [usedI, Bool.and_eq_true, decide_eq_true_eq, Int.toNat_natCast] at h
                    exact ⟨by omega, h.2⟩
                  obtain ⟨hq8, hqu⟩ := hqu
                  have HQU := Lib.hid hqu
                  have HQ := Lib.hid hq
                  have HPQ := Lib.hid hpq
                  have F2' := Lib.hid (show usedI M (q : Int) = true by rw [← hq]; exact F2.out)
                  rw [hq] at c1
                  clear hq hpq hqu
                  go_upto_region 17 with (first | (go_at_call 60; refine (iNameOk_any _ _ hnl).mono ?_; rintro e w4 ⟨rfl, hb4⟩; rw [F1.out]; have c1' := (hb4.cell (p := ⟨b, o + g * 14 + 1, none⟩) hB).trans c1) | (go_at_call 116; refine (iGroupUsed_any ca _ _ gc gh M _ (hs2.out.keep hb4) hgm _).mono ?_; rintro e w' ⟨rfl, rfl⟩; rw [F2'.out]))
                  have HN4 := Lib.hid (HN.out.below hb4)
                  have c2' := (hb4.cell (p := ⟨b, o + g * 14 + 2, none⟩) hB).trans c2
                  have hqJ : (q : Int) < 8 := by omega
                  have e0 : w4.cell? ⟨w.heap.size, g, none⟩ = some (.pointer (some ⟨nb g, 0, none⟩)) := by rw [HN4.out.blk.cell, arrN_at M nb 8 g hlt, if_pos ⟨hlt, HU.out⟩]
                  have e1 : w4.cell? ⟨w.heap.size, q, none⟩ = some (.pointer (some ⟨nb q, 0, none⟩)) := by rw [HN4.out.blk.cell, arrN_at M nb 8 q hq8, if_pos ⟨hq8, HQU.out⟩]
                  have e2 : w4.cell? ⟨nb g, 2, none⟩ = some (upv M nb g g) := by rw [(HN4.out.node g hlt HU.out).1.cell]; rfl
                  have e3 : w4.frozen? ⟨nb g, 2, none⟩ = false := (HN4.out.node g hlt HU.out).1.frozen 2
                  clear c1 c2 d0
                  go_still_tail 14, (by kernel_rfl)
                  change wpList _ _ _ _ _ w4.drew
                  have N3 := Lib.hid (HN4.out.link3 hg1 hlt HU.out HPQ.out)
                  go_upto_region 18 with (fail)
                  have hb5 := N3.out.bel
                  obtain ⟨W5, hW5⟩ : ∃ W5, (w4.setCell ⟨nb g, 2, none⟩ (.pointer (some ⟨nb q, 0, none⟩))).drew = W5 := ⟨_, rfl⟩
                  rw [hW5] at N3 hb5 ⊢
                  have hs5 := HS.out.keep hb5
                  obtain ⟨b5, o5, e5, hB5, k0, k1, k2, k3, k4, k5, k6, k7, k8, k9, k10, k11, k12, k13⟩ := hs5.group_ hlg
                  obtain ⟨rfl, rfl⟩ : b = b5 ∧ o = o5 := by injection e5 with e5; injection e5 with e5 e6; exact ⟨e5, e6⟩
                  rw [HQ.out] at k1
                  clear hW5 c1' c2' e0 e1 e2 e3 hs5 e5 k0 k3 k4 k5 k6 k7 k8 k9 k10 k11 k12 k13 hB hb4 HN4
                  have q1 := fun d os => cell_regrown k1 d os
                  have q2 := fun d os => cell_regrown k2 d os
                  have bd : Below W5.heap.size W5 W5.drew := ⟨rfl, rfl, rfl, Nat.le_refl _, fun _ _ => rfl⟩
                  refine region_by [false, false, false, false, false, false, false, false, false, false, false, true, true] (by kernel_rfl) (by kernel_rfl) (by kernel_rfl) ?_
                  repeat (first | (refine wpR_skip (by rfl) ?_; simp only [Act.put, List.setIfInBounds_toArray, List.set_cons_zero, List.set_cons_succ]) | (refine wpR_det (by rfl) (fun K hK => ?_); go_big_quiet_op; refine hK _ ?_; clear hK K))
                  refine wpR_bar (by rfl) (fun K hK => ?_)
                  go_big_op
                  refine hK _ _ (regrown_of_below (bd.andThen ((Below.refl _ _).alloc (Nat.le_refl _) _))) ?_
                  clear hK K
                  refine wpR_bar (by rfl) (fun K hK => ?_)
                  go_big_op
                  refine hK _ _ (regrown_of_below (((Below.refl _ _).alloc (Nat.le_refl _) _).drew)) ?_
                  clear hK K
                  refine wpR_nil ?_
                  go_upto_region 19 with (fail)
                  refine gen1d (p := fun W => Code.wp _ _ _ _ W) ?_
                  intro W6 b6 s6 kx
                  have x0 := kx.cell 0
                  have x1 := kx.cell 1
                  simp at x0 x1
                  clear kx s6 q1 q2 k1 k2 bd hb5
                  have N6 := Lib.hid (N3.out.below b6)
                  have KH := Lib.hid (show nodeI M g = !kvHas (keysTo M g) q (grp M g).name by rw [nodeI, HU.out, F1.out, F2.out, HQ.out, show (g == 0) = false by simp; omega]; rfl)
                  by_cases hk : kvHas (keysTo M g) q (grp M g).name = true
                  · obtain ⟨v, hlk⟩ := N6.out.map.found _ _ hk
                    have NO := Lib.hid (show nodesB M = false by rw [NB.out, all_of hlt (by rw [KH.out, hk]; rfl)]; rfl)
                    clear hk
                    go_wp2
                    go_ret2
                    exact out_no NO.out N6.out.bel
                  · have hk' : kvHas (keysTo M g) q (grp M g).name = false := by simpa using hk
                    have hlk := N6.out.map.look _ _ hk'
                    obtain ⟨W7, hup, hbut, hmap⟩ := N6.out.map.put _ _ (.int .i64 g) hk'
                    have HM := Lib.hid hmap
                    have HBU := Lib.hid hbut
                    have NY := Lib.hid (show nodeI M g = true by rw [KH.out, hk']; rfl)
                    clear hk hk' hbut hmap
                    go_wp2
                    go_roundw
                    case rel => exact ⟨g + 1, by omega, by omega, by go_num, by rw [all_succ, HA.out, NY.out]; rfl, N6.out.done HBU.out (by omega) HU.out (by rw [HQ.out]; exact HM.out)⟩
                    case measure => simp [intOf]; omega
                · have F2 := Lib.hid (show usedI M (grp M g).parent = false by simpa using f2)
                  have NO := Lib.hid (show nodesB M = false by rw [NB.out, all_of hlt (show nodeI M g = false by rw [nodeI, HU.out, F2.out, show (g == 0) = false by simp; omega]; simp)]; rfl)
                  clear f2
                  go_wp2_with (first | (go_at_call 60; refine (iNameOk_any _ _ hnl).mono ?_; rintro e w4 ⟨rfl, hb4⟩; rw [F1.out]; have c1' := (hb4.cell (p := ⟨b, o + g * 14 + 1, none⟩) hB).trans c1) | (go_at_call 116; refine (iGroupUsed_any ca _ _ gc gh M _ (hs2.out.keep hb4) hgm _).mono ?_; rintro e w' ⟨rfl, rfl⟩; rw [F2.out]))
                  go_ret2
                  exact out_no NO.out (HN.out.bel.andThen hb4)
              · have F1 := Lib.hid (show nameB (grp M g).name = false by simpa using f1)
                have NO := Lib.hid (show nodesB M = false by rw [NB.out, all_of hlt (show nodeI M g = false by rw [nodeI, HU.out, F1.out, show (g == 0) = false by simp; omega]; simp)]; rfl)
                clear f1
                go_wp2_with (go_at_call 60; refine (iNameOk_any _ _ hnl).mono ?_; rintro e w4 ⟨rfl, hb4⟩; rw [F1.out])
                go_ret2
                exact out_no NO.out (HN.out.bel.andThen hb4)
            · have hu' : (grp M g).used = false := by simpa using hu
              have HU := Lib.hid hu'
              rw [if_neg (by rw [hu']; simp)] at d0
              clear hu hu'
              go_wp2
              go_roundw
              case rel => exact ⟨g + 1, by omega, by omega, by go_num, by rw [all_succ, HA.out, nodeI, HU.out]; simp, HN.out.skip HU.out⟩
              case measure => simp [intOf]; omega
          · have hg88 : g = 8 := by omega
            have HN8 := Lib.hid (show Nd2 w wr M w.heap.size r 8 nb by rw [← hg88]; exact HN.out)
            have HA8 := Lib.hid (show (List.range 8).all (nodeI M) = true by rw [← hg88]; exact HA.out)
            clear hg88 HN HA
            have HN := HN8
            have HA := HA8
            have HAA := Lib.hid (show (List.range 8).all (nodeI M) = true from HA.out)
            have hp : ∀ g, 1 ≤ g → g < 8 → (grp M g).used = true → par M g < 8 ∧ (grp M (par M g)).used = true := by
              intro g h1 h8 hu
              have h := List.all_eq_true.1 HAA.out g (List.mem_range.2 h8)
              simp only [nodeI, hu, show (g == 0) = false by simp; omega, Bool.not_true, Bool.false_or, Bool.and_eq_true, usedI, decide_eq_true_eq] at h
              have := HL.out
              exact ⟨by unfold par; omega, h.1.2.2⟩
            have NA := Lib.hid (HN.out.at_ HU0.out hp)
            clear hp hs
            go_wp2
            go_loop [12, 124] (fun _ i => ∃ k : Nat, k ≤ 8 ∧ i = .int .i64 k ∧ (List.range k).all (depI M) = true) (fun _ i => 8 - (intOf i).toNat)
            case atStart => exact ⟨0, by omega, rfl, rfl⟩
            case round =>
              obtain ⟨k, hk, rfl, hall⟩ := hrel
              have HD := Lib.hid hall
              clear hall
              by_cases hlt : k < 8
              · have d0 : wr.cell? ⟨w.heap.size, k, none⟩ = some (if k < 8 ∧ (grp M k).used = true then .pointer (some ⟨nb k, 0, none⟩) else .pointer none) := by rw [HN.out.blk.cell, arrN_at M nb 8 k hlt]
                have hkJ : (k : Int) < 8 := by omega
                by_cases hu : (grp M k).used = true
                · have HU := Lib.hid hu
                  rw [if_pos ⟨hlt, hu⟩] at d0
                  clear hu
                  by_cases hd : 0 ≤ depP M 4 0 k
                  · have DY := Lib.hid (show depI M k = true by rw [depI, decide_eq_true hd]; simp)
                    go_wp2_with (go_at_call 166; refine (iDepth_any M nb k hlt HU.out _ NA.out).mono ?_; rintro e w' ⟨rfl, rfl⟩)
                    go_round
                    case rel => exact ⟨k + 1, by omega, by go_num, by rw [all_succ, HD.out, DY.out]; rfl⟩
                    case measure => simp [intOf]; omega
                  · have DN := Lib.hid (show nodesB M = false by rw [NB.out, all_of hlt (show depI M k = false by rw [depI, HU.out, decide_eq_false hd]; rfl)]; simp)
                    have hd2 : depP M 4 0 k < 0 := by omega
                    clear hd
                    go_wp2_with (go_at_call 166; refine (iDepth_any M nb k hlt HU.out _ NA.out).mono ?_; rintro e w' ⟨rfl, rfl⟩)
                    go_ret2
                    exact out_no DN.out HN.out.bel
                · have hu' : (grp M k).used = false := by simpa using hu
                  have DY := Lib.hid (show depI M k = true by rw [depI, hu']; rfl)
                  rw [if_neg (by rw [hu']; simp)] at d0
                  clear hu hu'
                  go_wp2
                  go_round
                  case rel => exact ⟨k + 1, by omega, by go_num, by rw [all_succ, HD.out, DY.out]; rfl⟩
                  case measure => simp [intOf]; omega
              · have hk8 : k = 8 := by omega
                have HDD := Lib.hid (show (List.range 8).all (depI M) = true by rw [← hk8]; exact HD.out)
                clear hk8
                go_wp2
                go_ret2
                exact ⟨_, by rw [NB.out, HAA.out, HDD.out]; rfl, HN.out.bel, fun _ => ⟨_, nb, rfl, HN.out.blk, NA.out⟩⟩
  · skip
    have NH := Lib.hid (show nodesB M = false by rw [nodesB, show nodesH M = false by simpa using hh]; rfl)
    by_cases hl : M.groups.length = 8
    · have hl0 : ((M.groups.length : Int) != 8) = false := by rw [hl]; rfl
      have hl1 : (0 : Int) < (M.groups.length : Int) := by omega
      obtain ⟨b, o, rfl, hB, c0, c1, c2, c3, c4, c5, c6, c7, c8, c9, c10, c11, c12, c13⟩ := hs.group_ (k := 0) (by omega)
      simp only [Nat.zero_mul, Nat.add_zero] at c0 c1 c2
      have HLL := Lib.hid hl
      clear hl hs c3 c4 c5 c6 c7 c8 c9 c10 c11 c12 c13 hnm
      by_cases hu0 : (grp M 0).used = true
      · rw [hu0] at c0
        by_cases hp0 : (grp M 0).parent = -1
        · rw [hp0] at c1
          by_cases hn0 : (grp M 0).name.toList = []
          · exact absurd (show nodesH M = true by rw [nodesH, HLL.out, hu0, hp0, hn0]; rfl) hh
          · have hn1 : ((grp M 0).name.toList != []) = true := by simpa using hn0
            have hn2 : (grp M 0).name.toList.isEmpty = false := by simpa using hn0
            clear hu0 hp0 hn0 hh
            go_enter Tryz.func113, Tryz.ntmps113
            go_wp2
            go_ret2
            exact out_no NH.out (Below.refl _ _)
        · have hp1 : ((grp M 0).parent != -1) = true := by simpa using hp0
          clear hu0 hp0 hh
          go_enter Tryz.func113, Tryz.ntmps113
          go_wp2
          go_ret2
          exact out_no NH.out (Below.refl _ _)
      · rw [show (grp M 0).used = false by simpa using hu0] at c0
        clear hu0 hh
        go_enter Tryz.func113, Tryz.ntmps113
        go_wp2
        go_ret2
        exact out_no NH.out (Below.refl _ _)
    · have hl0 : ((M.groups.length : Int) != 8) = true := by simp; omega
      clear hl hh
      go_enter Tryz.func113, Tryz.ntmps113
      go_wp2
      go_ret2
      exact out_no NH.out (Below.refl _ _)
set_option maxHeartbeats 1000000 in
theorem iTreeOk_any (ca ta ga : Option Addr) (gc : Nat) (gh : Nat → GH) (M : WorldM) (w : World) (hs : WA w ca ta ga gh M) (hgm : M.groups.length ≤ 1048576) (hnm : ∀ k, k < M.groups.length → (grp M k).name.size ≤ 1048576) :
    Calls Tryz.prog 139 #[.slice ga M.groups.length gc] w fun e w' => e = .returned (.bool (nodesB M)) ∧ Below w.heap.size w w' := by
  go_enter Tryz.func139, Tryz.ntmps139
  go_wp2_with (go_at_call 113; refine (iNodes_any ca ta ga gc gh M _ hs hgm hnm).mono ?_; rintro e w2 ⟨v, rfl, hb2, _⟩)
  go_ret
  exact ⟨rfl, hb2⟩
end Go.Proofs.YtknfpigaognklaaGreatDoor
