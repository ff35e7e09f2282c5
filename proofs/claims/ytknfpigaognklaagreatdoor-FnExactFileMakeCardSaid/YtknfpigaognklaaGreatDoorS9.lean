/- The reference's test of a whole world. -/
import Derived.Test.YtknfpigaognklaaGreatDoorS4c
import Derived.Test.YtknfpigaognklaaGreatDoorS5
import Derived.Test.YtknfpigaognklaaGreatDoorS6
import Derived.Test.YtknfpigaognklaaGreatDoorS7
import Derived.Test.YtknfpigaognklaaGreatDoorS8
import Derived.Test.YtknfpigaognklaaGreatDoorMt
import Derived.Test.YtknfpigaognklaaGreatDoorMk
import Derived.Deep.Cut
namespace Go.Proofs.YtknfpigaognklaaGreatDoor
open Go.RowKit Go.Sort
set_option maxRecDepth 100000 in
set_option maxHeartbeats 4000000 in
theorem sWorldOk_any (ca : Option Addr) (cc : Nat) (ta : Option Addr) (tc : Nat) (ga : Option Addr) (gc : Nat) (gh : Nat → GH) (M : WorldM) (w : World) (hs : WA w ca ta ga gh M) (hF : FitG M) :
    Calls Tryz.prog 23 #[.agg #[.int .i64 M.now, .slice ca M.cpus.length cc, .slice ta M.tasks.length tc, .slice ga M.groups.length gc]] w fun e w' => e = .returned (.bool (worldB M)) ∧ Below w.heap.size w w' := by
  go_enter Tryz.func23, Tryz.ntmps23
  go_upto_region 1 with (fail)
  refine PA.gen (P := fun W => Code.wp _ _ _ _ W) hs ?_
  intro W b1 s1 pw
  obtain ⟨q0, q1, q2, q3, q4, q5⟩ := pw
  by_cases hh : worldH M = true
  · have hh2 := hh
    simp only [worldH, Bool.and_eq_true] at hh2
    obtain ⟨⟨⟨⟨h1, h2⟩, h3⟩, h4⟩, h5⟩ := hh2
    have HT := Lib.hid (tree_of h4)
    have hc4 : M.cpus.length ≤ 4 := by have := (inR_iff.1 h2).2; omega
    have h3' : ((M.tasks.length : Int) != 12) = false := by simp at h3; rw [h3]; rfl
    have h5' : (ups M == 0) = false := by simpa using h5
    have WN := Lib.hid (show worldB M = worldL M by rw [worldB, hh]; rfl)
    clear hh h3 h5
    go_wp2_with (first | (go_at_call 64; refine (sl1In_any _ _ _ _).mono ?_; rintro e w' ⟨rfl, rfl⟩; first | rw [h1] | rw [h2]) | (go_at_call 65; refine (sTreeOk_any ca ta ga gc gh M _ q5 hF.group hF.name).mono ?_; rintro e w2 ⟨rfl, hb2⟩; rw [h4]; have r1 := (hb2.cell (p := ⟨w.heap.size, 0, none⟩) q0).trans q1; have r2 := (hb2.cell (p := ⟨w.heap.size, 1, none⟩) q0).trans q2; have r3 := (hb2.cell (p := ⟨w.heap.size, 2, none⟩) q0).trans q3; have r4 := (hb2.cell (p := ⟨w.heap.size, 3, none⟩) q0).trans q4; have r0 := Nat.lt_of_lt_of_le q0 hb2.size) | (go_at_call 66; refine (sl8Ups_any ca cc ta tc ga gc gh M _ (q5.keep hb2) hc4).mono ?_; rintro e w3 ⟨rfl, hb3⟩))
    have b3 := b1.andThen (hb2.andThen hb3)
    have pw3 : PA w3 w.heap.size ca cc ta tc ga gc gh M := PA.keep ⟨q0, q1, q2, q3, q4, q5⟩ (hb2.andThen hb3)
    clear hb3 r0 r1 r2 r3 r4 hb2 q0 q1 q2 q3 q4 q5 b1 s1
    have HL := Lib.hid HT.out.len
    go_loopw [2, 3] (fun r i wr => ∃ k : Nat, k ≤ 8 ∧ i = .int .i64 k ∧ r = .bool false ∧ (List.range k).all (groupB M) = true ∧ Below w3.heap.size w3 wr) (fun _ i _ => 8 - (intOf i).toNat)
    case atStart => exact ⟨0, by omega, rfl, rfl, rfl, Below.refl _ _⟩
    case round =>
      obtain ⟨k, hk, rfl, rfl, hall, hb⟩ := hrel
      have HA := Lib.hid hall
      clear hall
      obtain ⟨q0, q1, q2, q3, q4, q5⟩ := pw3.keep hb
      by_cases hlt : k < 8
      · have hlg : k < M.groups.length := by have := HL.out; omega
        by_cases hgb : groupB M k = true
        · have HGB := Lib.hid hgb
          clear hgb
          go_wp2_with (go_at_call 67; refine (sl8GroupOk_any ca cc ta tc ga gc gh M _ q5 hF k hlg).mono ?_; rintro e w4 ⟨rfl, hb4⟩; rw [HGB.out])
          go_roundw
          case rel => exact ⟨k + 1, by omega, by go_num, rfl, by rw [all_succ, HA.out, HGB.out]; rfl, hb.andThen hb4⟩
          case measure => simp [intOf]; omega
        · have HGB := Lib.hid (show groupB M k = false by simpa using hgb)
          clear hgb
          go_wp2_with (go_at_call 67; refine (sl8GroupOk_any ca cc ta tc ga gc gh M _ q5 hF k hlg).mono ?_; rintro e w4 ⟨rfl, hb4⟩; rw [HGB.out])
          go_ret
          exact ⟨ret_bool (by rw [WN.out, worldL, all_of hlt HGB.out]; rfl), b3.andThen (hb.andThen hb4)⟩
      · have hlg : M.groups.length ≤ k := by have := HL.out; omega
        have hk8 : k = 8 := by omega
        have HGA := Lib.hid (show (List.range 8).all (groupB M) = true by rw [← hk8]; exact HA.out)
        have HG := Lib.hid (gok_of HGA.out)
        have GZ := Lib.hid (gz_of HGA.out)
        go_wp2
        clear HA hk8
        have b5 := b3.andThen hb
        clear hb b3
        have pwr : PA wr w.heap.size ca cc ta tc ga gc gh M := ⟨q0, q1, q2, q3, q4, q5⟩
        clear q0 q1 q2 q3 q4 q5
        obtain ⟨wo, hwo⟩ : ∃ wo : World, wo = wr := ⟨_, rfl⟩
        subst hwo
        go_loopw [2, 4] (fun r i wr => ∃ k : Nat, k ≤ M.tasks.length ∧ i = .int .i64 k ∧ r = .bool false ∧ (List.range k).all (taskB M) = true ∧ Below wo.heap.size wo wr) (fun _ i _ => M.tasks.length - (intOf i).toNat)
        case atStart => exact ⟨0, by omega, rfl, rfl, rfl, Below.refl _ _⟩
        case round =>
          obtain ⟨k, hk, rfl, rfl, hall, hb⟩ := hrel
          have HA := Lib.hid hall
          clear hall
          obtain ⟨q0, q1, q2, q3, q4, q5⟩ := pwr.keep hb
          have htm := hF.task
          by_cases hlt : k < M.tasks.length
          · by_cases hgb : taskB M k = true
            · have HGB := Lib.hid hgb
              clear hgb
              go_wp2_with (go_at_call 68; refine (sl8TaskOk_any ca cc ta tc ga gc gh M _ q5 HT.out HG.out hc4 k hlt).mono ?_; rintro e w4 ⟨rfl, hb4⟩; rw [HGB.out])
              go_roundw
              case rel => exact ⟨k + 1, by omega, by go_num, rfl, by rw [all_succ, HA.out, HGB.out]; rfl, hb.andThen hb4⟩
              case measure => simp [intOf]; omega
            · have HGB := Lib.hid (show taskB M k = false by simpa using hgb)
              clear hgb
              go_wp2_with (go_at_call 68; refine (sl8TaskOk_any ca cc ta tc ga gc gh M _ q5 HT.out HG.out hc4 k hlt).mono ?_; rintro e w4 ⟨rfl, hb4⟩; rw [HGB.out])
              go_ret
              exact ⟨ret_bool (by rw [WN.out, worldL, all_of hlt HGB.out]; simp), b5.andThen (hb.andThen hb4)⟩
          · have hk8 : k = M.tasks.length := by omega
            have HTA := Lib.hid (show (List.range M.tasks.length).all (taskB M) = true by rw [← hk8]; exact HA.out)
            have WN2 := Lib.hid (show worldB M = (shelvesB M && cpusB M) by rw [WN.out, worldL, HGA.out, HTA.out]; rfl)
            have HTM := Lib.hid (show ∀ t, t < M.tasks.length → taskB M t = true from fun t ht => List.all_eq_true.1 HTA.out t (List.mem_range.2 ht))
            go_wp2
            clear HA hk8
            have b7 := b5.andThen hb
            clear hb b5 WN HGA HTA
            have pws : PA wr w.heap.size ca cc ta tc ga gc gh M := ⟨q0, q1, q2, q3, q4, q5⟩
            clear q0 q1 q2 q3 q4 q5 pwr
            obtain ⟨wp, hwp⟩ : ∃ wp : World, wp = wr := ⟨_, rfl⟩
            subst hwp
            go_loopw [2, 5, 6] (fun r i j wr => ∃ k : Nat, k ≤ 8 ∧ i = .int .i64 k ∧ r = .bool false ∧ (List.range k).all (fun g => (List.range (grp M g).shelves.length).all (shelfB M g)) = true ∧ Below wp.heap.size wp wr) (fun _ i _ _ => 8 - (intOf i).toNat)
            case atStart => exact ⟨0, by omega, rfl, rfl, rfl, Below.refl _ _⟩
            case round =>
              obtain ⟨k, hk, rfl, rfl, hall, hb⟩ := hrel
              have HA := Lib.hid hall
              clear hall
              by_cases hlt : k < 8
              · have hlg : k < M.groups.length := by have := HL.out; omega
                have HUS := Lib.hid (show ∀ c, c < (grp M k).shelves.length → (grp M k).used = true ∧ c < M.cpus.length from fun c hc => by
                  have hu : (grp M k).used = true := by
                    cases e : (grp M k).used with
                    | true => rfl
                    | false => rw [GZ.out k hlt e] at hc; omega
                  exact ⟨hu, by rw [← HG.out.she k hlt hu]; exact hc⟩)
                obtain ⟨q0, q1, q2, q3, q4, q5⟩ := pws.keep hb
                go_wp2
                have pwt : PA wr w.heap.size ca cc ta tc ga gc gh M := ⟨q0, q1, q2, q3, q4, q5⟩
                clear q0 q1 q2 q3 q4 q5
                obtain ⟨wq, hwq⟩ : ∃ wq : World, wq = wr := ⟨_, rfl⟩
                subst hwq
                go_loopw [2, 6] (fun r j wr2 => ∃ c : Nat, c ≤ (grp M k).shelves.length ∧ j = .int .i64 c ∧ r = .bool false ∧ (List.range c).all (shelfB M k) = true ∧ Below wq.heap.size wq wr2) (fun _ j _ => (grp M k).shelves.length - (intOf j).toNat)
                case atStart => exact ⟨0, by omega, rfl, rfl, rfl, Below.refl _ _⟩
                case round =>
                  obtain ⟨c, hcl, rfl, rfl, hall, hb2⟩ := hrel
                  have HA2 := Lib.hid hall
                  clear hall
                  obtain ⟨q0, q1, q2, q3, q4, q5⟩ := pwt.keep hb2
                  have q5' := q5
                  obtain ⟨b3, o3, rfl, hB3, f0, f1, f2, f3, f4, f5, f6, f7, f8, f9, f10, f11, f12, f13⟩ := q5.group_ hlg
                  clear f0 f1 f2 f3 f4 f5 f6 f7 f8 f9 f10 f11 f12
                  by_cases hlt2 : c < (grp M k).shelves.length
                  · obtain ⟨hu, hcc⟩ := HUS.out c hlt2
                    have HU := Lib.hid hu
                    clear hu
                    have fsh := hF.she k hlg
                    by_cases hgb : shelfB M k c = true
                    · have HGB := Lib.hid hgb
                      clear hgb
                      go_wp2_with (go_at_call 69; refine (sl8ShelfOk_any ca cc ta tc _ gc gh M _ q5' HT.out HG.out hF.task k c hlt HU.out hcc).mono ?_; rintro e w4 ⟨rfl, hb4⟩; rw [HGB.out])
                      go_roundw
                      case rel => exact ⟨c + 1, by omega, by go_num, rfl, by rw [all_succ, HA2.out, HGB.out]; rfl, hb2.andThen hb4⟩
                      case measure => simp [intOf]; omega
                    · have HGB := Lib.hid (show shelfB M k c = false by simpa using hgb)
                      clear hgb
                      go_wp2_with (go_at_call 69; refine (sl8ShelfOk_any ca cc ta tc _ gc gh M _ q5' HT.out HG.out hF.task k c hlt HU.out hcc).mono ?_; rintro e w4 ⟨rfl, hb4⟩; rw [HGB.out])
                      go_ret
                      exact ⟨ret_bool (by rw [WN2.out, shelvesB, all_of (k := k) hlt (all_of hlt2 HGB.out)]; rfl), b7.andThen (hb.andThen (hb2.andThen hb4))⟩
                  · have hc8 : c = (grp M k).shelves.length := by omega
                    have HSA := Lib.hid (show (List.range (grp M k).shelves.length).all (shelfB M k) = true by rw [← hc8]; exact HA2.out)
                    go_wp2
                    go_roundw
                    case rel => exact ⟨k + 1, by omega, by go_num, rfl, by rw [all_succ, HA.out, HSA.out]; rfl, hb.andThen hb2⟩
                    case measure => simp [intOf]; omega
              · have hlg : M.groups.length ≤ k := by have := HL.out; omega
                have hk8 : k = 8 := by omega
                have HSA := Lib.hid (show shelvesB M = true by rw [shelvesB, ← hk8]; exact HA.out)
                have WN3 := Lib.hid (show worldB M = cpusB M by rw [WN2.out, HSA.out]; rfl)
                have HSM := Lib.hid (show ∀ g c, g < 8 → (grp M g).used = true → c < M.cpus.length → shelfB M g c = true from fun g c hg hu hc =>
                  List.all_eq_true.1 (List.all_eq_true.1 HSA.out g (List.mem_range.2 hg)) c (List.mem_range.2 (by rw [HG.out.she g hg hu]; exact hc)))
                obtain ⟨q0, q1, q2, q3, q4, q5⟩ := pws.keep hb
                go_wp2
                clear HA hk8
                have b9 := b7.andThen hb
                have pwt : PA wr w.heap.size ca cc ta tc ga gc gh M := ⟨q0, q1, q2, q3, q4, q5⟩
                clear q0 q1 q2 q3 q4 q5 hb
                obtain ⟨wq, hwq⟩ : ∃ wq : World, wq = wr := ⟨_, rfl⟩
                subst hwq
                go_loopw [2, 7] (fun r j wr2 => ∃ c : Nat, c ≤ M.cpus.length ∧ j = .int .i64 c ∧ r = .bool false ∧ (List.range c).all (cpuB M) = true ∧ Below wq.heap.size wq wr2) (fun _ j _ => M.cpus.length - (intOf j).toNat)
                case atStart => exact ⟨0, by omega, rfl, rfl, rfl, Below.refl _ _⟩
                case round =>
                  obtain ⟨c, hcl, rfl, rfl, hall, hb2⟩ := hrel
                  have HA2 := Lib.hid hall
                  clear hall
                  obtain ⟨q0, q1, q2, q3, q4, q5⟩ := pwt.keep hb2
                  by_cases hlt2 : c < M.cpus.length
                  · by_cases hgb : cpuB M c = true
                    · have HGB := Lib.hid hgb
                      clear hgb
                      go_wp2_with (go_at_call 70; refine (sl8CpuOk_any ca cc ta tc ga gc gh M _ q5 HT.out HG.out hc4 hF.task HTM.out HSM.out c hlt2).mono ?_; rintro e w4 ⟨rfl, hb4⟩; rw [HGB.out])
                      go_roundw
                      case rel => exact ⟨c + 1, by omega, by go_num, rfl, by rw [all_succ, HA2.out, HGB.out]; rfl, hb2.andThen hb4⟩
                      case measure => simp [intOf]; omega
                    · have HGB := Lib.hid (show cpuB M c = false by simpa using hgb)
                      clear hgb
                      go_wp2_with (go_at_call 70; refine (sl8CpuOk_any ca cc ta tc ga gc gh M _ q5 HT.out HG.out hc4 hF.task HTM.out HSM.out c hlt2).mono ?_; rintro e w4 ⟨rfl, hb4⟩; rw [HGB.out])
                      go_ret
                      exact ⟨ret_bool (by rw [WN3.out, cpusB, all_of hlt2 HGB.out]), b9.andThen (hb2.andThen hb4)⟩
                  · have hc8 : c = M.cpus.length := by omega
                    have HSA2 := Lib.hid (show cpusB M = true by rw [cpusB, ← hc8]; exact HA2.out)
                    go_wp2
                    go_ret
                    exact ⟨ret_bool (by rw [WN3.out, HSA2.out]), b9.andThen hb2⟩
  · have WN := Lib.hid (show worldB M = false by rw [worldB]; simp only [Bool.not_eq_true] at hh; rw [hh]; rfl)
    have HH := Lib.hid hh
    clear hh
    by_cases hA : (inR M.now 0 100000000000000000 && inR M.cpus.length 1 4 && (M.tasks.length == 12)) = true
    · have hA2 := hA
      simp only [Bool.and_eq_true] at hA2
      obtain ⟨⟨h1, h2⟩, h3⟩ := hA2
      have hc4 : M.cpus.length ≤ 4 := by have := (inR_iff.1 h2).2; omega
      have h3' : ((M.tasks.length : Int) != 12) = false := by simp at h3; rw [h3]; rfl
      have HA := Lib.hid hA
      clear hA h3
      by_cases h4 : treeB M = true
      · have h5' : (ups M == 0) = true := by
          cases e : ups M == 0 with
          | true => rfl
          | false => exact absurd (by rw [worldH, HA.out, h4, e]; rfl) HH.out
        have hu0 : ups M = 0 := by simpa using h5'
        have HU0 := Lib.hid hu0
        clear hu0 h5'
        go_wp2_with (first | (go_at_call 64; refine (sl1In_any _ _ _ _).mono ?_; rintro e w' ⟨rfl, rfl⟩; first | rw [h1] | rw [h2]) | (go_at_call 65; refine (sTreeOk_any ca ta ga gc gh M _ q5 hF.group hF.name).mono ?_; rintro e w2 ⟨rfl, hb2⟩; rw [h4]; have r1 := (hb2.cell (p := ⟨w.heap.size, 0, none⟩) q0).trans q1; have r2 := (hb2.cell (p := ⟨w.heap.size, 1, none⟩) q0).trans q2; have r3 := (hb2.cell (p := ⟨w.heap.size, 2, none⟩) q0).trans q3; have r4 := (hb2.cell (p := ⟨w.heap.size, 3, none⟩) q0).trans q4; have r0 := Nat.lt_of_lt_of_le q0 hb2.size) | (go_at_call 66; refine (sl8Ups_any ca cc ta tc ga gc gh M _ (q5.keep hb2) hc4).mono ?_; rintro e w3 ⟨rfl, hb3⟩; rw [HU0.out]))
        go_ret
        exact ⟨ret_bool WN.out.symm, b1.andThen (hb2.andThen hb3)⟩
      · have h4' : treeB M = false := by simpa using h4
        clear h4
        go_wp2_with (first | (go_at_call 64; refine (sl1In_any _ _ _ _).mono ?_; rintro e w' ⟨rfl, rfl⟩; first | rw [h1] | rw [h2]) | (go_at_call 65; refine (sTreeOk_any ca ta ga gc gh M _ q5 hF.group hF.name).mono ?_; rintro e w2 ⟨rfl, hb2⟩; rw [h4']))
        go_ret
        exact ⟨ret_bool WN.out.symm, b1.andThen hb2⟩
    · by_cases h1 : inR M.now 0 100000000000000000 = true
      · by_cases h2 : inR M.cpus.length 1 4 = true
        · have h3' : ((M.tasks.length : Int) != 12) = true := by
            simp only [h1, h2, Bool.true_and, beq_iff_eq] at hA
            simp
            omega
          clear hA
          go_wp2_with (go_at_call 64; refine (sl1In_any _ _ _ _).mono ?_; rintro e w' ⟨rfl, rfl⟩; first | rw [h1] | rw [h2])
          go_ret
          exact ⟨ret_bool WN.out.symm, b1⟩
        · have h2' : inR M.cpus.length 1 4 = false := by simpa using h2
          clear hA h2
          go_wp2_with (go_at_call 64; refine (sl1In_any _ _ _ _).mono ?_; rintro e w' ⟨rfl, rfl⟩; first | rw [h1] | rw [h2'])
          go_ret
          exact ⟨ret_bool WN.out.symm, b1⟩
      · have h1' : inR M.now 0 100000000000000000 = false := by simpa using h1
        clear hA h1
        go_wp2_with (go_at_call 64; refine (sl1In_any _ _ _ _).mono ?_; rintro e w' ⟨rfl, rfl⟩; rw [h1'])
        go_ret
        exact ⟨ret_bool WN.out.symm, b1⟩
end Go.Proofs.YtknfpigaognklaaGreatDoor
