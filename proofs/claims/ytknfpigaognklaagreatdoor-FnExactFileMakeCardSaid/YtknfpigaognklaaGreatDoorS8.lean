/- The reference's walks over names and the tree of groups. -/
import Derived.Test.YtknfpigaognklaaGreatDoorS4
import Derived.Deep.Cut
namespace Go.Proofs.YtknfpigaognklaaGreatDoor
open Go.RowKit Go.Sort
set_option maxHeartbeats 1000000 in
theorem sl6File_any (s : ByteArray) (w : World) :
    Calls Tryz.prog 106 #[.string s] w fun e w' => e = .returned (.bool (fileB s)) ∧ w = w' := by
  go_enter Tryz.func106, Tryz.ntmps106
  go_wp2
  all_goals go_ret
  all_goals exact ⟨ret_bool (by simp [fileB, *]), rfl⟩
set_option maxHeartbeats 1000000 in
theorem sNameOk_any (s : ByteArray) (w : World) (hm : s.size ≤ 1048576) :
    Calls Tryz.prog 57 #[.string s] w fun e w' => e = .returned (.bool (nameB s)) ∧ w = w' := by
  by_cases h1 : inR s.size 1 8 = true
  · by_cases h2 : fileB s = true
    · go_enter Tryz.func57, Tryz.ntmps57
      go_wp2_with (first | (go_at_call 64; refine (sl1In_any _ _ _ _).mono ?_; rintro e w' ⟨rfl, rfl⟩; rw [h1]) | (go_at_call 106; refine (sl6File_any _ _).mono ?_; rintro e w' ⟨rfl, rfl⟩; rw [h2]))
      go_ret
      exact ⟨ret_bool (by rw [nameB, h1, h2]; rfl), rfl⟩
    · have h2' : fileB s = false := by simpa using h2
      have NN := Lib.hid (show nameB s = s.data.toList.all charB by rw [nameB, h1, h2']; rfl)
      go_enter Tryz.func57, Tryz.ntmps57
      go_wp2_with (first | (go_at_call 64; refine (sl1In_any _ _ _ _).mono ?_; rintro e w' ⟨rfl, rfl⟩; rw [h1]) | (go_at_call 106; refine (sl6File_any _ _).mono ?_; rintro e w' ⟨rfl, rfl⟩; rw [h2']))
      go_loop [2, 3] (fun r i => ∃ k : Nat, k ≤ s.size ∧ i = .int .i64 k ∧ r = .bool false ∧ (s.data.toList.take k).all charB = true) (fun _ i => s.size - (intOf i).toNat)
      case atStart => exact ⟨0, by omega, rfl, rfl, by simp⟩
      case round =>
        obtain ⟨k, hk, rfl, rfl, hall⟩ := hrel
        have HA := Lib.hid hall
        clear hall
        by_cases hlt : k < s.size
        · have hlt' : k < s.data.toList.length := by simpa using hlt
          have hsk : s.data.toList[k] = s[k] := by simp [ByteArray.getElem_eq_getElem_data]
          by_cases hz : 97 ≤ (s[k].toNat : Int) ∧ (s[k].toNat : Int) ≤ 122
          · have hcb : charB s[k] = true := by simp only [charB, inR, Bool.or_eq_true, Bool.and_eq_true, decide_eq_true_eq]; omega
            have HCB := Lib.hid hcb
            obtain ⟨z1, z2⟩ := hz
            clear hcb
            go_wp2
            go_round
            case rel => exact ⟨k + 1, by omega, by go_num, rfl, all_snoc hlt' HA.out (by rw [hsk]; exact HCB.out)⟩
            case measure => simp [intOf]; omega
          · by_cases hd : 48 ≤ (s[k].toNat : Int) ∧ (s[k].toNat : Int) ≤ 57
            · have hcb : charB s[k] = true := by simp only [charB, inR, Bool.or_eq_true, Bool.and_eq_true, decide_eq_true_eq]; omega
              have HCB := Lib.hid hcb
              obtain ⟨z1, z2⟩ := hd
              clear hcb hz
              have z3 : (s[k].toNat : Int) < 97 := by omega
              go_wp2
              go_round
              case rel => exact ⟨k + 1, by omega, by go_num, rfl, all_snoc hlt' HA.out (by rw [hsk]; exact HCB.out)⟩
              case measure => simp [intOf]; omega
            · by_cases h3 : (s[k].toNat : Int) < 48
              · have hcb : charB s[k] = false := by simp only [charB, inR, Bool.or_eq_false_iff, Bool.and_eq_false_iff, decide_eq_false_iff_not]; omega
                have HCB := Lib.hid hcb
                clear hcb
                go_wp2
                go_ret
                exact ⟨ret_bool (by rw [NN.out, all_not hlt' (by rw [hsk]; exact HCB.out)]), rfl⟩
              · by_cases h4 : (s[k].toNat : Int) < 97
                · have h9 : decide ((s[k].toNat : Int) ≤ 57) = false := decide_eq_false (by omega)
                  have h5 : 57 < (s[k].toNat : Int) := by omega
                  have h6 : 48 ≤ (s[k].toNat : Int) := by omega
                  have hcb : charB s[k] = false := by simp only [charB, inR, Bool.or_eq_false_iff, Bool.and_eq_false_iff, decide_eq_false_iff_not]; omega
                  have HCB := Lib.hid hcb
                  clear hcb
                  go_wp2
                  go_ret
                  exact ⟨ret_bool (by rw [NN.out, all_not hlt' (by rw [hsk]; exact HCB.out)]), rfl⟩
                · have h9 : decide ((s[k].toNat : Int) ≤ 57) = false := decide_eq_false (by omega)
                  have h10 : decide ((s[k].toNat : Int) ≤ 122) = false := decide_eq_false (by omega)
                  have h5 : 122 < (s[k].toNat : Int) := by omega
                  have h6 : 97 ≤ (s[k].toNat : Int) := by omega
                  have h7 : 48 ≤ (s[k].toNat : Int) := by omega
                  have h8 : 57 < (s[k].toNat : Int) := by omega
                  have hcb : charB s[k] = false := by simp only [charB, inR, Bool.or_eq_false_iff, Bool.and_eq_false_iff, decide_eq_false_iff_not]; omega
                  have HCB := Lib.hid hcb
                  clear hcb
                  go_wp2
                  go_ret
                  exact ⟨ret_bool (by rw [NN.out, all_not hlt' (by rw [hsk]; exact HCB.out)]), rfl⟩
        · go_wp2
          go_ret
          rw [List.take_of_length_le (by simp; omega)] at HA
          exact ⟨ret_bool (by rw [NN.out, HA.out]), rfl⟩
  · have h1' : inR s.size 1 8 = false := by simpa using h1
    go_enter Tryz.func57, Tryz.ntmps57
    go_wp2_with (first | (go_at_call 64; refine (sl1In_any _ _ _ _).mono ?_; rintro e w' ⟨rfl, rfl⟩; rw [h1']))
    go_ret
    exact ⟨ret_bool (by rw [nameB, h1']; rfl), rfl⟩
set_option maxHeartbeats 1000000 in
theorem sl6Depth_any (ca ta ga : Option Addr) (gc : Nat) (gh : Nat → GH) (M : WorldM) (w : World) (hs : WA w ca ta ga gh M) (hlen : M.groups.length ≤ 8) (hge : 8 ≤ M.groups.length) (g : Int) :
    Calls Tryz.prog 109 #[.slice ga M.groups.length gc, .int .i64 g] w fun e w' => e = .returned (.int .i64 (depL M 9 0 g)) ∧ w = w' := by
  obtain ⟨b, o, rfl, hB, c0, c1⟩ := hs.group_ (show 0 < M.groups.length by omega)
  clear c0 c1
  go_enter Tryz.func109, Tryz.ntmps109
  go_wp2
  go_loop [1, 4, 5] (fun i r n => ∃ (k : Nat) (h : Int), k ≤ 9 ∧ n = .int .i64 k ∧ r = .int .i64 0 ∧ i = .int .i64 h ∧ depL M (9 - k) k h = depL M 9 0 g) (fun _ _ n => 9 - (intOf n).toNat)
  case atStart => exact ⟨0, g, by omega, rfl, rfl, rfl, rfl⟩
  case round =>
    obtain ⟨k, h, hk, rfl, rfl, rfl, hd⟩ := hrel
    have HD := Lib.hid hd
    clear hd
    by_cases hlt : k < 9
    · have e9 : 9 - k = (8 - k) + 1 := by omega
      by_cases hu : usedI M h = true
      · have hu' := hu
        simp only [usedI, Bool.and_eq_true, decide_eq_true_eq] at hu'
        obtain ⟨⟨u1, u2⟩, u3⟩ := hu'
        by_cases h0 : h = 0
        · subst h0
          have HV := Lib.hid (show depL M (9 - k) k 0 = k by rw [e9, depL, if_pos hu, if_pos rfl])
          clear u1 u2 u3
          go_wp2_with (go_at_call 108; refine (sl6Used_any ca ta _ gc gh M _ hs _).mono ?_; rintro e w' ⟨rfl, rfl⟩; rw [hu])
          go_ret
          exact ⟨ret_int (by rw [← HD.out, HV.out]), rfl⟩
        · have HV := Lib.hid (show depL M (9 - k) k h = depL M (8 - k) (k + 1) (grp M h.toNat).parent by rw [e9, depL, if_pos hu, if_neg h0])
          have hne : (h == 0) = false := by simpa using h0
          obtain ⟨b2, o2, e2, hB2, d0, d1, d2⟩ := hs.group_ (show h.toNat < M.groups.length by omega)
          have e3 : b2 = b ∧ o2 = o := by simpa [eq_comm] using e2
          obtain ⟨rfl, rfl⟩ := e3
          clear e2 d0 d2 u3 h0
          go_wp2_with (go_at_call 108; refine (sl6Used_any ca ta _ gc gh M _ hs _).mono ?_; rintro e w' ⟨rfl, rfl⟩; rw [hu])
          go_round
          case rel => exact ⟨k + 1, _, by omega, by go_num, rfl, rfl, by rw [← HD.out, HV.out]; congr 1; omega⟩
          case measure => simp [intOf]; omega
      · have hu' : usedI M h = false := by simpa using hu
        have HV := Lib.hid (show depL M (9 - k) k h = -1 by rw [e9, depL, if_neg hu])
        go_wp2_with (go_at_call 108; refine (sl6Used_any ca ta _ gc gh M _ hs _).mono ?_; rintro e w' ⟨rfl, rfl⟩; rw [hu'])
        go_ret
        exact ⟨ret_int (by rw [← HD.out, HV.out]), rfl⟩
    · go_wp2
      go_ret
      exact ⟨ret_int (by rw [← HD.out, show 9 - k = 0 by omega, depL]), rfl⟩
set_option maxRecDepth 100000 in
set_option maxHeartbeats 2000000 in
theorem sTreeOk_any (ca ta ga : Option Addr) (gc : Nat) (gh : Nat → GH) (M : WorldM) (w : World) (hs : WA w ca ta ga gh M) (hgm : M.groups.length ≤ 1048576) (hnm : ∀ k, k < M.groups.length → (grp M k).name.size ≤ 1048576) :
    Calls Tryz.prog 65 #[.slice ga M.groups.length gc] w fun e w' => e = .returned (.bool (treeB M)) ∧ Below w.heap.size w w' := by
  by_cases hlen : M.groups.length = 8
  · have hl1 : M.groups.length ≤ 8 := by omega
    have hl2 : 8 ≤ M.groups.length := by omega
    have HL := Lib.hid hlen
    have HNM := Lib.hid hnm
    clear hnm
    obtain ⟨b, o, rfl, hB, c0, c1, c2, c3⟩ := hs.group_ (show 0 < M.groups.length by omega)
    simp only [Nat.zero_mul, Nat.add_zero] at c0 c1 c2
    have hlb : ((M.groups.length : Int) != 8) = false := by rw [hlen]; rfl
    clear c3 hlen
    by_cases hr : ((grp M 0).used && ((grp M 0).parent == -1) && (grp M 0).name.toList.isEmpty) = true
    · have hr' := hr
      simp only [Bool.and_eq_true] at hr'
      obtain ⟨⟨r1, r2⟩, r3⟩ := hr'
      have TN := Lib.hid (show treeB M = (List.range 8).all (fun g => g == 0 || nodeB M g) by rw [treeB, HL.out, r1, r2, r3]; rfl)
      have r2' : ((grp M 0).parent != -1) = false := by rw [bne, r2]; rfl
      clear hr r2
      go_enter Tryz.func65, Tryz.ntmps65
      go_wp2
      go_loopw [2, 3, 4] (fun r i j wr => ∃ g : Nat, 1 ≤ g ∧ g ≤ 8 ∧ i = .int .i64 g ∧ r = .bool false ∧ (List.range g).all (fun g => g == 0 || nodeB M g) = true ∧ Below w.heap.size w wr) (fun _ i _ _ => 8 - (intOf i).toNat)
      case atStart => exact ⟨1, by omega, by omega, rfl, rfl, rfl, Below.refl _ _⟩
      case round =>
        obtain ⟨g, hg1, hg8, rfl, rfl, hall, hb⟩ := hrel
        have HA := Lib.hid hall
        clear hall
        have q5 := hs.keep hb
        by_cases hlt : g < 8
        · obtain ⟨b2, o2, e2, hB2, d0, d1, d2, d3⟩ := q5.group_ (show g < M.groups.length by omega)
          have e3 : b2 = b ∧ o2 = o := by simpa [eq_comm] using e2
          obtain ⟨rfl, rfl⟩ := e3
          have hg0 : (g == 0) = false := by simp; omega
          have HG0 := Lib.hid hg0
          clear e2 d3 d1 hg0
          by_cases hu : (grp M g).used = true
          · have hnl := HNM.out g (by omega)
            by_cases hnb : nameB (grp M g).name = true
            · have HNB := Lib.hid hnb
              clear hnb
              by_cases hdb : inR (depL M 9 0 g) 1 3 = true
              · have HDB := Lib.hid hdb
                have NG := Lib.hid (show (g == 0 || nodeB M g) = !(List.range g).any (fun h => h != 0 && sameB M g h) by rw [HG0.out, nodeB, hu, HNB.out, hdb]; rfl)
                have HU := Lib.hid hu
                clear hdb
                go_wp2_with (first | (go_at_call 57; refine (sNameOk_any _ _ hnl).mono ?_; rintro e w' ⟨rfl, rfl⟩; rw [HNB.out]) | (go_at_call 109; refine (sl6Depth_any ca ta _ gc gh M _ q5 hl1 hl2 _).mono ?_; rintro e w' ⟨rfl, rfl⟩) | (go_at_call 64; refine (sl1In_any _ _ _ _).mono ?_; rintro e w' ⟨rfl, rfl⟩; rw [HDB.out]))
                clear d0 d2
                obtain ⟨wo, hwo⟩ : ∃ wo : World, wo = wr := ⟨_, rfl⟩
                subst hwo
                go_loopw [2, 4] (fun r j wr2 => ∃ h : Nat, 1 ≤ h ∧ h ≤ g ∧ j = .int .i64 h ∧ r = .bool false ∧ (List.range h).any (fun h => h != 0 && sameB M g h) = false ∧ Below wo.heap.size wo wr2) (fun _ j _ => g - (intOf j).toNat)
                case atStart => exact ⟨1, by omega, by omega, rfl, rfl, rfl, Below.refl _ _⟩
                case round =>
                  obtain ⟨h, hh1, hh2, rfl, rfl, hany, hb2⟩ := hrel
                  have HA2 := Lib.hid hany
                  clear hany
                  by_cases hlh : h < g
                  · have q6 := q5.keep hb2
                    obtain ⟨b3, o3, e3, hB3, f0, f1, f2, f3⟩ := q6.group_ (show h < M.groups.length by omega)
                    have e4 : b3 = b2 ∧ o3 = o2 := by simpa [eq_comm] using e3
                    obtain ⟨rfl, rfl⟩ := e4
                    obtain ⟨b4, o4, e4, hB4, k0, k1, k2, k3⟩ := q6.group_ (show g < M.groups.length by omega)
                    have e5 : b4 = b3 ∧ o4 = o3 := by simpa [eq_comm] using e4
                    obtain ⟨rfl, rfl⟩ := e5
                    rw [HU.out] at k0
                    have hz : h ≠ 0 := by omega
                    clear e3 e4 f3 k0 k3 hu
                    by_cases hu2 : (grp M h).used = true
                    · rw [hu2] at f0
                      by_cases hp : ((grp M h).parent == (grp M g).parent) = true
                      · by_cases hnm : ((grp M h).name.toList == (grp M g).name.toList) = true
                        · have HSM := Lib.hid (show sameB M g h = true by rw [sameB, hu2, hp, hnm]; rfl)
                          clear hu2
                          go_wp2_with fail
                          go_quiet (fail)
                          go_wp2
                          go_ret
                          exact ⟨ret_bool (by rw [TN.out, all_of hlt (by rw [NG.out, any_of hlh (show (h != 0 && sameB M g h) = true by rw [HSM.out]; simpa using hz)]; rfl)]), (hb.trans (hb2.mono hb.size)).drewN _⟩
                        · have hnm' : ((grp M h).name.toList == (grp M g).name.toList) = false := by simpa using hnm
                          have HSM := Lib.hid (show sameB M g h = false by rw [sameB, hu2, hp, hnm']; rfl)
                          clear hu2 hnm
                          go_wp2_with fail
                          go_quiet (fail)
                          go_wp2
                          go_roundw
                          case rel => exact ⟨h + 1, by omega, by omega, by go_num, rfl, by rw [any_succ, HA2.out, HSM.out]; simp, hb2.drewN _⟩
                          case measure => simp [intOf]; omega
                      · have hp' : ((grp M h).parent == (grp M g).parent) = false := by simpa using hp
                        have HSM := Lib.hid (show sameB M g h = false by rw [sameB, hu2, hp']; rfl)
                        clear hu2 hp
                        go_wp2_with fail
                        go_quiet (fail)
                        go_wp2
                        go_roundw
                        case rel => exact ⟨h + 1, by omega, by omega, by go_num, rfl, by rw [any_succ, HA2.out, HSM.out]; simp, hb2.drewN _⟩
                        case measure => simp [intOf]; omega
                    · have hu2' : (grp M h).used = false := by simpa using hu2
                      have HSM := Lib.hid (show sameB M g h = false by rw [sameB, hu2']; rfl)
                      rw [hu2'] at f0
                      clear hu2 hu2'
                      go_wp2_with fail
                      go_quiet (fail)
                      go_wp2
                      go_roundw
                      case rel => exact ⟨h + 1, by omega, by omega, by go_num, rfl, by rw [any_succ, HA2.out, HSM.out]; simp, hb2.drewN _⟩
                      case measure => simp [intOf]; omega
                  · have NG2 := Lib.hid (show (g == 0 || nodeB M g) = true by have e : h = g := (by omega); subst e; rw [NG.out, HA2.out]; rfl)
                    go_wp2
                    go_roundw
                    case rel => exact ⟨g + 1, by omega, by omega, by go_num, rfl, by rw [all_succ, HA.out, NG2.out]; rfl, hb.trans (hb2.mono hb.size)⟩
                    case measure => simp [intOf]; omega
              · have HDB := Lib.hid (show inR (depL M 9 0 g) 1 3 = false by simpa using hdb)
                have NG := Lib.hid (show (g == 0 || nodeB M g) = false by rw [HG0.out, nodeB, hu, HNB.out, HDB.out]; rfl)
                clear hdb
                go_wp2_with (first | (go_at_call 57; refine (sNameOk_any _ _ hnl).mono ?_; rintro e w' ⟨rfl, rfl⟩; rw [HNB.out]) | (go_at_call 109; refine (sl6Depth_any ca ta _ gc gh M _ q5 hl1 hl2 _).mono ?_; rintro e w' ⟨rfl, rfl⟩) | (go_at_call 64; refine (sl1In_any _ _ _ _).mono ?_; rintro e w' ⟨rfl, rfl⟩; rw [HDB.out]))
                go_ret
                exact ⟨ret_bool (by rw [TN.out, all_of hlt NG.out]), hb⟩
            · have HNB := Lib.hid (show nameB (grp M g).name = false by simpa using hnb)
              have NG := Lib.hid (show (g == 0 || nodeB M g) = false by rw [HG0.out, nodeB, hu, HNB.out]; rfl)
              clear hnb
              go_wp2_with (go_at_call 57; refine (sNameOk_any _ _ hnl).mono ?_; rintro e w' ⟨rfl, rfl⟩; rw [HNB.out])
              go_ret
              exact ⟨ret_bool (by rw [TN.out, all_of hlt NG.out]), hb⟩
          · have hu' : (grp M g).used = false := by simpa using hu
            have NG := Lib.hid (show (g == 0 || nodeB M g) = true by rw [nodeB, hu']; simp)
            rw [hu'] at d0
            clear hu hu'
            go_wp2
            go_roundw
            case rel => exact ⟨g + 1, by omega, by omega, by go_num, rfl, by rw [all_succ, HA.out, NG.out]; rfl, hb⟩
            case measure => simp [intOf]; omega
        · go_wp2
          go_ret
          exact ⟨ret_bool (by rw [TN.out, ← show g = 8 by omega, HA.out]), hb⟩
    · have TN := Lib.hid (show treeB M = false by rw [treeB, HL.out]; simp only [Bool.not_eq_true] at hr; rw [show ((8 : Nat) == 8) = true from rfl, Bool.true_and, hr]; rfl)
      have HR := Lib.hid hr
      clear hr
      go_enter Tryz.func65, Tryz.ntmps65
      go_upto_region 3 with (fail)
      all_goals first
        | (go_wp2; go_ret; exact ⟨ret_bool TN.out.symm, Below.refl _ _⟩)
        | exact absurd (show _ = true by simp_all) HR.out
  · have hlb : ((M.groups.length : Int) != 8) = true := by simp; omega
    have TN := Lib.hid (show treeB M = false by rw [treeB, show (M.groups.length == 8) = false by simpa using hlen]; rfl)
    clear hlen
    go_enter Tryz.func65, Tryz.ntmps65
    go_wp2
    go_ret
    exact ⟨ret_bool TN.out.symm, Below.refl _ _⟩
end Go.Proofs.YtknfpigaognklaaGreatDoor
