/- The reference's walks over weights and sets of processors. -/
import Derived.Test.YtknfpigaognklaaGreatDoorMd
namespace Go.Proofs.YtknfpigaognklaaGreatDoor
open Go.RowKit
set_option maxHeartbeats 400000 in
theorem sl1In_any (n a b : Int) (w : World) :
    Calls Tryz.prog 64 #[.int .i64 n, .int .i64 a, .int .i64 b] w fun e w' => e = .returned (.bool (inR n a b)) ∧ w = w' := by
  go_enter Tryz.func64, Tryz.ntmps64
  go_wp2
  all_goals go_ret
  all_goals exact ⟨ret_bool (by simp [inR]; try omega), rfl⟩
set_option maxHeartbeats 400000 in
theorem sl1Weight_any (n : Int) (w : World) :
    Calls Tryz.prog 124 #[.int .i64 n] w fun e w' => e = .returned (.bool (inR n 1 20)) ∧ w = w' := by
  go_enter Tryz.func124, Tryz.ntmps124
  go_wp2_with (go_at_call 64; refine (sl1In_any _ _ _ _).mono ?_; rintro e w' ⟨rfl, rfl⟩)
  go_ret
  exact ⟨rfl, rfl⟩
set_option maxHeartbeats 400000 in
theorem sl4Time_any (n : Int) (w : World) :
    Calls Tryz.prog 126 #[.int .i64 n] w fun e w' => e = .returned (.bool (timeB n)) ∧ w = w' := by
  go_enter Tryz.func126, Tryz.ntmps126
  go_wp2_with (go_at_call 64; refine (sl1In_any _ _ _ _).mono ?_; rintro e w' ⟨rfl, rfl⟩)
  go_ret
  exact ⟨rfl, rfl⟩
set_option maxHeartbeats 400000 in
theorem sMaskOk_any (n : Int) (w : World) :
    Calls Tryz.prog 125 #[.int .i64 n] w fun e w' => e = .returned (.bool (inR n 0 15)) ∧ w = w' := by
  go_enter Tryz.func125, Tryz.ntmps125
  go_wp2_with (go_at_call 64; refine (sl1In_any _ _ _ _).mono ?_; rintro e w' ⟨rfl, rfl⟩)
  go_ret
  exact ⟨rfl, rfl⟩
set_option maxHeartbeats 400000 in
theorem sWeightOf_any (n : Int) (w : World) :
    Calls Tryz.prog 128 #[.int .i64 n] w fun e w' => e = .returned (.int .i64 (wof n)) ∧ w = w' := by
  by_cases h : inR n (-10) 9 = true
  · have hb := inR_iff.1 h
    go_enter Tryz.func128, Tryz.ntmps128
    go_wp2_with (go_at_call 64; refine (sl1In_any _ _ _ _).mono ?_; rintro e w' ⟨rfl, rfl⟩; rw [h])
    go_ret
    exact ⟨ret_int (by rw [wof, if_pos h]), rfl⟩
  · have h' : inR n (-10) 9 = false := by simpa using h
    go_enter Tryz.func128, Tryz.ntmps128
    go_wp2_with (go_at_call 64; refine (sl1In_any _ _ _ _).mono ?_; rintro e w' ⟨rfl, rfl⟩; rw [h'])
    go_ret
    exact ⟨ret_int (by rw [wof, if_neg h]), rfl⟩
set_option maxHeartbeats 400000 in
theorem sVirtualStep_any (u n : Int) (w : World) :
    Calls Tryz.prog 174 #[.int .i64 u, .int .i64 n] w fun e w' => e = .returned (.int .i64 (vstep u n)) ∧ w = w' := by
  by_cases h : inR n 1 20 = true
  · by_cases h2 : inR u 0 100000000 = true
    · have hb := inR_iff.1 h
      have hb2 := inR_iff.1 h2
      have hs := step_bd n hb.1 hb.2
      have hp := prod_bd hb2.1 hb2.2 (by omega) hs.2
      go_enter Tryz.func174, Tryz.ntmps174
      go_wp2_with (first | (go_at_call 124; refine (sl1Weight_any _ _).mono ?_; rintro e w' ⟨rfl, rfl⟩; rw [h]) | (go_at_call 64; refine (sl1In_any _ _ _ _).mono ?_; rintro e w' ⟨rfl, rfl⟩; rw [h2]))
      go_ret
      exact ⟨ret_int (by rw [vstep, h, h2]; rfl), rfl⟩
    · have h2' : inR u 0 100000000 = false := by simpa using h2
      go_enter Tryz.func174, Tryz.ntmps174
      go_wp2_with (first | (go_at_call 124; refine (sl1Weight_any _ _).mono ?_; rintro e w' ⟨rfl, rfl⟩; rw [h]) | (go_at_call 64; refine (sl1In_any _ _ _ _).mono ?_; rintro e w' ⟨rfl, rfl⟩; rw [h2']))
      go_ret
      exact ⟨ret_int (by rw [vstep, h, h2']; rfl), rfl⟩
  · have h' : inR n 1 20 = false := by simpa using h
    go_enter Tryz.func174, Tryz.ntmps174
    go_wp2_with (first | (go_at_call 124; refine (sl1Weight_any _ _).mono ?_; rintro e w' ⟨rfl, rfl⟩; rw [h']))
    go_ret
    exact ⟨ret_int (by rw [vstep, h']; rfl), rfl⟩
set_option maxHeartbeats 400000 in
theorem sLagMost_any (n : Int) (w : World) :
    Calls Tryz.prog 173 #[.int .i64 n] w fun e w' => e = .returned (.int .i64 (lagM n)) ∧ w = w' := by
  go_enter Tryz.func173, Tryz.ntmps173
  go_wp2_with (go_at_call 174; refine (sVirtualStep_any _ _ _).mono ?_; rintro e w' ⟨rfl, rfl⟩)
  go_ret
  exact ⟨rfl, rfl⟩
theorem mhas_tmod {m c : Int} (h : inR m 0 15 = true) (h2 : inR c 0 3 = true) : ((m / 2 ^ c.toNat).tmod 2 == 1) = mhas m c := by
  have hb := inR_iff.1 h
  have h3 : (0 : Int) ≤ 2 ^ c.toNat := Int.pow_nonneg (by omega)
  rw [mhas, h, h2, Int.tmod_eq_emod_of_nonneg (Int.ediv_nonneg hb.1 h3)]
  rfl
set_option maxHeartbeats 400000 in
theorem sMaskHas_any (m c : Int) (w : World) :
    Calls Tryz.prog 129 #[.int .i64 m, .int .i64 c] w fun e w' => e = .returned (.bool (mhas m c)) ∧ w = w' := by
  by_cases h : inR m 0 15 = true
  · by_cases h2 : inR c 0 3 = true
    · obtain ⟨hb0, hb1⟩ := inR_iff.1 h
      obtain ⟨hb2, hb3⟩ := inR_iff.1 h2
      go_enter Tryz.func129, Tryz.ntmps129
      go_wp2_with (first | (go_at_call 125; refine (sMaskOk_any _ _).mono ?_; rintro e w' ⟨rfl, rfl⟩; rw [h]) | (go_at_call 64; refine (sl1In_any _ _ _ _).mono ?_; rintro e w' ⟨rfl, rfl⟩; rw [h2]))
      go_ret
      exact ⟨ret_bool (mhas_tmod h h2), rfl⟩
    · have h2' : inR c 0 3 = false := by simpa using h2
      go_enter Tryz.func129, Tryz.ntmps129
      go_wp2_with (first | (go_at_call 125; refine (sMaskOk_any _ _).mono ?_; rintro e w' ⟨rfl, rfl⟩; rw [h]) | (go_at_call 64; refine (sl1In_any _ _ _ _).mono ?_; rintro e w' ⟨rfl, rfl⟩; rw [h2']))
      go_ret
      exact ⟨ret_bool (by rw [mhas, h, h2']; rfl), rfl⟩
  · have h' : inR m 0 15 = false := by simpa using h
    go_enter Tryz.func129, Tryz.ntmps129
    go_wp2_with (first | (go_at_call 125; refine (sMaskOk_any _ _).mono ?_; rintro e w' ⟨rfl, rfl⟩; rw [h']))
    go_ret
    exact ⟨ret_bool (by rw [mhas, h']; rfl), rfl⟩
set_option maxHeartbeats 1000000 in
theorem sMaskAnd_any (a b : Int) (w : World) :
    Calls Tryz.prog 171 #[.int .i64 a, .int .i64 b] w fun e w' => e = .returned (.int .i64 (mand a b)) ∧ w = w' := by
  by_cases h : inR a 0 15 = true
  · by_cases h2 : inR b 0 15 = true
    · go_enter Tryz.func171, Tryz.ntmps171
      go_wp2_with fail
      refine (sMaskOk_any _ _).mono ?_
      rintro e w' ⟨rfl, rfl⟩
      rw [h]
      go_wp2_with fail
      refine (sMaskOk_any _ _).mono ?_
      rintro e w' ⟨rfl, rfl⟩
      rw [h2]
      go_wp2
      go_loop [5, 6] (fun m i => ∃ k : Nat, k ≤ 4 ∧ i = .int .i64 k ∧ m = .int .i64 (mandTo a b k)) (fun _ i => 4 - (intOf i).toNat)
      case atStart => exact ⟨0, by omega, rfl, rfl⟩
      case round =>
        obtain ⟨k, hk, rfl, rfl⟩ := hrel
        have hm := mandTo_bd a b k hk
        by_cases hlt : k < 4
        · have hp := pow_bd hlt
          go_wp2_with fail
          refine (sMaskHas_any _ _ _).mono ?_
          rintro e w' ⟨rfl, rfl⟩
          go_wp2_with (go_at_call 129; refine (sMaskHas_any b k _).mono ?_; rintro e w' ⟨rfl, rfl⟩)
          all_goals
            go_round
            case rel => exact ⟨k + 1, by omega, by go_num, val_eq (by simp [mandTo, *])⟩
            case measure => simp [intOf]; omega
        · go_wp2
          go_ret
          exact ⟨ret_int (by rw [show k = 4 by omega]; exact mand_to a b h h2), rfl⟩
    · have h2' : inR b 0 15 = false := by simpa using h2
      go_enter Tryz.func171, Tryz.ntmps171
      go_wp2_with fail
      refine (sMaskOk_any _ _).mono ?_
      rintro e w' ⟨rfl, rfl⟩
      rw [h]
      go_wp2_with fail
      refine (sMaskOk_any _ _).mono ?_
      rintro e w' ⟨rfl, rfl⟩
      rw [h2']
      go_wp2
      go_ret
      exact ⟨ret_int (by rw [mand, h, h2']; rfl), rfl⟩
  · have h' : inR a 0 15 = false := by simpa using h
    go_enter Tryz.func171, Tryz.ntmps171
    go_wp2_with fail
    refine (sMaskOk_any _ _).mono ?_
    rintro e w' ⟨rfl, rfl⟩
    rw [h']
    go_wp2
    go_ret
    exact ⟨ret_int (by rw [mand, h']; rfl), rfl⟩
end Go.Proofs.YtknfpigaognklaaGreatDoor
