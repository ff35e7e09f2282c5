/- The program's own walks over weights and sets of processors. -/
import Derived.Test.YtknfpigaognklaaGreatDoorMk
namespace Go.Proofs.YtknfpigaognklaaGreatDoor
open Go.RowKit
set_option maxHeartbeats 400000 in
theorem iInRange_any (n a b : Int) (w : World) :
    Calls Tryz.prog 111 #[.int .i64 n, .int .i64 a, .int .i64 b] w fun e w' => e = .returned (.bool (inR n a b)) ∧ w = w' := by
  go_enter Tryz.func111, Tryz.ntmps111
  go_wp2
  all_goals go_ret
  all_goals exact ⟨ret_bool (by simp [inR]; try omega), rfl⟩
set_option maxHeartbeats 400000 in
theorem iWeightOk_any (n : Int) (w : World) :
    Calls Tryz.prog 141 #[.int .i64 n] w fun e w' => e = .returned (.bool (inR n 1 20)) ∧ w = w' := by
  go_enter Tryz.func141, Tryz.ntmps141
  go_wp2_with (go_at_call 111; refine (iInRange_any _ _ _ _).mono ?_; rintro e w' ⟨rfl, rfl⟩)
  go_ret
  exact ⟨rfl, rfl⟩
set_option maxHeartbeats 400000 in
theorem iNiceOk_any (n : Int) (w : World) :
    Calls Tryz.prog 144 #[.int .i64 n] w fun e w' => e = .returned (.bool (inR n (-10) 9)) ∧ w = w' := by
  go_enter Tryz.func144, Tryz.ntmps144
  go_wp2_with (go_at_call 111; refine (iInRange_any _ _ _ _).mono ?_; rintro e w' ⟨rfl, rfl⟩)
  go_ret
  exact ⟨rfl, rfl⟩
set_option maxHeartbeats 400000 in
theorem iLoadOk_any (n : Int) (w : World) :
    Calls Tryz.prog 145 #[.int .i64 n] w fun e w' => e = .returned (.bool (inR n 0 8000000)) ∧ w = w' := by
  go_enter Tryz.func145, Tryz.ntmps145
  go_wp2_with (go_at_call 111; refine (iInRange_any _ _ _ _).mono ?_; rintro e w' ⟨rfl, rfl⟩)
  go_ret
  exact ⟨rfl, rfl⟩
set_option maxHeartbeats 400000 in
theorem iSetOk_any (n : Int) (w : World) :
    Calls Tryz.prog 199 #[.int .i64 n] w fun e w' => e = .returned (.bool (inR n 0 15)) ∧ w = w' := by
  go_enter Tryz.func199, Tryz.ntmps199
  go_wp2
  all_goals go_ret
  all_goals exact ⟨ret_bool (by simp [inR]; try omega), rfl⟩
set_option maxHeartbeats 400000 in
theorem iMaskOk_any (n : Int) (w : World) :
    Calls Tryz.prog 179 #[.int .i64 n] w fun e w' => e = .returned (.bool (inR n 0 15)) ∧ w = w' := by
  go_enter Tryz.func179, Tryz.ntmps179
  go_wp2_with (go_at_call 199; refine (iSetOk_any _ _).mono ?_; rintro e w' ⟨rfl, rfl⟩)
  go_ret
  exact ⟨rfl, rfl⟩
set_option maxHeartbeats 400000 in
theorem iMaskFull_any (n : Int) (w : World) :
    Calls Tryz.prog 142 #[.int .i64 n] w fun e w' => e = .returned (.bool (inR n 0 15 && !(n == 0))) ∧ w = w' := by
  by_cases h : n = 0
  · subst h
    go_enter Tryz.func142, Tryz.ntmps142
    go_wp2
    go_ret
    exact ⟨rfl, rfl⟩
  · have h' : (n == 0) = false := by simpa using h
    have H := Lib.hid h'
    have h2 : (n != 0) = true := by simpa using h
    clear h h'
    go_enter Tryz.func142, Tryz.ntmps142
    go_wp2_with (go_at_call 179; refine (iMaskOk_any _ _).mono ?_; rintro e w' ⟨rfl, rfl⟩)
    go_ret
    exact ⟨ret_bool (by rw [H.out]; simp), rfl⟩
set_option maxHeartbeats 400000 in
theorem iWeightOf_any (n : Int) (w : World) :
    Calls Tryz.prog 150 #[.int .i64 n] w fun e w' => e = .returned (.int .i64 (wof n)) ∧ w = w' := by
  by_cases h : inR n (-10) 9 = true
  · have hb := inR_iff.1 h
    go_enter Tryz.func150, Tryz.ntmps150
    go_wp2_with (go_at_call 144; refine (iNiceOk_any _ _).mono ?_; rintro e w' ⟨rfl, rfl⟩; rw [h])
    go_ret
    exact ⟨ret_int (by rw [wof, if_pos h]), rfl⟩
  · have h' : inR n (-10) 9 = false := by simpa using h
    go_enter Tryz.func150, Tryz.ntmps150
    go_wp2_with (go_at_call 144; refine (iNiceOk_any _ _).mono ?_; rintro e w' ⟨rfl, rfl⟩; rw [h'])
    go_ret
    exact ⟨ret_int (by rw [wof, if_neg h]), rfl⟩
theorem bits_and {m n : Int} (hm : inR m 0 15 = true) (hn : inR n 0 15 = true) : bits BinOp.and IntKind.i64 m n = mand m n := by
  rw [mand, hm, hn]
  rw [inR_iff] at hm hn
  have h1 : m = 0 ∨ m = 1 ∨ m = 2 ∨ m = 3 ∨ m = 4 ∨ m = 5 ∨ m = 6 ∨ m = 7 ∨ m = 8 ∨ m = 9 ∨ m = 10 ∨ m = 11 ∨ m = 12 ∨ m = 13 ∨ m = 14 ∨ m = 15 := by omega
  have h2 : n = 0 ∨ n = 1 ∨ n = 2 ∨ n = 3 ∨ n = 4 ∨ n = 5 ∨ n = 6 ∨ n = 7 ∨ n = 8 ∨ n = 9 ∨ n = 10 ∨ n = 11 ∨ n = 12 ∨ n = 13 ∨ n = 14 ∨ n = 15 := by omega
  rcases h1 with rfl | rfl | rfl | rfl | rfl | rfl | rfl | rfl | rfl | rfl | rfl | rfl | rfl | rfl | rfl | rfl <;>
  rcases h2 with rfl | rfl | rfl | rfl | rfl | rfl | rfl | rfl | rfl | rfl | rfl | rfl | rfl | rfl | rfl | rfl <;> decide
set_option maxHeartbeats 400000 in
theorem iMaskAnd_any (a b : Int) (w : World) :
    Calls Tryz.prog 201 #[.int .i64 a, .int .i64 b] w fun e w' => e = .returned (.int .i64 (mand a b)) ∧ w = w' := by
  by_cases h : inR a 0 15 = true
  · by_cases h2 : inR b 0 15 = true
    · go_enter Tryz.func201, Tryz.ntmps201
      go_wp2_with fail
      refine (iMaskOk_any _ _).mono ?_
      rintro e w' ⟨rfl, rfl⟩
      rw [h]
      go_wp2_with fail
      refine (iMaskOk_any _ _).mono ?_
      rintro e w' ⟨rfl, rfl⟩
      rw [h2]
      go_wp2
      go_ret
      exact ⟨ret_int (bits_and h h2), rfl⟩
    · have h2' : inR b 0 15 = false := by simpa using h2
      go_enter Tryz.func201, Tryz.ntmps201
      go_wp2_with fail
      refine (iMaskOk_any _ _).mono ?_
      rintro e w' ⟨rfl, rfl⟩
      rw [h]
      go_wp2_with fail
      refine (iMaskOk_any _ _).mono ?_
      rintro e w' ⟨rfl, rfl⟩
      rw [h2']
      go_wp2
      go_ret
      exact ⟨ret_int (by rw [mand, h, h2']; rfl), rfl⟩
  · have h' : inR a 0 15 = false := by simpa using h
    go_enter Tryz.func201, Tryz.ntmps201
    go_wp2_with fail
    refine (iMaskOk_any _ _).mono ?_
    rintro e w' ⟨rfl, rfl⟩
    rw [h']
    go_wp2
    go_ret
    exact ⟨ret_int (by rw [mand, h']; rfl), rfl⟩
theorem bits_has {m c : Int} (hm : inR m 0 15 = true) (hc : inR c 0 3 = true) : (bits BinOp.and IntKind.i64 (m / 2 ^ c.toNat) 1 == 1) = mhas m c := by
  rw [inR_iff] at hm hc
  have h1 : m = 0 ∨ m = 1 ∨ m = 2 ∨ m = 3 ∨ m = 4 ∨ m = 5 ∨ m = 6 ∨ m = 7 ∨ m = 8 ∨ m = 9 ∨ m = 10 ∨ m = 11 ∨ m = 12 ∨ m = 13 ∨ m = 14 ∨ m = 15 := by omega
  have h2 : c = 0 ∨ c = 1 ∨ c = 2 ∨ c = 3 := by omega
  rcases h1 with rfl | rfl | rfl | rfl | rfl | rfl | rfl | rfl | rfl | rfl | rfl | rfl | rfl | rfl | rfl | rfl <;>
  rcases h2 with rfl | rfl | rfl | rfl <;> decide
set_option maxHeartbeats 400000 in
theorem iSetHas_any (m c : Int) (w : World) :
    Calls Tryz.prog 181 #[.int .i64 m, .int .i64 c] w fun e w' => e = .returned (.bool (mhas m c)) ∧ w = w' := by
  by_cases h : inR m 0 15 = true
  · by_cases h2 : inR c 0 3 = true
    · obtain ⟨hb0, hb1⟩ := inR_iff.1 h
      obtain ⟨hb2, hb3⟩ := inR_iff.1 h2
      go_enter Tryz.func181, Tryz.ntmps181
      go_wp2_with (first | (go_at_call 199; refine (iSetOk_any _ _).mono ?_; rintro e w' ⟨rfl, rfl⟩; rw [h]) | (go_at_call 111; refine (iInRange_any _ _ _ _).mono ?_; rintro e w' ⟨rfl, rfl⟩; rw [h2]))
      go_ret
      exact ⟨ret_bool (bits_has h h2), rfl⟩
    · have h2' : inR c 0 3 = false := by simpa using h2
      go_enter Tryz.func181, Tryz.ntmps181
      go_wp2_with (first | (go_at_call 199; refine (iSetOk_any _ _).mono ?_; rintro e w' ⟨rfl, rfl⟩; rw [h]) | (go_at_call 111; refine (iInRange_any _ _ _ _).mono ?_; rintro e w' ⟨rfl, rfl⟩; rw [h2']))
      go_ret
      exact ⟨ret_bool (by rw [mhas, h, h2']; rfl), rfl⟩
  · have h' : inR m 0 15 = false := by simpa using h
    go_enter Tryz.func181, Tryz.ntmps181
    go_wp2_with (first | (go_at_call 199; refine (iSetOk_any _ _).mono ?_; rintro e w' ⟨rfl, rfl⟩; rw [h']))
    go_ret
    exact ⟨ret_bool (by rw [mhas, h']; rfl), rfl⟩
set_option maxHeartbeats 400000 in
theorem iMaskHas_any (m c : Int) (w : World) :
    Calls Tryz.prog 146 #[.int .i64 m, .int .i64 c] w fun e w' => e = .returned (.bool (mhas m c)) ∧ w = w' := by
  go_enter Tryz.func146, Tryz.ntmps146
  go_wp2_with (go_at_call 181; refine (iSetHas_any _ _ _).mono ?_; rintro e w' ⟨rfl, rfl⟩)
  go_ret
  exact ⟨rfl, rfl⟩
end Go.Proofs.YtknfpigaognklaaGreatDoor
