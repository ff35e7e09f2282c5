/- The program's own walks over a world: who is there, who is online, where one may be, who is in line. -/
import Derived.Test.YtknfpigaognklaaGreatDoorI2
import Derived.StillTailTactics
namespace Go.Proofs.YtknfpigaognklaaGreatDoor
open Go.RowKit
def taskIn (M : WorldM) (n : Int) : Bool := inR n 0 (M.tasks.length - 1) && !((tsk M n.toNat).st == 0)
set_option maxHeartbeats 400000 in
theorem iTaskThere_any (p : Nat) (ca : Option Addr) (cc : Nat) (ta : Option Addr) (tc : Nat) (ga : Option Addr) (gc : Nat) (gh : Nat → GH) (M : WorldM) (w : World) (hs : PA w p ca cc ta tc ga gc gh M) (hm : M.tasks.length ≤ 1048576) (n : Int) :
    Calls Tryz.prog 153 #[.pointer (some ⟨p, 0, none⟩), .int .i64 n] w fun e w' => e = .returned (.bool (taskIn M n)) ∧ w = w' := by
  obtain ⟨q0, q1, q2, q3, q4, q5⟩ := hs
  by_cases h : inR n 0 (M.tasks.length - 1) = true
  · obtain ⟨k, hk⟩ : ∃ k : Nat, n = k := ⟨n.toNat, by have := inR_iff.1 h; omega⟩
    subst hk
    have hkl : k < M.tasks.length := by have := inR_iff.1 h; omega
    have TN := Lib.hid (show taskIn M (k : Int) = !((tsk M k).st == 0) by rw [taskIn, h]; rfl)
    obtain ⟨b, o, rfl, hB, d0, d1⟩ := q5.task_ hkl
    clear d1
    go_enter Tryz.func153, Tryz.ntmps153
    go_wp2_with (go_at_call 111; refine (iInRange_any _ _ _ _).mono ?_; rintro e w' ⟨rfl, rfl⟩; rw [h])
    go_ret
    exact ⟨ret_bool (by rw [TN.out]; rfl), rfl⟩
  · have h' : inR n 0 (M.tasks.length - 1) = false := by simpa using h
    have TN := Lib.hid (show taskIn M n = false by rw [taskIn, h']; rfl)
    clear h
    go_enter Tryz.func153, Tryz.ntmps153
    go_wp2_with (go_at_call 111; refine (iInRange_any _ _ _ _).mono ?_; rintro e w' ⟨rfl, rfl⟩; rw [h'])
    go_ret
    exact ⟨ret_bool TN.out.symm, rfl⟩
set_option maxHeartbeats 400000 in
theorem iGroupUsed_any (ca ta ga : Option Addr) (gc : Nat) (gh : Nat → GH) (M : WorldM) (w : World) (hs : WA w ca ta ga gh M) (hm : M.groups.length ≤ 1048576) (n : Int) :
    Calls Tryz.prog 116 #[.slice ga M.groups.length gc, .int .i64 n] w fun e w' => e = .returned (.bool (usedI M n)) ∧ w = w' := by
  by_cases h : inR n 0 (M.groups.length - 1) = true
  · obtain ⟨k, hk⟩ : ∃ k : Nat, n = k := ⟨n.toNat, by have := inR_iff.1 h; omega⟩
    subst hk
    have hkl : k < M.groups.length := by have := inR_iff.1 h; omega
    have TN := Lib.hid (show usedI M (k : Int) = (grp M k).used by simp [usedI, hkl])
    obtain ⟨b, o, rfl, hB, d0, d1⟩ := hs.group_ hkl
    clear d1
    go_enter Tryz.func116, Tryz.ntmps116
    go_wp2_with (go_at_call 111; refine (iInRange_any _ _ _ _).mono ?_; rintro e w' ⟨rfl, rfl⟩; rw [h])
    go_ret
    exact ⟨ret_bool TN.out.symm, rfl⟩
  · have h' : inR n 0 (M.groups.length - 1) = false := by simpa using h
    have TN := Lib.hid (show usedI M n = false by
      rw [inR_iff] at h
      simp only [usedI, Bool.and_eq_false_iff, decide_eq_false_iff_not]
      left
      omega)
    clear h
    go_enter Tryz.func116, Tryz.ntmps116
    go_wp2_with (go_at_call 111; refine (iInRange_any _ _ _ _).mono ?_; rintro e w' ⟨rfl, rfl⟩; rw [h'])
    go_ret
    exact ⟨ret_bool TN.out.symm, rfl⟩
theorem bits_or {k : Nat} (hk : k < 4) {u : Int} (h0 : 0 ≤ u) (h1 : u < 2 ^ k) : bits BinOp.or IntKind.i64 u (2 ^ k) = u + 2 ^ k := by
  have h2 : k = 0 ∨ k = 1 ∨ k = 2 ∨ k = 3 := by omega
  have h3 : (2 : Int) ^ k ≤ 8 := by rcases h2 with rfl | rfl | rfl | rfl <;> decide
  have h4 : u = 0 ∨ u = 1 ∨ u = 2 ∨ u = 3 ∨ u = 4 ∨ u = 5 ∨ u = 6 ∨ u = 7 := by omega
  rcases h2 with rfl | rfl | rfl | rfl <;> rcases h4 with rfl | rfl | rfl | rfl | rfl | rfl | rfl | rfl <;> first | decide | (simp at h1)
set_option maxHeartbeats 1000000 in
theorem iOnline_any (p : Nat) (ca : Option Addr) (cc : Nat) (ta : Option Addr) (tc : Nat) (ga : Option Addr) (gc : Nat) (gh : Nat → GH) (M : WorldM) (w : World) (hs : PA w p ca cc ta tc ga gc gh M) (hm : M.cpus.length ≤ 4) :
    Calls Tryz.prog 138 #[.pointer (some ⟨p, 0, none⟩)] w fun e w' => e = .returned (.int .i64 (ups M)) ∧ Below w.heap.size w w' := by
  obtain ⟨q0, q1, q2, q3, q4, q5⟩ := hs
  go_enter Tryz.func138, Tryz.ntmps138
  go_wp2
  go_loopw [3, 4, 5, 11] (fun m _ _ i wr => ∃ k : Nat, k ≤ M.cpus.length ∧ i = .int .i64 k ∧ m = .int .i64 (upsTo M k) ∧ Below w.heap.size w wr) (fun _ _ _ i _ => M.cpus.length - (intOf i).toNat)
  case atStart => exact ⟨0, by omega, rfl, rfl, Below.refl _ _⟩
  case round =>
    obtain ⟨k, hk, rfl, rfl, hb⟩ := hrel
    have hu := upsTo_bd M k (by omega)
    by_cases hlt : k < M.cpus.length
    · have hp := pow_bd (show k < 4 by omega)
      obtain ⟨b, o, rfl, hB, c0, c1, c2, c3, c4⟩ := (q5.keep hb).cpu_ hlt
      have hor := bits_or (show k < 4 by omega) hu.1 hu.2
      by_cases hup : (cpo M k).up = true
      · rw [hup] at c0
        have US := Lib.hid (show upsTo M (k + 1) = upsTo M k + 2 ^ k by simp [upsTo, hup])
        clear hup
        go_wp2
        go_roundw
        case rel => exact ⟨k + 1, by omega, by go_num, val_eq (by rw [US.out]), hb.alloc hb.size _⟩
        case measure => simp [intOf]; omega
      · have hup' : (cpo M k).up = false := by simpa using hup
        rw [hup'] at c0
        have US := Lib.hid (show upsTo M (k + 1) = upsTo M k by simp [upsTo, hup'])
        clear hup hup'
        go_wp2
        go_roundw
        case rel => exact ⟨k + 1, by omega, by go_num, val_eq (by rw [US.out]), hb.alloc hb.size _⟩
        case measure => simp [intOf]; omega
    · go_wp2
      go_ret
      exact ⟨ret_int (by rw [ups, show k = M.cpus.length by omega]), hb⟩
theorem mand_comm (a b : Int) : mand a b = mand b a := by
  unfold mand
  rw [Bool.and_comm, Nat.and_comm]
theorem mand_range (a b : Int) : inR (mand a b) 0 15 = true := inR_iff.2 (mand_bd a b)
theorem mand_assoc (a b c : Int) : mand (mand a b) c = mand a (mand b c) := by
  by_cases ha : inR a 0 15 = true
  · by_cases hb : inR b 0 15 = true
    · by_cases hc : inR c 0 15 = true
      · have e1 : mand a b = ((a.toNat &&& b.toNat : Nat) : Int) := by simp [mand, ha, hb]
        have e2 : mand b c = ((b.toNat &&& c.toNat : Nat) : Int) := by simp [mand, hb, hc]
        have r1 := mand_range a b
        have r2 := mand_range b c
        rw [e1] at r1
        rw [e2] at r2
        rw [e1, e2, mand, mand, r1, r2, ha, hc]
        simp [Nat.and_assoc]
      · simp [mand, hc]
    · simp [mand, hb]
  · simp [mand, ha]
theorem pinsL_and (M : WorldM) (u : Int) : ∀ (l : List Nat) (x : Int), pinsL M (mand u x) l = mand (pinsL M x l) u
  | [], x => by simp [pinsL, mand_comm]
  | p :: l, x => by
    show pinsL M (mand (mand u x) (grp M p).cpus) l = mand (pinsL M (mand x (grp M p).cpus) l) u
    rw [mand_assoc, pinsL_and M u l]
theorem pinsL_ch (M : WorldM) (g : Nat) : pinsL M (ups M) (ch M g) = mand (pins M g) (ups M) := by
  rw [ch_cons, pins, ← pinsL_and]
  rfl
set_option maxHeartbeats 1000000 in
theorem iPins_any (p : Nat) (ca : Option Addr) (cc : Nat) (ta : Option Addr) (tc : Nat) (ga : Option Addr) (gc : Nat) (gh : Nat → GH) (M : WorldM) (w : World) (hs : PA w p ca cc ta tc ga gc gh M) (hT : Tree M) (hm : M.cpus.length ≤ 4) (g : Nat) (hg : g < 8) (hu : (grp M g).used = true) :
    Calls Tryz.prog 200 #[.pointer (some ⟨p, 0, none⟩), .int .i64 g] w fun e w' => e = .returned (.int .i64 (mand (pins M g) (ups M))) ∧ Below w.heap.size w w' := by
  have PN := Lib.hid (pinsL_ch M g)
  have HL := Lib.hid hT.len
  go_enter Tryz.func200, Tryz.ntmps200
  go_wp2_with (go_at_call 138; refine (iOnline_any p ca cc ta tc ga gc gh M _ hs hm).mono ?_; rintro e w2 ⟨rfl, hb⟩)
  obtain ⟨q0, q1, q2, q3, q4, q5⟩ := hs.keep hb
  go_loop [1, 5] (fun i m => ∃ (k : Nat) (u : Int), k < 8 ∧ (grp M k).used = true ∧ i = .int .i64 k ∧ m = .int .i64 u ∧ pinsL M u (ch M k) = mand (pins M g) (ups M)) (fun i _ => dp M (intOf i).toNat)
  case atStart => exact ⟨g, _, hg, hu, rfl, rfl, PN.out⟩
  case round =>
    obtain ⟨k, u, hk, huk, rfl, rfl, he⟩ := hrel
    have HE := Lib.hid he
    have hlk : k < M.groups.length := by have := HL.out; omega
    obtain ⟨b, o, rfl, hB, f0, f1, f2, f3, f4, f5⟩ := q5.group_ hlk
    by_cases h0 : k = 0
    · subst h0
      simp only [Nat.zero_mul, Nat.add_zero] at f4
      clear he huk f0 f1 f2 f3 f5
      go_wp2_with (go_at_call 201; refine (iMaskAnd_any _ _ _).mono ?_; rintro e w' ⟨rfl, rfl⟩)
      go_ret
      exact ⟨ret_int (by rw [← HE.out, ch_zero]; rfl), hb⟩
    · obtain ⟨hp1, hp2, hp3, hp4⟩ := hT.up k hk huk h0
      have hst := Lib.hid (hT.ch_step hk huk h0)
      have HP3 := Lib.hid hp3
      have HP4 := Lib.hid hp4
      rw [hp1] at f1
      have hne : ((k : Int) != 0) = true := by simpa using h0
      clear he huk f0 f2 f3 f5 hp1 hp3 hp4 hu
      go_wp2_with (go_at_call 201; refine (iMaskAnd_any _ _ _).mono ?_; rintro e w' ⟨rfl, rfl⟩)
      go_round
      case rel => exact ⟨par M k, _, hp2, HP3.out, rfl, rfl, by rw [← HE.out, hst.out]; rfl⟩
      case measure => simp [intOf]; have := HP4.out; omega
set_option maxHeartbeats 1000000 in
theorem iAllowedIn_any (p : Nat) (ca : Option Addr) (cc : Nat) (ta : Option Addr) (tc : Nat) (ga : Option Addr) (gc : Nat) (gh : Nat → GH) (M : WorldM) (w : World) (hs : PA w p ca cc ta tc ga gc gh M) (hT : Tree M) (hm : M.cpus.length ≤ 4) (mask : Int) (g : Nat) (hg : g < 8) (hu : (grp M g).used = true) :
    Calls Tryz.prog 182 #[.pointer (some ⟨p, 0, none⟩), .int .i64 mask, .int .i64 g] w fun e w' => e = .returned (.int .i64 (whereM M g mask)) ∧ Below w.heap.size w w' := by
  go_enter Tryz.func182, Tryz.ntmps182
  by_cases h1 : mand mask (mand (pins M g) (ups M)) = 0
  · have WN1 := Lib.hid (show whereM M g mask = if mand (pins M g) (ups M) ≠ 0 then mand (pins M g) (ups M) else ups M by rw [whereM, if_neg (fun h => h h1)])
    by_cases h2 : mand (pins M g) (ups M) = 0
    · have WN2 := Lib.hid (show whereM M g mask = ups M by rw [WN1.out, if_neg (fun h => h h2)])
      have h1' : (mand mask 0 != 0) = false := by rw [h2] at h1; rw [h1]; rfl
      have H2 := Lib.hid h2
      clear h1 h2
      go_wp2_with (first | (go_at_call 200; refine (iPins_any p ca cc ta tc ga gc gh M _ hs hT hm g hg hu).mono ?_; rintro e w2 ⟨rfl, hb2⟩; rw [H2.out]) | (go_at_call 201; refine (iMaskAnd_any _ _ _).mono ?_; rintro e w' ⟨rfl, rfl⟩) | (go_at_call 138; refine (iOnline_any p ca cc ta tc ga gc gh M _ (hs.keep hb2) hm).mono ?_; rintro e w3 ⟨rfl, hb3⟩))
      go_ret
      exact ⟨ret_int WN2.out.symm, hb2.andThen hb3⟩
    · have WN2 := Lib.hid (show whereM M g mask = mand (pins M g) (ups M) by rw [WN1.out, if_pos h2])
      have h1' : (mand mask (mand (pins M g) (ups M)) != 0) = false := by rw [h1]; rfl
      have h2' : (mand (pins M g) (ups M) != 0) = true := by simpa using h2
      clear h1 h2
      go_wp2_with (first | (go_at_call 200; refine (iPins_any p ca cc ta tc ga gc gh M _ hs hT hm g hg hu).mono ?_; rintro e w2 ⟨rfl, hb2⟩) | (go_at_call 201; refine (iMaskAnd_any _ _ _).mono ?_; rintro e w' ⟨rfl, rfl⟩))
      go_ret
      exact ⟨ret_int WN2.out.symm, hb2⟩
  · have WN2 := Lib.hid (show whereM M g mask = mand mask (mand (pins M g) (ups M)) by rw [whereM, if_pos h1])
    have h1' : (mand mask (mand (pins M g) (ups M)) != 0) = true := by simpa using h1
    clear h1
    go_wp2_with (first | (go_at_call 200; refine (iPins_any p ca cc ta tc ga gc gh M _ hs hT hm g hg hu).mono ?_; rintro e w2 ⟨rfl, hb2⟩) | (go_at_call 201; refine (iMaskAnd_any _ _ _).mono ?_; rintro e w' ⟨rfl, rfl⟩))
    go_ret
    exact ⟨ret_int WN2.out.symm, hb2⟩
set_option maxRecDepth 100000 in
set_option maxHeartbeats 1000000 in
theorem iAllowed_any (p : Nat) (ca : Option Addr) (cc : Nat) (ta : Option Addr) (tc : Nat) (ga : Option Addr) (gc : Nat) (gh : Nat → GH) (M : WorldM) (w : World) (hs : PA w p ca cc ta tc ga gc gh M) (hT : Tree M) (hm : M.cpus.length ≤ 4) (t g : Nat) (ht : t < M.tasks.length) (hgr : (tsk M t).gr = g) (hg : g < 8) (hu : (grp M g).used = true) :
    Calls Tryz.prog 147 #[.pointer (some ⟨p, 0, none⟩), .int .i64 t] w fun e w' => e = .returned (.int .i64 (whereM M g (tsk M t).mask)) ∧ Below w.heap.size w w' := by
  have HS := Lib.hid hs
  obtain ⟨q0, q1, q2, q3, q4, q5⟩ := hs
  obtain ⟨b, o, rfl, hB, c0, c1, c2, c3, c4, c5, c6, c7, c8⟩ := q5.task_ ht
  rw [hgr] at c1
  clear c0 c2 c3 c5 c6 c7 c8
  go_enter Tryz.func147, Tryz.ntmps147
  go_wp2_with fail
  go_still_tail 17, (by kernel_rfl)
  change wpList _ _ _ _ _ w.drew
  have hb0 : Below w.heap.size w w.drew := ⟨rfl, rfl, rfl, Nat.le_refl _, fun _ _ => rfl⟩
  have hs2 := HS.out.keep hb0
  generalize w.drew = w2 at *
  go_wp2_with (go_at_call 182; refine (iAllowedIn_any p ca cc _ tc ga gc gh M _ hs2 hT hm _ g hg hu).mono ?_; rintro e w3 ⟨rfl, hb3⟩)
  go_ret
  exact ⟨rfl, hb0.andThen hb3⟩
end Go.Proofs.YtknfpigaognklaaGreatDoor
