/- The program's own test of the groups of a world. -/
import Derived.Test.YtknfpigaognklaaGreatDoorI5
import Derived.Test.YtknfpigaognklaaGreatDoorRg
import Derived.Deep.RegionHeld3
import Derived.Deep.DrawnRows
namespace Go.Proofs.YtknfpigaognklaaGreatDoor
open Go.RowKit Go.Sort
attribute [local go_sem ↓] Go.wp_at_zero Go.wp_at_succ
theorem iTime1_any (a : Int) (b : Nat) (w : World) (h : w.cell? ⟨b, 0, none⟩ = some (.int .i64 a)) (hb : b < w.heap.size) :
    Calls Tryz.prog 137 #[.slice (some ⟨b, 0, none⟩) 1 1] w fun e w' => e = .returned (.bool (timeB a)) ∧ Below w.heap.size w w' := by
  have hI : IntS w (some ⟨b, 0, none⟩) [a] := ⟨fun k hk => by
    obtain rfl : k = 0 := by simpa using hk
    exact ⟨b, 0, rfl, hb, h⟩⟩
  have := iTimeOk_any (some ⟨b, 0, none⟩) [a] 1 w hI (by simp)
  simpa using this
theorem iQuotaOk_used (p : Nat) (ca : Option Addr) (cc : Nat) (ta : Option Addr) (tc : Nat) (ga : Option Addr) (gc : Nat) (gh : Nat → GH) (M : WorldM) (w : World) (hs : PA w p ca cc ta tc ga gc gh M) (x : GroupM) (h : GH) (hl : IntS w h.la x.band.locals) (hd : BoolS w h.da x.band.dry) (hlm : x.band.locals.length ≤ 1048576) (hnow : inR M.now 0 100000000000000000 = true) (hu : x.used = true) :
    Calls Tryz.prog 143 #[.pointer (some ⟨p, 0, none⟩), .agg #[.bool true, .int .i64 x.parent, .string x.name, .int .i64 x.weight, .int .i64 x.cpus, .int .i64 x.period, .int .i64 x.next, .int .i64 x.sum, .int .i64 x.band.quota, .int .i64 x.band.pool, .int .i64 x.band.spent, .slice h.la x.band.locals.length h.lc, .slice h.da x.band.dry.length h.dc, .slice h.sa x.shelves.length h.sc]] w fun e w' => e = .returned (.bool (quotaI M x)) ∧ Below w.heap.size w w' := by
  have := iQuotaOk_any p ca cc ta tc ga gc gh M w hs x h hl hd hlm hnow
  rwa [hu] at this
theorem iGroupZero_not (x : GroupM) (h : GH) (w : World) (hu : x.used = false) :
    Calls Tryz.prog 140 #[.agg #[.bool false, .int .i64 x.parent, .string x.name, .int .i64 x.weight, .int .i64 x.cpus, .int .i64 x.period, .int .i64 x.next, .int .i64 x.sum, .int .i64 x.band.quota, .int .i64 x.band.pool, .int .i64 x.band.spent, .slice h.la x.band.locals.length h.lc, .slice h.da x.band.dry.length h.dc, .slice h.sa x.shelves.length h.sc]] w fun e w' => e = .returned (.bool (grpZ x)) ∧ Below w.heap.size w w' := by
  have := iGroupZero_any x h w hu
  rwa [hu] at this
/-- the program's test of a group -/
def groupI (M : WorldM) (x : GroupM) : Bool := if x.used then inR x.weight 1 20 && (inR x.cpus 0 15 && !(x.cpus == 0)) && timeB x.sum && ((x.shelves.length : Int) == M.cpus.length) && quotaI M x else grpZ x
def groupsI (M : WorldM) : Bool := (List.range M.groups.length).all (fun k => groupI M (grp M k)) && grpR (grp M 0)
set_option maxRecDepth 100000 in
set_option maxHeartbeats 4000000 in
theorem iGroupsOk_any (p : Nat) (ca : Option Addr) (cc : Nat) (ta : Option Addr) (tc : Nat) (ga : Option Addr) (gc : Nat) (gh : Nat → GH) (M : WorldM) (w : World) (hs : PA w p ca cc ta tc ga gc gh M) (hF : FitG M) (h0 : 0 < M.groups.length) (hnow : inR M.now 0 100000000000000000 = true) :
    Calls Tryz.prog 75 #[.pointer (some ⟨p, 0, none⟩)] w fun e w' => e = .returned (.bool (groupsI M)) ∧ Below w.heap.size w w' := by
  have hgm := hF.group
  have HF := Lib.hid hF
  clear hF
  have pw := hs
  obtain ⟨q0, q1, q2, q3, q4, q5⟩ := hs
  go_enter Tryz.func75, Tryz.ntmps75
  go_wp2
  clear q0 q1 q2 q3 q4 q5
  go_loopw [4, 11] (fun _ i wr => ∃ k : Nat, k ≤ M.groups.length ∧ i = .int .i64 k ∧ (List.range k).all (fun k => groupI M (grp M k)) = true ∧ Below w.heap.size w wr) (fun _ i _ => M.groups.length - (intOf i).toNat)
  case atStart => exact ⟨0, by omega, rfl, rfl, Below.refl _ _⟩
  case round =>
    obtain ⟨k, hk, rfl, hall, hb⟩ := hrel
    have HA := Lib.hid hall
    clear hall
    have pw2 := pw.keep hb
    by_cases hlt : k < M.groups.length
    · have q5 := pw2.wa
      obtain ⟨b, o, rfl, hB, c0, c1, c2, c3, c4, c5, c6, c7, c8, c9, c10, c11, c12, c13⟩ := q5.group_ hlt
      have hil := q5.group.loc k hlt
      have hid := q5.group.dry k hlt
      rw [grp_eq hlt] at hil hid
      have fl := HF.out.loc k hlt
      have fs := HF.out.she k hlt
      have fc := HF.out.cpu
      obtain ⟨x, hX⟩ : ∃ x, grp M k = x := ⟨_, rfl⟩
      rw [hX] at c0 c1 c2 c3 c4 c5 c6 c7 c8 c9 c10 c11 c12 c13 hil hid fl fs
      have HX := Lib.hid hX
      clear hX
      by_cases hu : x.used = true
      · have GN := Lib.hid (show groupI M (grp M k) = (inR x.weight 1 20 && (inR x.cpus 0 15 && !(x.cpus == 0)) && timeB x.sum && ((x.shelves.length : Int) == M.cpus.length) && quotaI M x) by rw [HX.out, groupI, if_pos hu])
        rw [hu] at c0
        have HU := Lib.hid hu
        clear hu
        go_upto_region 4 with (fail)
        refine gen1 (p := fun W => Code.wp _ _ _ _ W) ?_
        intro W b2 s2 kx
        have b3 := hb.andThen b2
        have x0 := kx.cell 0
        have x1 := kx.cell 1
        have x2 := kx.cell 2
        have x3 := kx.cell 3
        have x4 := kx.cell 4
        have x5 := kx.cell 5
        have x6 := kx.cell 6
        have x7 := kx.cell 7
        have x8 := kx.cell 8
        have x9 := kx.cell 9
        have x10 := kx.cell 10
        have x11 := kx.cell 11
        have x12 := kx.cell 12
        have x13 := kx.cell 13
        simp at x0 x1 x2 x3 x4 x5 x6 x7 x8 x9 x10 x11 x12 x13
        have hxs := kx.lt
        have HIL := Lib.hid (hil.keep b2)
        have HID := Lib.hid (hid.keep b2)
        have pw3 := pw2.keep b2
        obtain ⟨q0, q1, q2, q3, q4, q5⟩ := pw3
        have PW3 := Lib.hid (pw2.keep b2)
        clear s2 kx c0 c1 c2 c3 c4 c5 c6 c7 c8 c9 c10 c11 c12 c13 hil hid q1 q3 q4 q5
        go_upto_region 7 with (fail)
        have Z3 := fun d os => cell_regrown x3 d os
        have Z4 := fun d os => cell_regrown x4 d os
        have Z7 := fun d os => cell_regrown x7 d os
        have Z13 := fun d os => cell_regrown x13 d os
        have Q2 := fun d os => cell_regrown q2 d os
        have X0 := fun d os => cell_regrown x0 d os
        have X1 := fun d os => cell_regrown x1 d os
        have X2 := fun d os => cell_regrown x2 d os
        have X5 := fun d os => cell_regrown x5 d os
        have X6 := fun d os => cell_regrown x6 d os
        have X8 := fun d os => cell_regrown x8 d os
        have X9 := fun d os => cell_regrown x9 d os
        have X10 := fun d os => cell_regrown x10 d os
        have X11 := fun d os => cell_regrown x11 d os
        have X12 := fun d os => cell_regrown x12 d os
        have bd : Below W.heap.size W W.drew := ⟨rfl, rfl, rfl, Nat.le_refl _, fun _ _ => rfl⟩
        have hI1 : (W.drew.alloc (.cells #[.int .i64 x.sum] 3)).cell? ⟨W.heap.size, 0, none⟩ = some (.int .i64 x.sum) := by
          have : (W.alloc (.cells #[.int .i64 x.sum] 3)).cell? ⟨W.heap.size, 0, none⟩ = some (.int .i64 x.sum) := by simp [World.cell?_alloc_at]
          exact this
        clear x0 x1 x2 x3 x4 x5 x6 x7 x8 x9 x10 x11 x12 x13
        refine region_by [false, false, true, false, false, false, false, true, false, false, false, false, false, true, true, false, false, false, false, false, false, false, false, false, false, false, false, false, false, false, false, true, false, false] (by kernel_rfl) (by kernel_rfl) (by kernel_rfl) ?_
        repeat (first | (refine wpR_skip (by rfl) ?_; simp only [Act.put, List.setIfInBounds_toArray, List.set_cons_zero, List.set_cons_succ]) | (refine wpR_det (by rfl) (fun K hK => ?_); go_big_quiet_op; refine hK _ ?_; clear hK K))
        refine wpR_bar (by rfl) (fun K hK => ?_)
        go_big_op
        go_at_call 141
        refine (iWeightOk_any _ _).mono ?_
        rintro e w' ⟨rfl, rfl⟩
        refine hK _ _ (regrown_of_below bd) ?_
        clear hK K
        cases f1 : inR x.weight 1 20 with
        | false =>
          have F1 := Lib.hid f1
          clear f1
          repeat (first | (refine wpR_skip (by rfl) ?_; simp only [Act.put, List.setIfInBounds_toArray, List.set_cons_zero, List.set_cons_succ]) | (refine wpR_det (by rfl) (fun K hK => ?_); go_big_quiet_op; refine hK _ ?_; clear hK K))
          refine wpR_nil ?_
          go_wp2
          go_ret
          exact ⟨ret_bool (by rw [groupsI, all_of hlt (by rw [GN.out, F1.out]; simp)]; rfl), b3.andThen bd⟩
        | true =>
          have F1 := Lib.hid f1
          clear f1
          repeat (first | (refine wpR_skip (by rfl) ?_; simp only [Act.put, List.setIfInBounds_toArray, List.set_cons_zero, List.set_cons_succ]) | (refine wpR_det (by rfl) (fun K hK => ?_); go_big_quiet_op; refine hK _ ?_; clear hK K))
          refine wpR_bar (by rfl) (fun K hK => ?_)
          go_big_op
          go_at_call 142
          refine (iMaskFull_any _ _).mono ?_
          rintro e w' ⟨rfl, rfl⟩
          refine hK _ _ (regrown_of_below bd) ?_
          clear hK K
          cases f2 : (inR x.cpus 0 15 && !(x.cpus == 0)) with
          | false =>
            have F2 := Lib.hid f2
            clear f2
            repeat (first | (refine wpR_skip (by rfl) ?_; simp only [Act.put, List.setIfInBounds_toArray, List.set_cons_zero, List.set_cons_succ]) | (refine wpR_det (by rfl) (fun K hK => ?_); go_big_quiet_op; refine hK _ ?_; clear hK K))
            refine wpR_nil ?_
            go_wp2
            go_ret
            exact ⟨ret_bool (by rw [groupsI, all_of hlt (by rw [GN.out, F1.out, F2.out]; simp)]; rfl), b3.andThen bd⟩
          | true =>
            have F2 := Lib.hid f2
            clear f2
            repeat (first | (refine wpR_skip (by rfl) ?_; simp only [Act.put, List.setIfInBounds_toArray, List.set_cons_zero, List.set_cons_succ]) | (refine wpR_det (by rfl) (fun K hK => ?_); go_big_quiet_op; refine hK _ ?_; clear hK K))
            refine wpR_bar (by rfl) (fun K hK => ?_)
            go_big_op
            refine hK _ _ (regrown_of_below (bd.andThen ((Below.refl _ _).alloc (Nat.le_refl _) _))) ?_
            clear hK K
            repeat (first | (refine wpR_skip (by rfl) ?_; simp only [Act.put, List.setIfInBounds_toArray, List.set_cons_zero, List.set_cons_succ]) | (refine wpR_det (by rfl) (fun K hK => ?_); go_big_quiet_op; refine hK _ ?_; clear hK K))
            refine wpR_bar (by rfl) (fun K hK => ?_)
            go_big_op
            go_at_call 137
            refine (iTime1_any x.sum W.heap.size _ hI1 (by simp)).mono ?_
            rintro e w3 ⟨rfl, hb3⟩
            refine hK _ _ (regrown_of_below (bd.andThen (((Below.refl _ _).alloc (Nat.le_refl _) _).andThen hb3))) ?_
            clear hK K
            cases f3 : timeB x.sum with
            | false =>
              have F3 := Lib.hid f3
              clear f3
              repeat (first | (refine wpR_skip (by rfl) ?_; simp only [Act.put, List.setIfInBounds_toArray, List.set_cons_zero, List.set_cons_succ]) | (refine wpR_det (by rfl) (fun K hK => ?_); go_big_quiet_op; refine hK _ ?_; clear hK K))
              refine wpR_nil ?_
              go_wp2
              go_ret
              exact ⟨ret_bool (by rw [groupsI, all_of hlt (by rw [GN.out, F1.out, F2.out, F3.out]; simp)]; rfl), b3.andThen (bd.andThen (((Below.refl _ _).alloc (Nat.le_refl _) _).andThen hb3))⟩
            | true =>
              have F3 := Lib.hid f3
              clear f3
              by_cases f4 : ((x.shelves.length : Int) == M.cpus.length) = true
              · have F4 := Lib.hid f4
                have f4' : ((x.shelves.length : Int) != (M.cpus.length : Int)) = false := by rw [bne, f4]; rfl
                clear f4
                repeat (first | (refine wpR_skip (by rfl) ?_; simp only [Act.put, List.setIfInBounds_toArray, List.set_cons_zero, List.set_cons_succ]) | (refine wpR_det (by rfl) (fun K hK => ?_); go_big_quiet_op; refine hK _ ?_; clear hK K))
                refine wpR_bar (by rfl) (fun K hK => ?_)
                go_big_op
                go_at_call 143
                refine (iQuotaOk_used p ca cc ta tc _ gc gh M _ (PW3.out.keep (bd.andThen (((Below.refl _ _).alloc (Nat.le_refl _) _).andThen hb3))) x (gh k) (HIL.out.keep (bd.andThen (((Below.refl _ _).alloc (Nat.le_refl _) _).andThen hb3))) (HID.out.keep (bd.andThen (((Below.refl _ _).alloc (Nat.le_refl _) _).andThen hb3))) fl hnow HU.out).mono ?_
                rintro e w4 ⟨rfl, hb4⟩
                refine hK _ _ (regrown_of_below ((bd.andThen (((Below.refl _ _).alloc (Nat.le_refl _) _).andThen hb3)).andThen hb4)) ?_
                clear hK K
                cases f5 : quotaI M x with
                | false =>
                  have F5 := Lib.hid f5
                  clear f5
                  repeat (first | (refine wpR_skip (by rfl) ?_; simp only [Act.put, List.setIfInBounds_toArray, List.set_cons_zero, List.set_cons_succ]) | (refine wpR_det (by rfl) (fun K hK => ?_); go_big_quiet_op; refine hK _ ?_; clear hK K))
                  refine wpR_nil ?_
                  go_wp2
                  go_ret
                  exact ⟨ret_bool (by rw [groupsI, all_of hlt (by rw [GN.out, F1.out, F2.out, F3.out, F4.out, F5.out]; simp)]; rfl), b3.andThen ((bd.andThen (((Below.refl _ _).alloc (Nat.le_refl _) _).andThen hb3)).andThen hb4)⟩
                | true =>
                  have F5 := Lib.hid f5
                  clear f5
                  repeat (first | (refine wpR_skip (by rfl) ?_; simp only [Act.put, List.setIfInBounds_toArray, List.set_cons_zero, List.set_cons_succ]) | (refine wpR_det (by rfl) (fun K hK => ?_); go_big_quiet_op; refine hK _ ?_; clear hK K))
                  refine wpR_nil ?_
                  go_wp2
                  go_roundw
                  case rel => exact ⟨k + 1, by omega, by go_num, by rw [all_succ, HA.out, GN.out, F1.out, F2.out, F3.out, F4.out, F5.out]; rfl, b3.andThen ((bd.andThen (((Below.refl _ _).alloc (Nat.le_refl _) _).andThen hb3)).andThen hb4)⟩
                  case measure => simp [intOf]; omega
              · have F4 := Lib.hid (show ((x.shelves.length : Int) == M.cpus.length) = false by simpa only [Bool.not_eq_true] using f4)
                have f4' : ((x.shelves.length : Int) != (M.cpus.length : Int)) = true := by rw [bne, F4.out]; rfl
                clear f4
                repeat (first | (refine wpR_skip (by rfl) ?_; simp only [Act.put, List.setIfInBounds_toArray, List.set_cons_zero, List.set_cons_succ]) | (refine wpR_det (by rfl) (fun K hK => ?_); go_big_quiet_op; refine hK _ ?_; clear hK K))
                refine wpR_nil ?_
                go_wp2
                go_ret
                exact ⟨ret_bool (by rw [groupsI, all_of hlt (by rw [GN.out, F1.out, F2.out, F3.out, F4.out]; simp)]; rfl), b3.andThen (bd.andThen (((Below.refl _ _).alloc (Nat.le_refl _) _).andThen hb3))⟩
      · have GN := Lib.hid (show groupI M (grp M k) = grpZ x by rw [HX.out, groupI, if_neg hu])
        have hu' : x.used = false := by simpa using hu
        have HU := Lib.hid hu'
        rw [hu'] at c0
        clear hu hu'
        by_cases hz : grpZ x = true
        · have HZ := Lib.hid hz
          clear hz
          go_wp2_with (go_at_call 140; refine (iGroupZero_not x (gh k) _ HU.out).mono ?_; rintro e w3 ⟨rfl, hb3⟩; rw [HZ.out])
          go_roundw
          case rel => exact ⟨k + 1, by omega, by go_num, by rw [all_succ, HA.out, GN.out, HZ.out]; rfl, (hb.alloc hb.size _).andThen hb3⟩
          case measure => simp [intOf]; omega
        · have HZ := Lib.hid (show grpZ x = false by simpa using hz)
          clear hz
          go_wp2_with (go_at_call 140; refine (iGroupZero_not x (gh k) _ HU.out).mono ?_; rintro e w3 ⟨rfl, hb3⟩; rw [HZ.out])
          go_ret
          exact ⟨ret_bool (by rw [groupsI, all_of hlt (by rw [GN.out, HZ.out])]; rfl), (hb.alloc hb.size _).andThen hb3⟩
    · have hkl : k = M.groups.length := by omega
      have HGA := Lib.hid (show (List.range M.groups.length).all (fun k => groupI M (grp M k)) = true by rw [← hkl]; exact HA.out)
      have q5 := pw2.wa
      obtain ⟨q0, q1, q2, q3, q4, _⟩ := pw2
      obtain ⟨b, o, rfl, hB, c0, c1, c2, c3, c4, c5, c6, c7, c8, c9, c10, c11, c12, c13⟩ := q5.group_ h0
      have GR := Lib.hid (show grpR (grp M 0) = (((grp M 0).weight == 10) && ((grp M 0).cpus == 15) && ((grp M 0).band.quota == 0)) from rfl)
      obtain ⟨x, hX⟩ : ∃ x, grp M 0 = x := ⟨_, rfl⟩
      have HX := Lib.hid hX
      rw [hX] at c0 c1 c2 c3 c4 c5 c6 c7 c8 c9 c10 c11 c12 c13
      simp only [Nat.zero_mul, Nat.add_zero] at c0 c1 c2 c3 c4 c5 c6 c7 c8 c9 c10 c11 c12 c13
      clear hX q1 q2 q3 hkl q5
      go_upto_region 11 with (fail)
      refine gen1 (p := fun W => Code.wp _ _ _ _ W) ?_
      intro W b2 s2 kx
      have x3 := kx.cell 3
      have x4 := kx.cell 4
      have x8 := kx.cell 8
      simp at x3 x4 x8
      clear kx c0 c1 c2 c3 c4 c5 c6 c7 c8 c9 c10 c11 c12 c13
      go_wp2
      all_goals go_ret
      all_goals exact ⟨ret_bool (by rw [groupsI, HGA.out, GR.out, HX.out]; simp [*]), hb.andThen b2⟩
end Go.Proofs.YtknfpigaognklaaGreatDoor
