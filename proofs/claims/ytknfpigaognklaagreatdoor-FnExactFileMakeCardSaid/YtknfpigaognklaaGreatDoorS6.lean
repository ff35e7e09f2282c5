/- The reference's walk over a group of a world. -/
import Derived.Test.YtknfpigaognklaaGreatDoorS4
namespace Go.Proofs.YtknfpigaognklaaGreatDoor
open Go.RowKit Go.Sort
/-- lengths of what hangs on groups -/
structure FitG (M : WorldM) : Prop where
  cpu : M.cpus.length ≤ 1048576
  task : M.tasks.length ≤ 1048576
  group : M.groups.length ≤ 1048576
  loc : ∀ k, k < M.groups.length → (grp M k).band.locals.length ≤ 1048576
  dry : ∀ k, k < M.groups.length → (grp M k).band.dry.length ≤ 1048576
  she : ∀ k, k < M.groups.length → (grp M k).shelves.length ≤ 1048576
  name : ∀ k, k < M.groups.length → (grp M k).name.size ≤ 1048576
set_option maxRecDepth 100000 in
set_option maxHeartbeats 2000000 in
theorem sl8GroupOk_any (ca : Option Addr) (cc : Nat) (ta : Option Addr) (tc : Nat) (ga : Option Addr) (gc : Nat) (gh : Nat → GH) (M : WorldM) (w : World) (hs : WA w ca ta ga gh M) (hF : FitG M) (k : Nat) (hk : k < M.groups.length) :
    Calls Tryz.prog 67 #[.agg #[.int .i64 M.now, .slice ca M.cpus.length cc, .slice ta M.tasks.length tc, .slice ga M.groups.length gc], .int .i64 k] w fun e w' => e = .returned (.bool (groupB M k)) ∧ Below w.heap.size w w' := by
  obtain ⟨b, o, rfl, hB, c0, c1, c2, c3, c4, c5, c6, c7, c8, c9, c10, c11, c12, c13⟩ := hs.group_ hk
  have hil := hs.group.loc k hk
  have hid := hs.group.dry k hk
  rw [grp_eq hk] at hil hid
  have fl := hF.loc k hk
  have fd := hF.dry k hk
  have fs := hF.she k hk
  have fc := hF.cpu
  obtain ⟨x, hX⟩ : ∃ x, grp M k = x := ⟨_, rfl⟩
  rw [hX] at c0 c1 c2 c3 c4 c5 c6 c7 c8 c9 c10 c11 c12 c13 hil hid fl fd fs
  have HX := Lib.hid hX
  have HF := Lib.hid hF
  clear hX hF
  by_cases hu : x.used = true
  · have GN := Lib.hid (show groupB M k = (grpU M x && (decide (k ≠ 0) || grpR x) && grpQ M x) by rw [groupB, HX.out, if_pos hu])
    rw [hu] at c0
    clear hu
    go_enter Tryz.func67, Tryz.ntmps67
    go_upto_region 4 with (fail)
    refine PA.gen (P := fun W => Code.wp _ _ _ _ (W.alloc _)) hs ?_
    intro W0 b1 s1 pw0
    refine gen1 (p := fun W => Code.wp _ _ _ _ W) ?_
    intro W b2 s2 kx
    obtain ⟨q0, q1, q2, q3, q4, q5⟩ := pw0.keep b2
    have b3 := b1.andThen b2
    rw [s1] at kx
    have x3 := kx.cell 3
    have x4 := kx.cell 4
    have x5 := kx.cell 5
    have x6 := kx.cell 6
    have x7 := kx.cell 7
    have x8 := kx.cell 8
    have x9 := kx.cell 9
    have x10 := kx.cell 10
    have x11 := kx.cell 11
    have x12 := kx.cell 12
    have x13 := kx.cell 13
    simp at x3 x4 x5 x6 x7 x8 x9 x10 x11 x12 x13
    have hxs := kx.lt
    have HIL := Lib.hid (hil.keep b3)
    have HID := Lib.hid (hid.keep b3)
    clear kx c0 c1 c2 c3 c4 c5 c6 c7 c8 c9 c10 c11 c12 c13 hil hid
    by_cases hU : grpU M x = true
    · have f1 := hU
      simp only [grpU, Bool.and_eq_true, Bool.not_eq_true'] at f1
      obtain ⟨⟨⟨⟨f1, f2⟩, f3⟩, f4⟩, f5⟩ := f1
      have f5' : ((x.shelves.length : Int) != (M.cpus.length : Int)) = false := by rw [bne, f5]; rfl
      have HU := Lib.hid hU
      clear hU f5
      by_cases h0 : k = 0
      · by_cases hR : grpR x = true
        · have f7 := hR
          simp only [grpR, Bool.and_eq_true] at f7
          obtain ⟨⟨f7, f8⟩, f9⟩ := f7
          have f7' : (x.weight != 10) = false := by rw [bne, f7]; rfl
          have f8' : (x.cpus != 15) = false := by rw [bne, f8]; rfl
          have f9' : (x.band.quota != 0) = false := by rw [bne, f9]; rfl
          have hke : ((k : Int) == 0) = true := by simpa using h0
          have HR := Lib.hid hR
          have GN := Lib.hid (show groupB M k = (grpU M x && true && grpQ M x) by rw [GN.out, hR]; simp)
          clear hR f7 f8 f9 h0
          go_upto_region 8 with (first | (go_at_call 124; refine (sl1Weight_any _ _).mono ?_; rintro e w' ⟨rfl, rfl⟩; rw [f1]) | (go_at_call 125; refine (sMaskOk_any _ _).mono ?_; rintro e w' ⟨rfl, rfl⟩; rw [f2]) | (go_at_call 126; refine (sl4Time_any _ _).mono ?_; rintro e w' ⟨rfl, rfl⟩; rw [f4]))
          by_cases hq : x.band.quota = 0
          · have GQ := Lib.hid (show grpQ M x = (noBand x.band && (x.period == 0) && (x.next == 0)) by rw [grpQ, if_pos hq])
            have hq' : (x.band.quota == 0) = true := by simpa using hq
            clear hq
            go_wp2_with (go_at_call 123; refine (sl8NoBand_any x.band (gh k) _).mono ?_; rintro e w2 ⟨rfl, hb2⟩; have z5 := (hb2.cell (p := ⟨w.heap.size + 1, 5, none⟩) hxs).trans x5; have z6 := (hb2.cell (p := ⟨w.heap.size + 1, 6, none⟩) hxs).trans x6; have z11 := (hb2.cell (p := ⟨w.heap.size + 1, 11, none⟩) hxs).trans x11; have p1 := (hb2.cell (p := ⟨w.heap.size, 0, none⟩) q0).trans q1; have p2 := (hb2.cell (p := ⟨w.heap.size, 1, none⟩) q0).trans q2)
            all_goals go_ret
            all_goals exact ⟨ret_bool (by rw [GN.out, HU.out, GQ.out]; first | (simp [*]; done) | (simp [*]; intro hlt; omega)), b3.andThen hb2⟩
          · have GQ := Lib.hid (show grpQ M x = (bandB x.band && ((x.band.locals.length : Int) == M.cpus.length) && inR x.period 1 1000 && decide (M.now < x.next) && decide (wrap64 (x.next - M.now) ≤ x.period)) by rw [grpQ, if_neg hq])
            have hq' : (x.band.quota == 0) = false := by simpa using hq
            clear hq
            go_wp2_with (first | (go_at_call 127; refine (sBandOk_any x.band (gh k) _ HIL.out HID.out fl).mono ?_; rintro e w2 ⟨rfl, hb2⟩; have z5 := (hb2.cell (p := ⟨w.heap.size + 1, 5, none⟩) hxs).trans x5; have z6 := (hb2.cell (p := ⟨w.heap.size + 1, 6, none⟩) hxs).trans x6; have z11 := (hb2.cell (p := ⟨w.heap.size + 1, 11, none⟩) hxs).trans x11; have p1 := (hb2.cell (p := ⟨w.heap.size, 0, none⟩) q0).trans q1; have p2 := (hb2.cell (p := ⟨w.heap.size, 1, none⟩) q0).trans q2) | (go_at_call 64; refine (sl1In_any _ _ _ _).mono ?_; rintro e w' ⟨rfl, rfl⟩))
            all_goals go_ret
            all_goals exact ⟨ret_bool (by rw [GN.out, HU.out, GQ.out]; first | (simp [*]; done) | (simp [*]; intro hlt; omega)), b3.andThen hb2⟩
        · have HR := Lib.hid (show grpR x = false by simpa using hR)
          have hke : ((k : Int) == 0) = true := by simpa using h0
          have GF := Lib.hid (show groupB M k = false by rw [GN.out, HR.out]; simp [h0])
          clear hR h0
          go_upto_region 8 with (first | (go_at_call 124; refine (sl1Weight_any _ _).mono ?_; rintro e w' ⟨rfl, rfl⟩; rw [f1]) | (go_at_call 125; refine (sMaskOk_any _ _).mono ?_; rintro e w' ⟨rfl, rfl⟩; rw [f2]) | (go_at_call 126; refine (sl4Time_any _ _).mono ?_; rintro e w' ⟨rfl, rfl⟩; rw [f4]))
          all_goals first
            | (go_ret; exact ⟨ret_bool GF.out.symm, b3⟩)
            | exact absurd HR.out (by simp_all [grpR])
      · have hke : ((k : Int) == 0) = false := by simpa using h0
        have GN := Lib.hid (show groupB M k = (grpU M x && true && grpQ M x) by rw [GN.out]; simp [h0])
        clear h0
        go_upto_region 8 with (first | (go_at_call 124; refine (sl1Weight_any _ _).mono ?_; rintro e w' ⟨rfl, rfl⟩; rw [f1]) | (go_at_call 125; refine (sMaskOk_any _ _).mono ?_; rintro e w' ⟨rfl, rfl⟩; rw [f2]) | (go_at_call 126; refine (sl4Time_any _ _).mono ?_; rintro e w' ⟨rfl, rfl⟩; rw [f4]))
        by_cases hq : x.band.quota = 0
        · have GQ := Lib.hid (show grpQ M x = (noBand x.band && (x.period == 0) && (x.next == 0)) by rw [grpQ, if_pos hq])
          have hq' : (x.band.quota == 0) = true := by simpa using hq
          clear hq
          go_wp2_with (go_at_call 123; refine (sl8NoBand_any x.band (gh k) _).mono ?_; rintro e w2 ⟨rfl, hb2⟩; have z5 := (hb2.cell (p := ⟨w.heap.size + 1, 5, none⟩) hxs).trans x5; have z6 := (hb2.cell (p := ⟨w.heap.size + 1, 6, none⟩) hxs).trans x6; have z11 := (hb2.cell (p := ⟨w.heap.size + 1, 11, none⟩) hxs).trans x11; have p1 := (hb2.cell (p := ⟨w.heap.size, 0, none⟩) q0).trans q1; have p2 := (hb2.cell (p := ⟨w.heap.size, 1, none⟩) q0).trans q2)
          all_goals go_ret
          all_goals exact ⟨ret_bool (by rw [GN.out, HU.out, GQ.out]; first | (simp [*]; done) | (simp [*]; intro hlt; omega)), b3.andThen hb2⟩
        · have GQ := Lib.hid (show grpQ M x = (bandB x.band && ((x.band.locals.length : Int) == M.cpus.length) && inR x.period 1 1000 && decide (M.now < x.next) && decide (wrap64 (x.next - M.now) ≤ x.period)) by rw [grpQ, if_neg hq])
          have hq' : (x.band.quota == 0) = false := by simpa using hq
          clear hq
          go_wp2_with (first | (go_at_call 127; refine (sBandOk_any x.band (gh k) _ HIL.out HID.out fl).mono ?_; rintro e w2 ⟨rfl, hb2⟩; have z5 := (hb2.cell (p := ⟨w.heap.size + 1, 5, none⟩) hxs).trans x5; have z6 := (hb2.cell (p := ⟨w.heap.size + 1, 6, none⟩) hxs).trans x6; have z11 := (hb2.cell (p := ⟨w.heap.size + 1, 11, none⟩) hxs).trans x11; have p1 := (hb2.cell (p := ⟨w.heap.size, 0, none⟩) q0).trans q1; have p2 := (hb2.cell (p := ⟨w.heap.size, 1, none⟩) q0).trans q2) | (go_at_call 64; refine (sl1In_any _ _ _ _).mono ?_; rintro e w' ⟨rfl, rfl⟩))
          all_goals go_ret
          all_goals exact ⟨ret_bool (by rw [GN.out, HU.out, GQ.out]; first | (simp [*]; done) | (simp [*]; intro hlt; omega)), b3.andThen hb2⟩
    · have HU := Lib.hid (show grpU M x = false by simpa using hU)
      have GF := Lib.hid (show groupB M k = false by rw [GN.out, HU.out]; rfl)
      clear hU
      go_upto_region 6 with (first | (go_at_call 124; refine (sl1Weight_any _ _).mono ?_; rintro e w' ⟨rfl, rfl⟩) | (go_at_call 125; refine (sMaskOk_any _ _).mono ?_; rintro e w' ⟨rfl, rfl⟩) | (go_at_call 126; refine (sl4Time_any _ _).mono ?_; rintro e w' ⟨rfl, rfl⟩))
      all_goals first
        | (go_ret; exact ⟨ret_bool GF.out.symm, b3⟩)
        | exact absurd HU.out (by simp_all [grpU])
  · have GN := Lib.hid (show groupB M k = grpZ x by rw [groupB, HX.out, if_neg hu])
    have hu' : x.used = false := by simpa using hu
    rw [hu'] at c0
    clear hu hu'
    go_enter Tryz.func67, Tryz.ntmps67
    go_wp2_with (go_at_call 123; refine (sl8NoBand_any x.band (gh k) _).mono ?_; rintro e w2 ⟨rfl, hb2⟩)
    all_goals go_ret
    all_goals first
      | exact ⟨ret_bool (by rw [GN.out]; simp [grpZ, *]), ((Below.refl _ _).alloc (Nat.le_refl _) _).alloc (by simp) _⟩
      | exact ⟨ret_bool (by rw [GN.out]; simp [grpZ, *]), (((Below.refl _ _).alloc (Nat.le_refl _) _).alloc (by simp) _).andThen hb2⟩
end Go.Proofs.YtknfpigaognklaaGreatDoor
