/- The reference's walks over bands. -/
import Derived.Test.YtknfpigaognklaaGreatDoorS2
import Derived.Deep.QuietTactic
import Derived.BigQuiet
import Derived.Lib.QuietBelow
namespace Go.Proofs.YtknfpigaognklaaGreatDoor
open Go.RowKit
set_option maxHeartbeats 400000 in
theorem sl8NoBand_any (x : BandM) (h : GH) (w : World) :
    Calls Tryz.prog 123 #[.agg #[.int .i64 x.quota, .int .i64 x.pool, .int .i64 x.spent, .slice h.la x.locals.length h.lc, .slice h.da x.dry.length h.dc]] w fun e w' => e = .returned (.bool (noBand x)) ∧ Below w.heap.size w w' := by
  go_enter Tryz.func123, Tryz.ntmps123
  go_wp2
  all_goals go_ret
  all_goals exact ⟨ret_bool (by simp [noBand, *]), (Below.refl _ _).alloc (Nat.le_refl _) _⟩
set_option maxHeartbeats 1000000 in
theorem sBandOk_any (x : BandM) (h : GH) (w : World) (hl : IntS w h.la x.locals) (hd : BoolS w h.da x.dry) (hlm : x.locals.length ≤ 1048576) :
    Calls Tryz.prog 127 #[.agg #[.int .i64 x.quota, .int .i64 x.pool, .int .i64 x.spent, .slice h.la x.locals.length h.lc, .slice h.da x.dry.length h.dc]] w fun e w' => e = .returned (.bool (bandB x)) ∧ Below w.heap.size w w' := by
  by_cases hh : bandHead x = true
  · have hh' := hh
    simp only [bandHead, Bool.and_eq_true, beq_iff_eq] at hh'
    obtain ⟨⟨⟨⟨h1, h2⟩, h3⟩, h4⟩, h5⟩ := hh'
    obtain ⟨q1, q2⟩ := inR_iff.1 h1
    obtain ⟨l1, l2⟩ := inR_iff.1 h2
    obtain ⟨p1, p2⟩ := inR_iff.1 h4
    obtain ⟨s1, s2⟩ := inR_iff.1 h5
    have H3 := Lib.hid h3
    have H3' : ((x.dry.length : Int) != (x.locals.length : Int)) = false := by simp [h3]
    clear h3
    obtain ⟨la, lc, da, dc, sa, sc⟩ := h
    dsimp only at hl hd ⊢
    go_enter Tryz.func127, Tryz.ntmps127
    go_wp2_with (go_at_call 64; refine (sl1In_any _ _ _ _).mono ?_; rintro e w' ⟨rfl, rfl⟩; first | rw [h1] | rw [h2] | rw [h4] | rw [h5])
    refine gen1 (p := fun W => Code.wp _ _ _ _ W) ?_
    intro W b1 z1 kx
    have x0 := kx.cell 0
    have x1 := kx.cell 1
    have x3 := kx.cell 3
    have x4 := kx.cell 4
    simp at x0 x1 x3 x4
    have KX := Lib.hid kx.lt
    clear kx
    go_loopw [2, 3, 4] (fun r s i wr => ∃ k : Nat, k ≤ x.locals.length ∧ i = .int .i64 k ∧ r = .bool false ∧ s = .int .i64 (x.pool + x.spent + lsum x k) ∧ (List.range k).all (lcB x) = true ∧ Below W.heap.size W wr) (fun _ _ i _ => x.locals.length - (intOf i).toNat)
    case atStart => exact ⟨0, by omega, rfl, rfl, by simp [lsum], rfl, Below.refl _ _⟩
    case round =>
      obtain ⟨k, hk, rfl, rfl, rfl, hall, hb⟩ := hrel
      have y0 := (hb.cell (p := ⟨w.heap.size, 0, none⟩) KX.out).trans x0
      have y1 := (hb.cell (p := ⟨w.heap.size, 1, none⟩) KX.out).trans x1
      have y3 := (hb.cell (p := ⟨w.heap.size, 3, none⟩) KX.out).trans x3
      have y4 := (hb.cell (p := ⟨w.heap.size, 4, none⟩) KX.out).trans x4
      have HA := Lib.hid hall
      clear hall
      have hsb := lsum_bd q2 k HA.out
      by_cases hlt : k < x.locals.length
      · obtain ⟨b2, o2, rfl, hB2, d0⟩ := ((hl.keep b1).keep hb).at_ k hlt
        obtain ⟨b3, o3, rfl, hB3, d1⟩ := ((hd.keep b1).keep hb).at_ k (by rw [H3.out]; exact hlt)
        have g0 : x.locals[k] = x.locals.getD k 0 := by simp [hlt]
        have g1 : x.dry[k]'(by rw [H3.out]; exact hlt) = x.dry.getD k false := by simp [H3.out, hlt]
        rw [g0] at d0
        rw [g1] at d1
        have hkd : k < x.dry.length := by rw [H3.out]; exact hlt
        clear g0 g1
        generalize hA : x.locals.getD k 0 = a at *
        generalize hD : x.dry.getD k false = d at *
        have HA1 := Lib.hid hA
        have HD1 := Lib.hid hD
        clear hA hD
        by_cases i1 : inR a 0 x.quota = true
        · obtain ⟨a1, a2⟩ := inR_iff.1 i1
          have hlc : lcB x k = !(d && (decide (0 < a) || decide (0 < x.pool))) := by rw [lcB, HA1.out, HD1.out, i1]; rfl
          have HLC := Lib.hid hlc
          clear hlc
          cases d with
          | false =>
            go_wp2_with fail
            go_quiet ((go_at_call 64; exact quiet_left (sl1In_any _ _ _ _)))
            go_wp2
            go_roundw
            case rel => exact ⟨k + 1, by omega, by go_num, rfl, val_eq (by simp only [lsum]; rw [HA1.out]; omega), by rw [all_succ, HA.out, HLC.out]; rfl, hb.drewN _⟩
            case measure => simp [intOf]; omega
          | true =>
            by_cases ha : 0 < a
            · have hda : decide (0 < a) = true := decide_eq_true ha
              go_wp2_with fail
              go_quiet ((go_at_call 64; exact quiet_left (sl1In_any _ _ _ _)))
              go_wp2
              go_ret
              exact ⟨ret_bool (by rw [bandB, all_of hlt (by rw [HLC.out]; rw [hda]; rfl)]; simp), b1.andThen (hb.drewN _)⟩
            · have hda : decide (0 < a) = false := decide_eq_false ha
              by_cases hp : 0 < x.pool
              · have hdp : decide (0 < x.pool) = true := decide_eq_true hp
                go_wp2_with fail
                go_quiet ((go_at_call 64; exact quiet_left (sl1In_any _ _ _ _)))
                go_wp2
                go_ret
                exact ⟨ret_bool (by rw [bandB, all_of hlt (by rw [HLC.out]; rw [hda, hdp]; rfl)]; simp), b1.andThen (hb.drewN _)⟩
              · have hdp : decide (0 < x.pool) = false := decide_eq_false hp
                go_wp2_with fail
                go_quiet ((go_at_call 64; exact quiet_left (sl1In_any _ _ _ _)))
                go_wp2
                go_roundw
                case rel => exact ⟨k + 1, by omega, by go_num, rfl, val_eq (by simp only [lsum]; rw [HA1.out]; omega), by rw [all_succ, HA.out, HLC.out]; rw [hda, hdp]; rfl, hb.drewN _⟩
                case measure => simp [intOf]; omega
        · have i1' : inR a 0 x.quota = false := by simpa using i1
          have HLC := Lib.hid (show lcB x k = false by rw [lcB, HA1.out, i1']; rfl)
          go_wp2_with fail
          go_quiet ((go_at_call 64; exact quiet_left (sl1In_any _ _ _ _)))
          go_wp2
          go_ret
          exact ⟨ret_bool (by rw [bandB, all_of hlt HLC.out]; simp), b1.andThen (hb.drewN _)⟩
      · go_wp2
        go_ret
        have hkl : k = x.locals.length := by omega
        exact ⟨ret_bool (by rw [bandB, hh, ← hkl, HA.out]; rfl), b1.andThen hb⟩
  · have BN := Lib.hid (show bandB x = false by rw [bandB, show bandHead x = false by simpa using hh]; rfl)
    by_cases h1 : inR x.quota 1 10000 = true
    · skip
      by_cases h2 : inR x.locals.length 1 4 = true
      · skip
        by_cases h3 : (x.dry.length == x.locals.length) = true
        · have h3g : ((x.dry.length : Int) != (x.locals.length : Int)) = false := by rw [beq_iff_eq] at h3; simp [h3]
          have H3 := Lib.hid h3
          clear h3
          skip
          by_cases h4 : inR x.pool 0 x.quota = true
          · skip
            by_cases h5 : inR x.spent 0 x.quota = true
            · exact absurd (show bandHead x = true by simp only [bandHead, h1, h2, h4, h5, H3.out]; rfl) hh
            · have h5f : inR x.spent 0 x.quota = false := by simpa using h5
              go_enter Tryz.func127, Tryz.ntmps127
              go_wp2_with (go_at_call 64; refine (sl1In_any _ _ _ _).mono ?_; rintro e w' ⟨rfl, rfl⟩; first | rw [h1] | rw [h2] | rw [h4] | rw [h5f])
              go_ret
              exact ⟨ret_bool BN.out.symm, (Below.refl _ _).alloc (Nat.le_refl _) _⟩
          · have h4f : inR x.pool 0 x.quota = false := by simpa using h4
            go_enter Tryz.func127, Tryz.ntmps127
            go_wp2_with (go_at_call 64; refine (sl1In_any _ _ _ _).mono ?_; rintro e w' ⟨rfl, rfl⟩; first | rw [h1] | rw [h2] | rw [h4f])
            go_ret
            exact ⟨ret_bool BN.out.symm, (Below.refl _ _).alloc (Nat.le_refl _) _⟩
        · have h3f : (x.dry.length == x.locals.length) = false := by simpa using h3
          have h3g : ((x.dry.length : Int) != (x.locals.length : Int)) = true := by simpa [bne_iff_ne, Int.ofNat_inj] using h3
          clear h3 h3f
          go_enter Tryz.func127, Tryz.ntmps127
          go_wp2_with (go_at_call 64; refine (sl1In_any _ _ _ _).mono ?_; rintro e w' ⟨rfl, rfl⟩; first | rw [h1] | rw [h2])
          go_ret
          exact ⟨ret_bool BN.out.symm, (Below.refl _ _).alloc (Nat.le_refl _) _⟩
      · have h2f : inR x.locals.length 1 4 = false := by simpa using h2
        go_enter Tryz.func127, Tryz.ntmps127
        go_wp2_with (go_at_call 64; refine (sl1In_any _ _ _ _).mono ?_; rintro e w' ⟨rfl, rfl⟩; first | rw [h1] | rw [h2f])
        go_ret
        exact ⟨ret_bool BN.out.symm, (Below.refl _ _).alloc (Nat.le_refl _) _⟩
    · have h1f : inR x.quota 1 10000 = false := by simpa using h1
      go_enter Tryz.func127, Tryz.ntmps127
      go_wp2_with (go_at_call 64; refine (sl1In_any _ _ _ _).mono ?_; rintro e w' ⟨rfl, rfl⟩; first | rw [h1f])
      go_ret
      exact ⟨ret_bool BN.out.symm, (Below.refl _ _).alloc (Nat.le_refl _) _⟩
end Go.Proofs.YtknfpigaognklaaGreatDoor
