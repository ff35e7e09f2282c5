/- The program's own walks over bands and groups. -/
import Derived.Test.YtknfpigaognklaaGreatDoorI4
import Derived.Lib.QuietBelow
import Derived.Deep.RegionWith
namespace Go.Proofs.YtknfpigaognklaaGreatDoor
open Go.RowKit Go.Sort
theorem left_as {P : Program} {f : FuncId} {args : Array Value} {w : World} {d : Nat} {os : Array Obj} {u v : Bool} (e : u = v)
    (h : Calls P f args (grow (redrawn w d) os) fun e w' => e = .returned (.bool u) ∧ grow (redrawn w d) os = w') : Calls P f args (grow (redrawn w d) os) fun e w'' => e = .returned (.bool v) ∧ ∃ p : Regrown, w'' = grow (redrawn w p.d) p.os := by
  subst e; exact regrown_left h
set_option maxHeartbeats 400000 in
theorem iBandZero_any (x : BandM) (h : GH) (w : World) :
    Calls Tryz.prog 178 #[.agg #[.int .i64 x.quota, .int .i64 x.pool, .int .i64 x.spent, .slice h.la x.locals.length h.lc, .slice h.da x.dry.length h.dc]] w fun e w' => e = .returned (.bool (noBand x)) ∧ Below w.heap.size w w' := by
  go_enter Tryz.func178, Tryz.ntmps178
  go_wp2
  all_goals go_ret
  all_goals exact ⟨ret_bool (by simp [noBand, *]), (Below.refl _ _).alloc (Nat.le_refl _) _⟩
set_option maxRecDepth 100000 in
set_option maxHeartbeats 1000000 in
theorem iBandOk_any (x : BandM) (h : GH) (w : World) (hl : IntS w h.la x.locals) (hd : BoolS w h.da x.dry) (hlm : x.locals.length ≤ 1048576) :
    Calls Tryz.prog 180 #[.agg #[.int .i64 x.quota, .int .i64 x.pool, .int .i64 x.spent, .slice h.la x.locals.length h.lc, .slice h.da x.dry.length h.dc]] w fun e w' => e = .returned (.bool (bandB x)) ∧ Below w.heap.size w w' := by
  by_cases hh : bandHead x = true
  · have hh' := hh
    simp only [bandHead, Bool.and_eq_true, beq_iff_eq] at hh'
    obtain ⟨⟨⟨⟨h1, h2⟩, h3⟩, h4⟩, h5⟩ := hh'
    obtain ⟨q1, q2⟩ := inR_iff.1 h1
    obtain ⟨l1, l2⟩ := inR_iff.1 h2
    obtain ⟨p1, p2⟩ := inR_iff.1 h4
    obtain ⟨s1, s2⟩ := inR_iff.1 h5
    have H3 := Lib.hid h3
    have H3' : ((x.dry.length : Int) != (x.locals.length : Int)) = false := by simp [h3]
    clear h3
    obtain ⟨la, lc, da, dc, sa, sc⟩ := h
    dsimp only at hl hd ⊢
    go_enter Tryz.func180, Tryz.ntmps180
    go_wp2_with (go_at_call 111; refine (iInRange_any _ _ _ _).mono ?_; rintro e w' ⟨rfl, rfl⟩; first | rw [h1] | rw [h2] | rw [h4] | rw [h5])
    refine gen1 (p := fun W => Code.wp _ _ _ _ W) ?_
    intro W b1 z1 kx
    have x0 := kx.cell 0
    have x1 := kx.cell 1
    have x3 := kx.cell 3
    have x4 := kx.cell 4
    simp at x0 x1 x3 x4
    have KX := Lib.hid kx.lt
    clear kx
    go_loopw [2, 3, 4, 5, 48] (fun r s _ _ i wr => ∃ k : Nat, k ≤ x.locals.length ∧ i = .int .i64 k ∧ r = .bool false ∧ s = .int .i64 (x.pool + x.spent + lsum x k) ∧ (List.range k).all (lcB x) = true ∧ Below W.heap.size W wr) (fun _ _ _ _ i _ => x.locals.length - (intOf i).toNat)
    case atStart => exact ⟨0, by omega, rfl, rfl, by simp [lsum], rfl, Below.refl _ _⟩
    case round =>
      obtain ⟨k, hk, rfl, rfl, rfl, hall, hb⟩ := hrel
      have y0 := (hb.cell (p := ⟨w.heap.size, 0, none⟩) KX.out).trans x0
      have y1 := (hb.cell (p := ⟨w.heap.size, 1, none⟩) KX.out).trans x1
      have y3 := (hb.cell (p := ⟨w.heap.size, 3, none⟩) KX.out).trans x3
      have y4 := (hb.cell (p := ⟨w.heap.size, 4, none⟩) KX.out).trans x4
      have hwl : w.heap.size < wr.heap.size := Nat.lt_of_lt_of_le KX.out hb.size
      have HA := Lib.hid hall
      clear hall
      have hsb := lsum_bd q2 k HA.out
      by_cases hlt : k < x.locals.length
      · obtain ⟨b2, o2, rfl, hB2, d0⟩ := ((hl.keep b1).keep hb).at_ k hlt
        obtain ⟨b3, o3, rfl, hB3, d1⟩ := ((hd.keep b1).keep hb).at_ k (by rw [H3.out]; exact hlt)
        have g0 : x.locals[k] = x.locals.getD k 0 := by simp [hlt]
        have g1 : x.dry[k]'(by rw [H3.out]; exact hlt) = x.dry.getD k false := by simp [H3.out, hlt]
        rw [g0] at d0
        rw [g1] at d1
        have hkd : k < x.dry.length := by rw [H3.out]; exact hlt
        clear g0 g1
        generalize hA : x.locals.getD k 0 = a at *
        generalize hD : x.dry.getD k false = d at *
        have HA1 := Lib.hid hA
        have HD1 := Lib.hid hD
        clear hA hD
        by_cases i1 : inR a 0 x.quota = true
        · obtain ⟨a1, a2⟩ := inR_iff.1 i1
          have hlc : lcB x k = !(d && (decide (0 < a) || decide (0 < x.pool))) := by rw [lcB, HA1.out, HD1.out, i1]; rfl
          have HLC := Lib.hid hlc
          clear hlc
          cases d with
          | false =>
            go_wp2_with (go_at_call 111; refine (iInRange_any _ _ _ _).mono ?_; rintro e w' ⟨rfl, rfl⟩; rw [i1])
            go_roundw
            case rel => exact ⟨k + 1, by omega, by go_num, rfl, val_eq (by simp only [lsum]; rw [HA1.out]; omega), by rw [all_succ, HA.out, HLC.out]; rfl, hb⟩
            case measure => simp [intOf]; omega
          | true =>
            by_cases ha : 0 < a
            · have hda := Lib.hid (show decide (0 < a) = true from decide_eq_true ha)
              have hne : (a != 0) = true := by simp; omega
              go_wp2_with (go_at_call 111; refine (iInRange_any _ _ _ _).mono ?_; rintro e w' ⟨rfl, rfl⟩; rw [i1])
              go_ret
              exact ⟨ret_bool (by rw [bandB, all_of hlt (by rw [HLC.out]; rw [hda.out]; rfl)]; simp), b1.andThen hb⟩
            · have hda := Lib.hid (show decide (0 < a) = false from decide_eq_false ha)
              have hne : (a != 0) = false := by simp; omega
              by_cases hp : 0 < x.pool
              · have hdp := Lib.hid (show decide (0 < x.pool) = true from decide_eq_true hp)
                have hnp : (x.pool != 0) = true := by simp; omega
                go_wp2_with (go_at_call 111; refine (iInRange_any _ _ _ _).mono ?_; rintro e w' ⟨rfl, rfl⟩; rw [i1])
                go_ret
                exact ⟨ret_bool (by rw [bandB, all_of hlt (by rw [HLC.out]; rw [hda.out, hdp.out]; rfl)]; simp), b1.andThen hb⟩
              · have hdp := Lib.hid (show decide (0 < x.pool) = false from decide_eq_false hp)
                have hnp : (x.pool != 0) = false := by simp; omega
                go_wp2_with (go_at_call 111; refine (iInRange_any _ _ _ _).mono ?_; rintro e w' ⟨rfl, rfl⟩; rw [i1])
                go_roundw
                case rel => exact ⟨k + 1, by omega, by go_num, rfl, val_eq (by simp only [lsum]; rw [HA1.out]; omega), by rw [all_succ, HA.out, HLC.out]; rw [hda.out, hdp.out]; rfl, hb⟩
                case measure => simp [intOf]; omega
        · have i1' : inR a 0 x.quota = false := by simpa using i1
          have HLC := Lib.hid (show lcB x k = false by rw [lcB, HA1.out, i1']; rfl)
          go_wp2_with (go_at_call 111; refine (iInRange_any _ _ _ _).mono ?_; rintro e w' ⟨rfl, rfl⟩; rw [i1'])
          go_ret
          exact ⟨ret_bool (by rw [bandB, all_of hlt HLC.out]; simp), b1.andThen hb⟩
      · have hkl : k = x.locals.length := by omega
        have HA2 := Lib.hid (show (List.range x.locals.length).all (lcB x) = true by rw [← hkl]; exact HA.out)
        have HH := Lib.hid hh
        clear hh
        go_wp2
        go_ret
        exact ⟨ret_bool (by rw [bandB, HH.out, HA2.out, ← hkl]; rfl), b1.andThen hb⟩
  · have BN := Lib.hid (show bandB x = false by rw [bandB, show bandHead x = false by simpa using hh]; rfl)
    by_cases h1 : inR x.quota 1 10000 = true
    · by_cases h2 : inR x.locals.length 1 4 = true
      · by_cases h3 : (x.dry.length == x.locals.length) = true
        · have h3g : ((x.dry.length : Int) != (x.locals.length : Int)) = false := by rw [beq_iff_eq] at h3; simp [h3]
          have H3 := Lib.hid h3
          clear h3
          by_cases h4 : inR x.pool 0 x.quota = true
          · by_cases h5 : inR x.spent 0 x.quota = true
            · exact absurd (show bandHead x = true by simp only [bandHead, h1, h2, h4, h5, H3.out]; rfl) hh
            · have h5f : inR x.spent 0 x.quota = false := by simpa using h5
              go_enter Tryz.func180, Tryz.ntmps180
              go_wp2_with (go_at_call 111; refine (iInRange_any _ _ _ _).mono ?_; rintro e w' ⟨rfl, rfl⟩; first | rw [h1] | rw [h2] | rw [h4] | rw [h5f])
              go_ret
              exact ⟨ret_bool BN.out.symm, (Below.refl _ _).alloc (Nat.le_refl _) _⟩
          · have h4f : inR x.pool 0 x.quota = false := by simpa using h4
            go_enter Tryz.func180, Tryz.ntmps180
            go_wp2_with (go_at_call 111; refine (iInRange_any _ _ _ _).mono ?_; rintro e w' ⟨rfl, rfl⟩; first | rw [h1] | rw [h2] | rw [h4f])
            go_ret
            exact ⟨ret_bool BN.out.symm, (Below.refl _ _).alloc (Nat.le_refl _) _⟩
        · have h3f : (x.dry.length == x.locals.length) = false := by simpa using h3
          have h3g : ((x.dry.length : Int) != (x.locals.length : Int)) = true := by simpa [bne_iff_ne, Int.ofNat_inj] using h3
          clear h3 h3f
          go_enter Tryz.func180, Tryz.ntmps180
          go_wp2_with (go_at_call 111; refine (iInRange_any _ _ _ _).mono ?_; rintro e w' ⟨rfl, rfl⟩; first | rw [h1] | rw [h2])
          go_ret
          exact ⟨ret_bool BN.out.symm, (Below.refl _ _).alloc (Nat.le_refl _) _⟩
      · have h2f : inR x.locals.length 1 4 = false := by simpa using h2
        go_enter Tryz.func180, Tryz.ntmps180
        go_wp2_with (go_at_call 111; refine (iInRange_any _ _ _ _).mono ?_; rintro e w' ⟨rfl, rfl⟩; first | rw [h1] | rw [h2f])
        go_ret
        exact ⟨ret_bool BN.out.symm, (Below.refl _ _).alloc (Nat.le_refl _) _⟩
    · have h1f : inR x.quota 1 10000 = false := by simpa using h1
      go_enter Tryz.func180, Tryz.ntmps180
      go_wp2_with (go_at_call 111; refine (iInRange_any _ _ _ _).mono ?_; rintro e w' ⟨rfl, rfl⟩; rw [h1f])
      go_ret
      exact ⟨ret_bool BN.out.symm, (Below.refl _ _).alloc (Nat.le_refl _) _⟩
set_option maxRecDepth 100000 in
set_option maxHeartbeats 1000000 in
theorem iGroupZero_any (x : GroupM) (h : GH) (w : World) (hu : x.used = false) :
    Calls Tryz.prog 140 #[.agg #[.bool x.used, .int .i64 x.parent, .string x.name, .int .i64 x.weight, .int .i64 x.cpus, .int .i64 x.period, .int .i64 x.next, .int .i64 x.sum, .int .i64 x.band.quota, .int .i64 x.band.pool, .int .i64 x.band.spent, .slice h.la x.band.locals.length h.lc, .slice h.da x.band.dry.length h.dc, .slice h.sa x.shelves.length h.sc]] w fun e w' => e = .returned (.bool (grpZ x)) ∧ Below w.heap.size w w' := by
  rw [hu]
  go_enter Tryz.func140, Tryz.ntmps140
  go_upto_region 1 with (fail)
  refine gen1 (p := fun W => Code.wp _ _ _ _ W) ?_
  intro W b1 s1 kx
  have x0 := kx.cell 0
  have x1 := kx.cell 1
  have x2 := kx.cell 2
  have x3 := kx.cell 3
  have x4 := kx.cell 4
  have x5 := kx.cell 5
  have x6 := kx.cell 6
  have x7 := kx.cell 7
  have x8 := kx.cell 8
  have x9 := kx.cell 9
  have x10 := kx.cell 10
  have x11 := kx.cell 11
  have x12 := kx.cell 12
  have x13 := kx.cell 13
  simp at x0 x1 x2 x3 x4 x5 x6 x7 x8 x9 x10 x11 x12 x13
  have hxs := kx.lt
  clear kx
  go_wp2_with (go_at_call 178; refine (iBandZero_any x.band h _).mono ?_; rintro e w2 ⟨rfl, hb2⟩; have z13 := (hb2.cell (p := ⟨w.heap.size, 13, none⟩) hxs).trans x13; have hxs2 := Nat.lt_of_lt_of_le hxs hb2.size)
  all_goals go_ret
  all_goals first
    | exact ⟨ret_bool (by simp [grpZ, *]), b1⟩
    | exact ⟨ret_bool (by simp [grpZ, *]), b1.andThen hb2⟩
/-- the program's test of a quota -/
def quotaI (M : WorldM) (x : GroupM) : Bool := if noBand x.band then (x.period == 0) && (x.next == 0)
  else bandB x.band && ((x.band.locals.length : Int) == M.cpus.length) && inR x.period 1 1000 && inR x.next (M.now + 1) (M.now + x.period)
set_option maxRecDepth 100000 in
set_option maxHeartbeats 1000000 in
theorem iQuotaOk_any (p : Nat) (ca : Option Addr) (cc : Nat) (ta : Option Addr) (tc : Nat) (ga : Option Addr) (gc : Nat) (gh : Nat → GH) (M : WorldM) (w : World) (hs : PA w p ca cc ta tc ga gc gh M) (x : GroupM) (h : GH) (hl : IntS w h.la x.band.locals) (hd : BoolS w h.da x.band.dry) (hlm : x.band.locals.length ≤ 1048576) (hnow : inR M.now 0 100000000000000000 = true) :
    Calls Tryz.prog 143 #[.pointer (some ⟨p, 0, none⟩), .agg #[.bool x.used, .int .i64 x.parent, .string x.name, .int .i64 x.weight, .int .i64 x.cpus, .int .i64 x.period, .int .i64 x.next, .int .i64 x.sum, .int .i64 x.band.quota, .int .i64 x.band.pool, .int .i64 x.band.spent, .slice h.la x.band.locals.length h.lc, .slice h.da x.band.dry.length h.dc, .slice h.sa x.shelves.length h.sc]] w fun e w' => e = .returned (.bool (quotaI M x)) ∧ Below w.heap.size w w' := by
  obtain ⟨n0, n1⟩ := inR_iff.1 hnow
  have hcm : M.cpus.length ≤ M.cpus.length := Nat.le_refl _
  go_enter Tryz.func143, Tryz.ntmps143
  go_upto_region 1 with (fail)
  refine gen1 (p := fun W => Code.wp _ _ _ _ W) ?_
  intro W b1 s1 kx
  have x5 := kx.cell 5
  have x6 := kx.cell 6
  have x8 := kx.cell 8
  have x9 := kx.cell 9
  have x10 := kx.cell 10
  have x11 := kx.cell 11
  have x12 := kx.cell 12
  simp at x5 x6 x8 x9 x10 x11 x12
  have hxs := kx.lt
  have hl2 := hl.keep b1
  have hd2 := hd.keep b1
  have pw := hs.keep b1
  have HS := Lib.hid pw
  obtain ⟨q0, q1, q2, q3, q4, q5⟩ := pw
  clear kx q3 q4 q5 hs hl hd hcm
  by_cases hnb : noBand x.band = true
  · have QN := Lib.hid (show quotaI M x = ((x.period == 0) && (x.next == 0)) by rw [quotaI, if_pos hnb])
    have HNB := Lib.hid hnb
    clear hnb
    go_wp2_with (go_at_call 178; refine (iBandZero_any x.band h _).mono ?_; rintro e w2 ⟨rfl, hb2⟩; rw [HNB.out]; have z5 := (hb2.cell (p := ⟨w.heap.size, 5, none⟩) hxs).trans x5; have z6 := (hb2.cell (p := ⟨w.heap.size, 6, none⟩) hxs).trans x6; have hxs2 := Nat.lt_of_lt_of_le hxs hb2.size)
    all_goals go_ret
    all_goals exact ⟨ret_bool (by rw [QN.out]; simp [*]), b1.andThen hb2⟩
  · have HNB := Lib.hid (show noBand x.band = false by simpa using hnb)
    have QN := Lib.hid (show quotaI M x = (bandB x.band && ((x.band.locals.length : Int) == M.cpus.length) && inR x.period 1 1000 && inR x.next (M.now + 1) (M.now + x.period)) by rw [quotaI, if_neg hnb])
    clear hnb
    go_upto_region 3 with (go_at_call 178; refine (iBandZero_any x.band h _).mono ?_; rintro e w2 ⟨rfl, hb2⟩; rw [HNB.out])
    have z5 := (hb2.cell (p := ⟨w.heap.size, 5, none⟩) hxs).trans x5
    have z6 := (hb2.cell (p := ⟨w.heap.size, 6, none⟩) hxs).trans x6
    have z8 := (hb2.cell (p := ⟨w.heap.size, 8, none⟩) hxs).trans x8
    have z9 := (hb2.cell (p := ⟨w.heap.size, 9, none⟩) hxs).trans x9
    have z10 := (hb2.cell (p := ⟨w.heap.size, 10, none⟩) hxs).trans x10
    have z11 := (hb2.cell (p := ⟨w.heap.size, 11, none⟩) hxs).trans x11
    have z12 := (hb2.cell (p := ⟨w.heap.size, 12, none⟩) hxs).trans x12
    have p1 := (hb2.cell (p := ⟨p, 0, none⟩) q0).trans q1
    have p2 := (hb2.cell (p := ⟨p, 1, none⟩) q0).trans q2
    have hl3 := hl2.keep hb2
    have hd3 := hd2.keep hb2
    have b3 := b1.andThen hb2
    clear x5 x6 x8 x9 x10 x11 x12 q1 q2 hb2 hl2 hd2
    have Z5 := fun d os => cell_regrown z5 d os
    have Z6 := fun d os => cell_regrown z6 d os
    have Z8 := fun d os => cell_regrown z8 d os
    have Z9 := fun d os => cell_regrown z9 d os
    have Z10 := fun d os => cell_regrown z10 d os
    have Z11 := fun d os => cell_regrown z11 d os
    have Z12 := fun d os => cell_regrown z12 d os
    have P1 := fun d os => cell_regrown p1 d os
    have P2 := fun d os => cell_regrown p2 d os
    have HL3 := Lib.hid hl3
    have HD3 := Lib.hid hd3
    have hlm2 := Lib.hid hlm
    clear hl3 hd3 z5 z6 z8 z9 z10 z11 z12 p1 p2
    by_cases hbo : bandB x.band = true
    · have HBO := Lib.hid hbo
      clear hbo
      by_cases hlc : ((x.band.locals.length : Int) == (M.cpus.length : Int)) = true
      · by_cases hpe : inR x.period 1 1000 = true
        · have hpb := inR_iff.1 hpe
          have QF := Lib.hid (show quotaI M x = inR x.next (M.now + 1) (M.now + x.period) by rw [QN.out, HBO.out, hlc, hpe]; rfl)
          have HPE := Lib.hid hpe
          clear hpe
          refine wp_region_quiet_below (by kernel_rfl) (by kernel_rfl) ?_
          repeat (go_big_quiet_step (first | (go_at_call 180; exact regrown_as HBO.out (iBandOk_any x.band h _ (HL3.out.keep (below_regrown _ _ _)) (HD3.out.keep (below_regrown _ _ _)) hlm2.out)) | (go_at_call_of 111 (x.next); exact regrown_left (iInRange_any _ _ _ _)) | (go_at_call 111; exact left_as HPE.out (iInRange_any x.period 1 1000 _))))
          refine wpQuiet_nil ?_
          intro _ hw'
          obtain ⟨⟨dq, osq⟩, hw''⟩ := hw'
          subst hw''
          have hb4 := below_regrown w2 dq osq
          generalize grow (redrawn w2 dq) osq = W2 at *
          go_wp2
          go_ret
          exact ⟨ret_bool QF.out.symm, b3.andThen hb4⟩
        · have HPE := Lib.hid (show inR x.period 1 1000 = false by simpa using hpe)
          have QF := Lib.hid (show quotaI M x = false by rw [QN.out, HPE.out]; simp)
          clear hpe
          refine wp_region_quiet_below (by kernel_rfl) (by kernel_rfl) ?_
          repeat (go_big_quiet_step (first | (go_at_call 180; exact regrown_as HBO.out (iBandOk_any x.band h _ (HL3.out.keep (below_regrown _ _ _)) (HD3.out.keep (below_regrown _ _ _)) hlm2.out)) | (go_at_call 111; exact left_as HPE.out (iInRange_any x.period 1 1000 _))))
          refine wpQuiet_nil ?_
          intro _ hw'
          obtain ⟨⟨dq, osq⟩, hw''⟩ := hw'
          subst hw''
          have hb4 := below_regrown w2 dq osq
          generalize grow (redrawn w2 dq) osq = W2 at *
          go_wp2
          go_ret
          exact ⟨ret_bool QF.out.symm, b3.andThen hb4⟩
      · have HLC : ((x.band.locals.length : Int) == (M.cpus.length : Int)) = false := by simpa [Int.ofNat_inj] using hlc
        have QF := Lib.hid (show quotaI M x = false by rw [QN.out, HLC]; simp)
        clear hlc
        refine wp_region_quiet_below (by kernel_rfl) (by kernel_rfl) ?_
        repeat (go_big_quiet_step ((go_at_call 180; exact regrown_as HBO.out (iBandOk_any x.band h _ (HL3.out.keep (below_regrown _ _ _)) (HD3.out.keep (below_regrown _ _ _)) hlm2.out))))
        refine wpQuiet_nil ?_
        intro _ hw'
        obtain ⟨⟨dq, osq⟩, hw''⟩ := hw'
        subst hw''
        have hb4 := below_regrown w2 dq osq
        generalize grow (redrawn w2 dq) osq = W2 at *
        go_wp2
        go_ret
        exact ⟨ret_bool QF.out.symm, b3.andThen hb4⟩
    · have HBO := Lib.hid (show bandB x.band = false by simpa using hbo)
      have QF := Lib.hid (show quotaI M x = false by rw [QN.out, HBO.out]; rfl)
      clear hbo
      refine wp_region_quiet_below (by kernel_rfl) (by kernel_rfl) ?_
      repeat (go_big_quiet_step ((go_at_call 180; exact regrown_as HBO.out (iBandOk_any x.band h _ (HL3.out.keep (below_regrown _ _ _)) (HD3.out.keep (below_regrown _ _ _)) hlm2.out))))
      refine wpQuiet_nil ?_
      intro _ hw'
      obtain ⟨⟨dq, osq⟩, hw''⟩ := hw'
      subst hw''
      have hb4 := below_regrown w2 dq osq
      generalize grow (redrawn w2 dq) osq = W2 at *
      go_wp2
      go_ret
      exact ⟨ret_bool QF.out.symm, b3.andThen hb4⟩
end Go.Proofs.YtknfpigaognklaaGreatDoor
