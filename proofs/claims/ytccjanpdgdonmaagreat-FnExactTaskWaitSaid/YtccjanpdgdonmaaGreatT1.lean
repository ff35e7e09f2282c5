/- How far a group is ahead: the reference and the program. -/
import Derived.Test.YtccjanpdgdonmaaGreatPf
import Derived.Test.YtccjanpdgdonmaaGreatI12
namespace Go.Proofs.YtccjanpdgdonmaaGreat
open Go.RowKit Go.Sort
set_option maxRecDepth 100000 in
set_option maxHeartbeats 4000000 in
theorem sGroupLag_any (ca : Option Addr) (cc : Nat) (ta : Option Addr) (tc : Nat) (ga : Option Addr) (gc : Nat) (gh : Nat → GH) (M : WorldM) (w : World) (hs : WA w ca ta ga gh M) (hF : FitG M) (g c : Int) :
    Calls Tryz.prog 10 #[.agg #[.int .i64 M.now, .slice ca M.cpus.length cc, .slice ta M.tasks.length tc, .slice ga M.groups.length gc], .int .i64 g, .int .i64 c] w fun e w' => e = .returned (.tuple #[.int .i64 (lagG M g c).1, .bool (lagG M g c).2]) ∧ Below w.heap.size w w' := by
  go_enter Tryz.func10, Tryz.ntmps10
  go_upto_region 1 with (fail)
  refine PA.gen (P := fun W => Code.wp _ _ _ _ W) hs ?_
  intro W b1 s1 pw
  have hcm := hF.cpu
  have htm := hF.task
  obtain ⟨q0, q1, q2, q3, q4, q5⟩ := pw
  clear s1
  by_cases f1 : worldB M = true
  · have F1 := Lib.hid f1
    clear f1
    by_cases f2 : usedI M g = true
    · have F2 := Lib.hid f2
      obtain ⟨gn, hgn⟩ : ∃ gn : Nat, g = gn := ⟨g.toNat, by have h := F2.out; simp only [usedI, Bool.and_eq_true, decide_eq_true_eq] at h; omega⟩
      subst hgn
      clear f2
      by_cases f3 : ((gn : Int) == 0) = true
      · have F3 := Lib.hid f3
        have LN := Lib.hid (show lagG M gn c = (0, false) by rw [lagG, if_neg (by rw [F3.out]; simp)])
        go_wp2_with (first | (go_at_call 27; refine (sWorldOk_any ca cc ta tc ga gc gh M _ q5 hF).mono ?_; rintro e w2 ⟨rfl, hb2⟩; rw [F1.out]; have r1 := (hb2.cell (p := ⟨w.heap.size, 0, none⟩) q0).trans q1; have r2 := (hb2.cell (p := ⟨w.heap.size, 1, none⟩) q0).trans q2; have r3 := (hb2.cell (p := ⟨w.heap.size, 2, none⟩) q0).trans q3; have r4 := (hb2.cell (p := ⟨w.heap.size, 3, none⟩) q0).trans q4; have r0 := Nat.lt_of_lt_of_le q0 hb2.size) | (go_at_call 28; refine (sl6Used_any ca ta ga gc gh M _ (q5.keep hb2) _).mono ?_; rintro e w' ⟨rfl, rfl⟩; rw [F2.out]))
        go_ret2
        exact ⟨by rw [LN.out]; rfl, b1.andThen hb2⟩
      · have f3' : ((gn : Int) == 0) = false := by simpa only [Bool.not_eq_true] using f3
        have F3 := Lib.hid f3'
        clear f3
        by_cases f4 : inR c 0 (M.cpus.length - 1) = true
        · have F4 := Lib.hid f4
          obtain ⟨cn, hcn⟩ : ∃ cn : Nat, c = cn := ⟨c.toNat, by have h := inR_iff.1 F4.out; omega⟩
          subst hcn
          clear f4
          by_cases f5 : (she M gn cn).on = true
          · have F5 := Lib.hid f5
            clear f5
            have FA := facts_of F1.out
            have hg8 : gn < 8 := by have h := F2.out; have := FA.tree.len; simp only [usedI, Bool.and_eq_true, decide_eq_true_eq] at h; omega
            have hgu : (grp M gn).used = true := by have h := F2.out; simp only [usedI, Bool.and_eq_true, decide_eq_true_eq, Int.toNat_natCast] at h; exact h.2
            have hc : cn < M.cpus.length := by have h := inR_iff.1 F4.out; omega
            have hg0 : gn ≠ 0 := by have h := F3.out; simp at h; omega
            have hlg : gn < M.groups.length := by have := FA.tree.len; omega
            have hsg : cn < (grp M gn).shelves.length := by rw [FA.gok.she gn hg8 hgu]; exact hc
            obtain ⟨hp1, hp2, hp3, _⟩ := FA.tree.up gn hg8 hgu hg0
            have hlp : par M gn < M.groups.length := by have := FA.tree.len; omega
            have hsp : cn < (grp M (par M gn)).shelves.length := by rw [FA.gok.she _ hp2 hp3]; exact hc
            obtain ⟨v1, v2⟩ := FA.ear.sv gn cn hg8 hsg
            obtain ⟨k1, k2⟩ := FA.ear.sf _ cn hp2 hsp
            have LN := Lib.hid (show lagG M gn cn = ((she M gn cn).v - (she M (par M gn) cn).floor, true) by rw [lagG, if_pos (by rw [F1.out, F2.out, F3.out, F4.out, Int.toNat_natCast, Int.toNat_natCast, F5.out]; rfl), Int.toNat_natCast, Int.toNat_natCast])
            clear FA hp3 hgu
            go_upto_region 3 with (first | (go_at_call 27; refine (sWorldOk_any ca cc ta tc ga gc gh M _ q5 hF).mono ?_; rintro e w2 ⟨rfl, hb2⟩; rw [F1.out]; have r1 := (hb2.cell (p := ⟨w.heap.size, 0, none⟩) q0).trans q1; have r2 := (hb2.cell (p := ⟨w.heap.size, 1, none⟩) q0).trans q2; have r3 := (hb2.cell (p := ⟨w.heap.size, 2, none⟩) q0).trans q3; have r4 := (hb2.cell (p := ⟨w.heap.size, 3, none⟩) q0).trans q4; have r0 := Nat.lt_of_lt_of_le q0 hb2.size) | (go_at_call 28; refine (sl6Used_any ca ta ga gc gh M _ (q5.keep hb2) _).mono ?_; rintro e w' ⟨rfl, rfl⟩; rw [F2.out]) | (go_at_call 29; refine (sl1In_any _ _ _ _).mono ?_; rintro e w' ⟨rfl, rfl⟩; rw [F4.out]) | (go_at_call 30; refine (sl8Queued_any ca cc ta tc ga gc gh M _ (q5.keep hb2) gn cn hlg hsg).mono ?_; rintro e w5 ⟨rfl, hb5⟩; rw [F5.out]))
            have b5 := hb2.andThen hb5
            have q6 := q5.keep b5
            obtain ⟨bg, og, rfl, hBg, c0, c1, c2, c3, c4, c5, c6, c7, c8, c9, c10, c11, c12, c13⟩ := q6.group_ hlg
            rw [hp1] at c1
            have hgrp := q6.group_ hlp
            obtain ⟨bp, op, ep, hBp, d0, d1, d2, d3, d4, d5, d6, d7, d8, d9, d10, d11, d12, d13⟩ := hgrp
            obtain ⟨rfl, rfl⟩ : bg = bp ∧ og = op := by injection ep with ep; injection ep with ep ep2; exact ⟨ep, ep2⟩
            obtain ⟨bs, os, es, hBs, e0, e1, e2, e3, e4⟩ := q6.shelf_ hlg hsg
            obtain ⟨bq, oq, eq, hBq, f0, f1, f2, f3, f4⟩ := q6.shelf_ hlp hsp
            rw [es] at c13
            rw [eq] at d13
            have s4 := (hb5.cell (p := ⟨w.heap.size, 3, none⟩) r0).trans r4
            have hi0 : (0 : Int) ≤ (gn : Int) := by omega
            have hi1 : (gn : Int) < (M.groups.length : Int) := by omega
            have hj0 : (0 : Int) ≤ (cn : Int) := by omega
            have hj1 : (cn : Int) < ((grp M gn).shelves.length : Int) := by omega
            have hk0 : (0 : Int) ≤ (par M gn : Int) := by omega
            have hk1 : (par M gn : Int) < (M.groups.length : Int) := by omega
            have hl1 : (cn : Int) < ((grp M (par M gn)).shelves.length : Int) := by omega
            have hwrap : IntKind.i64.wrap ((she M gn cn).v - (she M (par M gn) cn).floor) = (she M gn cn).v - (she M (par M gn) cn).floor := IntWalk.i64_in _ (by omega)
            have bel := b1.andThen b5
            clear c0 c2 c3 c4 c5 c6 c7 c8 c9 c10 c11 c12 d0 d1 d2 d3 d4 d5 d6 d7 d8 d9 d10 d11 d12 e0 e1 e3 e4 f1 f2 f3 f4 es eq ep q1 q2 q3 q4 q5 q6 r1 r2 r3 r4 hs hp1 b1 b5 hb2
            go_quiet (fail)
            go_wp2
            go_ret2
            exact ⟨by rw [LN.out]; rfl, bel.drewN _⟩
          · have F5 := Lib.hid (show (she M gn cn).on = false by simpa only [Bool.not_eq_true] using f5)
            have FA := facts_of F1.out
            have hg8 : gn < 8 := by have h := F2.out; have := FA.tree.len; simp only [usedI, Bool.and_eq_true, decide_eq_true_eq] at h; omega
            have hgu : (grp M gn).used = true := by have h := F2.out; simp only [usedI, Bool.and_eq_true, decide_eq_true_eq, Int.toNat_natCast] at h; exact h.2
            have hc : cn < M.cpus.length := by have h := inR_iff.1 F4.out; omega
            have hlg : gn < M.groups.length := by have := FA.tree.len; omega
            have hsg : cn < (grp M gn).shelves.length := by rw [FA.gok.she gn hg8 hgu]; exact hc
            clear FA hgu
            clear f5
            have LN := Lib.hid (show lagG M gn cn = (0, false) by rw [lagG, if_neg (by rw [Int.toNat_natCast, Int.toNat_natCast, F5.out]; simp)])
            go_wp2_with (first | (go_at_call 27; refine (sWorldOk_any ca cc ta tc ga gc gh M _ q5 hF).mono ?_; rintro e w2 ⟨rfl, hb2⟩; rw [F1.out]; have r1 := (hb2.cell (p := ⟨w.heap.size, 0, none⟩) q0).trans q1; have r2 := (hb2.cell (p := ⟨w.heap.size, 1, none⟩) q0).trans q2; have r3 := (hb2.cell (p := ⟨w.heap.size, 2, none⟩) q0).trans q3; have r4 := (hb2.cell (p := ⟨w.heap.size, 3, none⟩) q0).trans q4; have r0 := Nat.lt_of_lt_of_le q0 hb2.size) | (go_at_call 28; refine (sl6Used_any ca ta ga gc gh M _ (q5.keep hb2) _).mono ?_; rintro e w' ⟨rfl, rfl⟩; rw [F2.out]) | (go_at_call 29; refine (sl1In_any _ _ _ _).mono ?_; rintro e w' ⟨rfl, rfl⟩; rw [F4.out]) | (go_at_call 30; refine (sl8Queued_any ca cc ta tc ga gc gh M _ (q5.keep hb2) gn cn hlg hsg).mono ?_; rintro e w5 ⟨rfl, hb5⟩; rw [F5.out]))
            go_ret2
            exact ⟨by rw [LN.out]; rfl, b1.andThen (hb2.andThen hb5)⟩
        · have F4 := Lib.hid (show inR c 0 (M.cpus.length - 1) = false by simpa only [Bool.not_eq_true] using f4)
          clear f4
          have LN := Lib.hid (show lagG M gn c = (0, false) by rw [lagG, if_neg (by rw [F4.out]; simp)])
          go_wp2_with (first | (go_at_call 27; refine (sWorldOk_any ca cc ta tc ga gc gh M _ q5 hF).mono ?_; rintro e w2 ⟨rfl, hb2⟩; rw [F1.out]; have r1 := (hb2.cell (p := ⟨w.heap.size, 0, none⟩) q0).trans q1; have r2 := (hb2.cell (p := ⟨w.heap.size, 1, none⟩) q0).trans q2; have r3 := (hb2.cell (p := ⟨w.heap.size, 2, none⟩) q0).trans q3; have r4 := (hb2.cell (p := ⟨w.heap.size, 3, none⟩) q0).trans q4; have r0 := Nat.lt_of_lt_of_le q0 hb2.size) | (go_at_call 28; refine (sl6Used_any ca ta ga gc gh M _ (q5.keep hb2) _).mono ?_; rintro e w' ⟨rfl, rfl⟩; rw [F2.out]) | (go_at_call 29; refine (sl1In_any _ _ _ _).mono ?_; rintro e w' ⟨rfl, rfl⟩; rw [F4.out]))
          go_ret2
          exact ⟨by rw [LN.out]; rfl, b1.andThen hb2⟩
    · have F2 := Lib.hid (show usedI M g = false by simpa only [Bool.not_eq_true] using f2)
      clear f2
      have LN := Lib.hid (show lagG M g c = (0, false) by rw [lagG, if_neg (by rw [F2.out]; simp)])
      go_wp2_with (first | (go_at_call 27; refine (sWorldOk_any ca cc ta tc ga gc gh M _ q5 hF).mono ?_; rintro e w2 ⟨rfl, hb2⟩; rw [F1.out]; have r1 := (hb2.cell (p := ⟨w.heap.size, 0, none⟩) q0).trans q1; have r2 := (hb2.cell (p := ⟨w.heap.size, 1, none⟩) q0).trans q2; have r3 := (hb2.cell (p := ⟨w.heap.size, 2, none⟩) q0).trans q3; have r4 := (hb2.cell (p := ⟨w.heap.size, 3, none⟩) q0).trans q4; have r0 := Nat.lt_of_lt_of_le q0 hb2.size) | (go_at_call 28; refine (sl6Used_any ca ta ga gc gh M _ (q5.keep hb2) _).mono ?_; rintro e w' ⟨rfl, rfl⟩; rw [F2.out]))
      go_ret2
      exact ⟨by rw [LN.out]; rfl, b1.andThen hb2⟩
  · have F1 := Lib.hid (show worldB M = false by simpa only [Bool.not_eq_true] using f1)
    clear f1
    have LN := Lib.hid (show lagG M g c = (0, false) by rw [lagG, if_neg (by rw [F1.out]; simp)])
    go_wp2_with ((go_at_call 27; refine (sWorldOk_any ca cc ta tc ga gc gh M _ q5 hF).mono ?_; rintro e w2 ⟨rfl, hb2⟩; rw [F1.out]; have r1 := (hb2.cell (p := ⟨w.heap.size, 0, none⟩) q0).trans q1; have r2 := (hb2.cell (p := ⟨w.heap.size, 1, none⟩) q0).trans q2; have r3 := (hb2.cell (p := ⟨w.heap.size, 2, none⟩) q0).trans q3; have r4 := (hb2.cell (p := ⟨w.heap.size, 3, none⟩) q0).trans q4; have r0 := Nat.lt_of_lt_of_le q0 hb2.size))
    go_ret2
    exact ⟨by rw [LN.out]; rfl, b1.andThen hb2⟩
set_option maxRecDepth 100000 in
set_option maxHeartbeats 4000000 in
theorem iGroupLag_any (ca : Option Addr) (cc : Nat) (ta : Option Addr) (tc : Nat) (ga : Option Addr) (gc : Nat) (gh : Nat → GH) (M : WorldM) (w : World) (hs : WA w ca ta ga gh M) (hF : FitG M) (hx : NextOk M) (g c : Int) :
    Calls Tryz.prog 12 #[.agg #[.int .i64 M.now, .slice ca M.cpus.length cc, .slice ta M.tasks.length tc, .slice ga M.groups.length gc], .int .i64 g, .int .i64 c] w fun e w' => e = .returned (.tuple #[.int .i64 (lagG M g c).1, .bool (lagG M g c).2]) ∧ Below w.heap.size w w' := by
  have hgm := hF.group
  have HX := Lib.hid hx
  clear hx
  go_enter Tryz.func12, Tryz.ntmps12
  go_upto_region 1 with (fail)
  refine PA.gen (P := fun W => Code.wp _ _ _ _ W) hs ?_
  intro W b1 s1 pw
  have hcm := hF.cpu
  have htm := hF.task
  obtain ⟨q0, q1, q2, q3, q4, q5⟩ := pw
  clear s1
  have PW0 : Hid (PA W w.heap.size ca cc ta tc ga gc gh M) := Lib.hid ⟨q0, q1, q2, q3, q4, q5⟩
  by_cases f3 : (g == 0) = true
  · have F3 := Lib.hid f3
    have LN := Lib.hid (show lagG M g c = (0, false) by rw [lagG, if_neg (by rw [F3.out]; simp)])
    go_wp2
    go_ret2
    exact ⟨by rw [LN.out]; rfl, b1⟩
  · have f3' : (g == 0) = false := by simpa only [Bool.not_eq_true] using f3
    have F3 := Lib.hid f3'
    clear f3
    by_cases f1 : worldB M = true
    · have F1 := Lib.hid f1
      clear f1
      by_cases f2 : usedI M g = true
      · have F2 := Lib.hid f2
        clear f2
        obtain ⟨gn, hgn⟩ : ∃ gn : Nat, g = gn := ⟨g.toNat, by have h := F2.out; simp only [usedI, Bool.and_eq_true, decide_eq_true_eq] at h; omega⟩
        subst hgn
        have F3 := Lib.hid (show ((gn : Int) == 0) = false from F3.out)
        by_cases f4 : inR c 0 (M.cpus.length - 1) = true
        · have F4 := Lib.hid f4
          clear f4
          obtain ⟨cn, hcn⟩ : ∃ cn : Nat, c = cn := ⟨c.toNat, by have h := inR_iff.1 F4.out; omega⟩
          subst hcn
          have FA := facts_of F1.out
          have hg8 : gn < 8 := by have h := F2.out; have := FA.tree.len; simp only [usedI, Bool.and_eq_true, decide_eq_true_eq] at h; omega
          have hgu : (grp M gn).used = true := by have h := F2.out; simp only [usedI, Bool.and_eq_true, decide_eq_true_eq, Int.toNat_natCast] at h; exact h.2
          have hc : cn < M.cpus.length := by have h := inR_iff.1 F4.out; omega
          have hg0 : gn ≠ 0 := by have h := F3.out; simp at h; omega
          have hlg : gn < M.groups.length := by have := FA.tree.len; omega
          have hsg : cn < (grp M gn).shelves.length := by rw [FA.gok.she gn hg8 hgu]; exact hc
          obtain ⟨hp1, hp2, hp3, _⟩ := FA.tree.up gn hg8 hgu hg0
          have hlp : par M gn < M.groups.length := by have := FA.tree.len; omega
          have hsp : cn < (grp M (par M gn)).shelves.length := by rw [FA.gok.she _ hp2 hp3]; exact hc
          obtain ⟨v1, v2⟩ := FA.ear.sv gn cn hg8 hsg
          obtain ⟨k1, k2⟩ := FA.ear.sf _ cn hp2 hsp
          have LA := Lib.hid (show lagG M gn cn = if (she M gn cn).on = true then ((she M gn cn).v - (she M (par M gn) cn).floor, true) else (0, false) by rw [lagG, F1.out, F2.out, F3.out, F4.out, Int.toNat_natCast, Int.toNat_natCast]; rfl)
          have HP1 := Lib.hid hp1
          clear FA hp3 hgu hp1 hg0
          obtain ⟨bs, os, es, hBs, e0, e1, e2, e3, e4⟩ := q5.shelf_ hlg hsg
          have ES := Lib.hid es
          obtain ⟨bq, oq, eq, hBq, f0, f1, f2, f3, f4⟩ := q5.shelf_ hlp hsp
          have EQ := Lib.hid eq
          obtain ⟨bg, og, eg, hBg, c0, c1, c2, c3, c4, c5, c6, c7, c8, c9, c10, c11, c12, c13⟩ := q5.group_ hlg
          rw [HP1.out] at c1
          have EG := Lib.hid eg
          clear es eq eg e0 e3 e4 f1 f2 f3 f4 c0 c2 c3 c4 c5 c6 c7 c8 c9 c10 c11 c12 c13
          go_upto_region 4 with (first | (go_at_call 34; refine (iWorldOk_any ca cc ta tc ga gc gh M _ q5 hF HX.out).mono ?_; rintro e w2 ⟨rfl, hb2⟩; rw [F1.out]; have r1 := (hb2.cell (p := ⟨w.heap.size, 0, none⟩) q0).trans q1; have r2 := (hb2.cell (p := ⟨w.heap.size, 1, none⟩) q0).trans q2; have r3 := (hb2.cell (p := ⟨w.heap.size, 2, none⟩) q0).trans q3; have r4 := (hb2.cell (p := ⟨w.heap.size, 3, none⟩) q0).trans q4; have r0 := Nat.lt_of_lt_of_le q0 hb2.size) | (go_at_call 35; refine (iGroupUsed_any ca ta ga gc gh M _ (q5.keep hb2) hgm _).mono ?_; rintro e w' ⟨rfl, rfl⟩; rw [F2.out]) | (go_at_call 36; refine (iCpuThere_any w.heap.size ca cc ta tc ga gc gh M _ (PW0.out.keep hb2) hcm _).mono ?_; rintro e w' ⟨rfl, rfl⟩; rw [F4.out]) | (go_at_call 37; refine (iLane_any _ _ _).mono ?_; rintro e w5 ⟨rfl, hb5⟩))
          refine gen1 (p := fun W => Code.wp _ _ _ _ W) ?_
          intro W6 b6' s6 kx
          have b6 := hb5.andThen b6'
          have x0 := kx.cell 0
          have x1 := kx.cell 1
          simp at x0 x1
          have hxl := kx.lt
          clear kx s6 q1 q2 q3 q4 q5
          go_upto_region 5 with (go_at_call 38; refine (iShelf_any w.heap.size ca cc ta tc _ gc gh M _ (PW0.out.keep (hb2.andThen b6)) gn cn bs os ES.out hlg hsg).mono ?_; rintro e w7 ⟨rfl, hb7⟩)
          have b7 : Below W.heap.size W w7 := (hb2.andThen b6).andThen hb7
          have y0 := (hb7.cell (p := ⟨w5.heap.size, 0, none⟩) hxl).trans x0
          have y1 := (hb7.cell (p := ⟨w5.heap.size, 1, none⟩) hxl).trans x1
          have d1 := (b7.cell (p := ⟨bs, os + cn * 5 + 1, none⟩) hBs).trans e1
          have d2 := (b7.cell (p := ⟨bs, os + cn * 5 + 2, none⟩) hBs).trans e2
          have d3 := (b7.cell (p := ⟨bq, oq + cn * 5, none⟩) hBq).trans f0
          have d4 := (b7.cell (p := ⟨bg, og + gn * 14 + 1, none⟩) hBg).trans c1
          have s4 := (((b6.andThen hb7).cell (p := ⟨w.heap.size, 3, none⟩) r0)).trans r4
          rw [EG.out] at s4
          have pw7 := PW0.out.keep b7
          have hi0 : (0 : Int) ≤ (gn : Int) := by omega
          have hi1 : (gn : Int) < (M.groups.length : Int) := by omega
          have bel := b1.andThen b7
          clear e1 e2 f0 c1 r1 r2 r3 r4 x0 x1 hb7 b6 b6' hb5 hb2
          cases hon : (she M gn cn).on with
          | false =>
            have LN := Lib.hid (show lagG M gn cn = (0, false) by rw [LA.out, hon]; rfl)
            rw [hon] at d1
            clear hon
            go_wp2
            go_ret2
            exact ⟨by rw [LN.out]; rfl, bel⟩
          | true =>
            have LN := Lib.hid (show lagG M gn cn = ((she M gn cn).v - (she M (par M gn) cn).floor, true) by rw [LA.out, hon]; rfl)
            rw [hon] at d1
            clear hon
            go_upto_region 7 with (fail)
            have hwrap : IntKind.i64.wrap ((she M gn cn).v - (she M (par M gn) cn).floor) = (she M gn cn).v - (she M (par M gn) cn).floor := IntWalk.i64_in _ (by omega)
            have bd : Below w7.heap.size w7 w7.drew := ⟨rfl, rfl, rfl, Nat.le_refl _, fun _ _ => rfl⟩
            have q_y0 := fun d os => cell_regrown y0 d os
            have q_y1 := fun d os => cell_regrown y1 d os
            have q_d2 := fun d os => cell_regrown d2 d os
            have q_d3 := fun d os => cell_regrown d3 d os
            have q_d4 := fun d os => cell_regrown d4 d os
            have q_s4 := fun d os => cell_regrown s4 d os
            refine region_by [false, false, false, false, false, false, false, false, false, false, false, true, false, false, false, false, false, false] (by kernel_rfl) (by kernel_rfl) (by kernel_rfl) ?_
            repeat (first | (refine wpR_skip (by rfl) ?_; simp only [Act.put, List.setIfInBounds_toArray, List.set_cons_zero, List.set_cons_succ]) | (refine wpR_det (by rfl) (fun K hK => ?_); go_big_quiet_op; refine hK _ ?_; clear hK K))
            refine wpR_bar (by rfl) (fun K hK => ?_)
            go_big_op
            go_at_call 38
            refine (iShelf_any w.heap.size ca cc ta tc _ gc gh M _ (pw7.keep bd) (par M gn) cn bq oq EQ.out hlp hsp).mono ?_
            rintro e w8 ⟨rfl, hb8⟩
            refine hK _ _ (regrown_of_below (bd.andThen hb8)) ?_
            clear hK K
            repeat (first | (refine wpR_skip (by rfl) ?_; simp only [Act.put, List.setIfInBounds_toArray, List.set_cons_zero, List.set_cons_succ]) | (refine wpR_det (by rfl) (fun K hK => ?_); go_big_quiet_op; refine hK _ ?_; clear hK K))
            refine wpR_nil ?_
            go_wp2
            go_ret2
            exact ⟨by rw [LN.out]; rfl, bel.andThen (bd.andThen hb8)⟩
        · have F4 := Lib.hid (show inR c 0 (M.cpus.length - 1) = false by simpa only [Bool.not_eq_true] using f4)
          clear f4
          have LN := Lib.hid (show lagG M gn c = (0, false) by rw [lagG, if_neg (by rw [F4.out]; simp)])
          go_wp2_with (first | (go_at_call 34; refine (iWorldOk_any ca cc ta tc ga gc gh M _ q5 hF HX.out).mono ?_; rintro e w2 ⟨rfl, hb2⟩; rw [F1.out]; have r1 := (hb2.cell (p := ⟨w.heap.size, 0, none⟩) q0).trans q1; have r2 := (hb2.cell (p := ⟨w.heap.size, 1, none⟩) q0).trans q2; have r3 := (hb2.cell (p := ⟨w.heap.size, 2, none⟩) q0).trans q3; have r4 := (hb2.cell (p := ⟨w.heap.size, 3, none⟩) q0).trans q4; have r0 := Nat.lt_of_lt_of_le q0 hb2.size) | (go_at_call 35; refine (iGroupUsed_any ca ta ga gc gh M _ (q5.keep hb2) hgm _).mono ?_; rintro e w' ⟨rfl, rfl⟩; rw [F2.out]) | (go_at_call 36; refine (iCpuThere_any w.heap.size ca cc ta tc ga gc gh M _ (PW0.out.keep hb2) hcm _).mono ?_; rintro e w' ⟨rfl, rfl⟩; rw [F4.out]))
          go_ret2
          exact ⟨by rw [LN.out]; rfl, b1.andThen hb2⟩
      · have F2 := Lib.hid (show usedI M g = false by simpa only [Bool.not_eq_true] using f2)
        clear f2
        have LN := Lib.hid (show lagG M g c = (0, false) by rw [lagG, if_neg (by rw [F2.out]; simp)])
        go_wp2_with (first | (go_at_call 34; refine (iWorldOk_any ca cc ta tc ga gc gh M _ q5 hF HX.out).mono ?_; rintro e w2 ⟨rfl, hb2⟩; rw [F1.out]; have r1 := (hb2.cell (p := ⟨w.heap.size, 0, none⟩) q0).trans q1; have r2 := (hb2.cell (p := ⟨w.heap.size, 1, none⟩) q0).trans q2; have r3 := (hb2.cell (p := ⟨w.heap.size, 2, none⟩) q0).trans q3; have r4 := (hb2.cell (p := ⟨w.heap.size, 3, none⟩) q0).trans q4; have r0 := Nat.lt_of_lt_of_le q0 hb2.size) | (go_at_call 35; refine (iGroupUsed_any ca ta ga gc gh M _ (q5.keep hb2) hgm _).mono ?_; rintro e w' ⟨rfl, rfl⟩; rw [F2.out]))
        go_ret2
        exact ⟨by rw [LN.out]; rfl, b1.andThen hb2⟩
    · have F1 := Lib.hid (show worldB M = false by simpa only [Bool.not_eq_true] using f1)
      clear f1
      have LN := Lib.hid (show lagG M g c = (0, false) by rw [lagG, if_neg (by rw [F1.out]; simp)])
      go_wp2_with ((go_at_call 34; refine (iWorldOk_any ca cc ta tc ga gc gh M _ q5 hF HX.out).mono ?_; rintro e w2 ⟨rfl, hb2⟩; rw [F1.out]; have r1 := (hb2.cell (p := ⟨w.heap.size, 0, none⟩) q0).trans q1; have r2 := (hb2.cell (p := ⟨w.heap.size, 1, none⟩) q0).trans q2; have r3 := (hb2.cell (p := ⟨w.heap.size, 2, none⟩) q0).trans q3; have r4 := (hb2.cell (p := ⟨w.heap.size, 3, none⟩) q0).trans q4; have r0 := Nat.lt_of_lt_of_le q0 hb2.size))
      go_ret2
      exact ⟨by rw [LN.out]; rfl, b1.andThen hb2⟩
end Go.Proofs.YtccjanpdgdonmaaGreat
