/- How far a task is ahead, and what a group may still spend: the reference and the program. -/
import Derived.Test.YtccjanpdgdonmaaGreatT1
namespace Go.Proofs.YtccjanpdgdonmaaGreat
open Go.RowKit Go.Sort
set_option maxRecDepth 100000 in
set_option maxHeartbeats 1000000 in
theorem sTask_any (ca : Option Addr) (cc : Nat) (ta : Option Addr) (tc : Nat) (ga : Option Addr) (gc : Nat) (gh : Nat → GH) (M : WorldM) (w : World) (hs : WA w ca ta ga gh M) (hF : FitG M) (t : Int) :
    Calls Tryz.prog 42 #[.agg #[.int .i64 M.now, .slice ca M.cpus.length cc, .slice ta M.tasks.length tc, .slice ga M.groups.length gc], .int .i64 t] w fun e w' => e = .returned (.bool (taskIn M t)) ∧ Below w.heap.size w w' := by
  go_enter Tryz.func42, Tryz.ntmps42
  go_upto_region 1 with (fail)
  refine PA.gen (P := fun W => Code.wp _ _ _ _ W) hs ?_
  intro W b1 s1 pw
  have hcm := hF.cpu
  have htm := hF.task
  have hgm := hF.group
  have PW0 := Lib.hid pw
  obtain ⟨q0, q1, q2, q3, q4, q5⟩ := pw
  clear s1
  by_cases f1 : inR t 0 (M.tasks.length - 1) = true
  · have F1 := Lib.hid f1
    obtain ⟨tn, htn⟩ : ∃ tn : Nat, t = tn := ⟨t.toNat, by have h := inR_iff.1 f1; omega⟩
    subst htn
    have htl : tn < M.tasks.length := by have h := inR_iff.1 f1; omega
    clear f1
    obtain ⟨b, o, rfl, hB, c0, c1, c2, c3, c4, c5, c6, c7, c8⟩ := q5.task_ htl
    have TN := Lib.hid (show taskIn M tn = !((tsk M tn).st == 0) by rw [taskIn, F1.out, Int.toNat_natCast]; rfl)
    have hi0 : (0 : Int) ≤ (tn : Int) := by omega
    have hi1 : (tn : Int) < (M.tasks.length : Int) := by omega
    clear c1 c2 c3 c4 c5 c6 c7 c8 q5
    go_wp2_with (go_at_call 29; refine (sl1In_any _ _ _ _).mono ?_; rintro e w' ⟨rfl, rfl⟩; rw [F1.out])
    all_goals go_ret
    all_goals exact ⟨ret_bool (by rw [TN.out]; rfl), b1⟩
  · have F1 := Lib.hid (show inR t 0 (M.tasks.length - 1) = false by simpa only [Bool.not_eq_true] using f1)
    clear f1
    go_wp2_with (go_at_call 29; refine (sl1In_any _ _ _ _).mono ?_; rintro e w' ⟨rfl, rfl⟩; rw [F1.out])
    go_ret
    exact ⟨ret_bool (by rw [taskIn, F1.out]; rfl), b1⟩
set_option maxRecDepth 100000 in
set_option maxHeartbeats 1000000 in
theorem iFloor_any (p : Nat) (ca : Option Addr) (cc : Nat) (ta : Option Addr) (tc : Nat) (ga : Option Addr) (gc : Nat) (gh : Nat → GH) (M : WorldM) (w : World) (hs : PA w p ca cc ta tc ga gc gh M) (t g c : Nat) (ht : t < M.tasks.length) (hg : (tsk M t).gr = g) (hc : (tsk M t).cpu = c) (hlg : g < M.groups.length) (hcs : c < (grp M g).shelves.length) :
    Calls Tryz.prog 44 #[.pointer (some ⟨p, 0, none⟩), .int .i64 t] w fun e w' => e = .returned (.int .i64 (she M g c).floor) ∧ Below w.heap.size w w' := by
  have HS := Lib.hid hs
  obtain ⟨q0, q1, q2, q3, q4, q5⟩ := hs
  obtain ⟨b, o, rfl, hB, c0, c1, c2, c3, c4, c5, c6, c7, c8⟩ := q5.task_ ht
  rw [hg] at c1
  rw [hc] at c2
  obtain ⟨bs, os, es, hBs, f0, f1, f2, f3, f4⟩ := q5.shelf_ hlg hcs
  have ES := Lib.hid es
  clear f1 f2 f3 f4 es hg hc q1 q2 q4 q5
  have hi0 : (0 : Int) ≤ (t : Int) := by omega
  have hi1 : (t : Int) < (M.tasks.length : Int) := by omega
  go_enter Tryz.func44, Tryz.ntmps44
  go_upto_region 2 with (fail)
  refine gen1 (p := fun W => Code.wp _ _ _ _ W) ?_
  intro W b1 s1 kx
  have x1 := kx.cell 1
  have x2 := kx.cell 2
  simp at x1 x2
  have sf := (b1.cell (p := ⟨bs, os + c * 5, none⟩) hBs).trans f0
  have pw := HS.out.keep b1
  clear kx s1 c0 c1 c2 c3 c4 c5 c6 c7 c8 f0 q0 q3
  have bd : Below W.heap.size W W.drew := ⟨rfl, rfl, rfl, Nat.le_refl _, fun _ _ => rfl⟩
  have q_1 := fun d os => cell_regrown x1 d os
  have q_2 := fun d os => cell_regrown x2 d os
  have q_3 := fun d os => cell_regrown sf d os
  refine region_or [false, false, false, false, false, true, true, false, false, false, false] [0, 1, 2, 4, 5, 3, 6, 7, 8, 9, 10] (by kernel_rfl) (by kernel_rfl) rfl (by kernel_rfl) (by kernel_rfl) ?_
  simp only [permL, List.getElem?_cons_zero, List.getElem?_cons_succ, Option.toList_some, List.cons_append, List.nil_append]
  repeat (first | (refine wpR_skip (by rfl) ?_; simp only [Act.put, List.setIfInBounds_toArray, List.set_cons_zero, List.set_cons_succ]) | (refine wpR_det (by rfl) (fun K hK => ?_); go_big_quiet_op; refine hK _ ?_; clear hK K))
  refine wpR_bar (by rfl) (fun K hK => ?_)
  go_big_op
  go_at_call 37
  refine (iLane_any _ _ _).mono ?_
  rintro e w3 ⟨rfl, hb3⟩
  refine hK _ _ (regrown_of_below (bd.andThen hb3)) ?_
  clear hK K
  refine wpR_bar (by rfl) (fun K hK => ?_)
  go_big_op
  go_at_call 38
  refine (iShelf_any p ca cc _ tc ga gc gh M _ (pw.keep (bd.andThen hb3)) g c bs os ES.out hlg hcs).mono ?_
  rintro e w4 ⟨rfl, hb4⟩
  refine hK _ _ (regrown_of_below ((bd.andThen hb3).andThen hb4)) ?_
  clear hK K
  repeat (first | (refine wpR_skip (by rfl) ?_; simp only [Act.put, List.setIfInBounds_toArray, List.set_cons_zero, List.set_cons_succ]) | (refine wpR_det (by rfl) (fun K hK => ?_); go_big_quiet_op; refine hK _ ?_; clear hK K))
  refine wpR_nil ?_
  go_wp2
  go_ret
  exact ⟨rfl, b1.andThen ((bd.andThen hb3).andThen hb4)⟩
set_option maxRecDepth 100000 in
set_option maxHeartbeats 4000000 in
theorem sTaskLag_any (ca : Option Addr) (cc : Nat) (ta : Option Addr) (tc : Nat) (ga : Option Addr) (gc : Nat) (gh : Nat → GH) (M : WorldM) (w : World) (hs : WA w ca ta ga gh M) (hF : FitG M) (t : Int) :
    Calls Tryz.prog 14 #[.agg #[.int .i64 M.now, .slice ca M.cpus.length cc, .slice ta M.tasks.length tc, .slice ga M.groups.length gc], .int .i64 t] w fun e w' => e = .returned (.tuple #[.int .i64 (lagT M t).1, .bool (lagT M t).2]) ∧ Below w.heap.size w w' := by
  go_enter Tryz.func14, Tryz.ntmps14
  go_upto_region 1 with (fail)
  refine PA.gen (P := fun W => Code.wp _ _ _ _ W) hs ?_
  intro W b1 s1 pw
  have hcm := hF.cpu
  have htm := hF.task
  have hgm := hF.group
  have PW0 := Lib.hid pw
  obtain ⟨q0, q1, q2, q3, q4, q5⟩ := pw
  clear s1
  by_cases f1 : worldB M = true
  · have F1 := Lib.hid f1
    clear f1
    by_cases f2 : taskIn M t = true
    · have F2 := Lib.hid f2
      clear f2
      have hin := F2.out
      simp only [taskIn, Bool.and_eq_true, inR_iff, Bool.not_eq_true', beq_eq_false_iff_ne] at hin
      obtain ⟨tn, htn⟩ : ∃ tn : Nat, t = tn := ⟨t.toNat, by omega⟩
      subst htn
      rw [Int.toNat_natCast] at hin
      have htl : tn < M.tasks.length := by omega
      have hst0 := hin.2
      clear hin
      have FA := facts_of F1.out
      obtain ⟨gn, cn, hgr, hg8, hgu, hcu, hcl⟩ := FA.tk tn (by have := FA.t12; omega) hst0
      have hlg : gn < M.groups.length := by have := FA.tree.len; omega
      have hcs : cn < (grp M gn).shelves.length := by rw [FA.gok.she gn hg8 hgu]; exact hcl
      obtain ⟨v1, v2⟩ := FA.ear.v tn htl
      obtain ⟨k1, k2⟩ := FA.ear.sf gn cn hg8 hcs
      have HGR := Lib.hid hgr
      have HCU := Lib.hid hcu
      obtain ⟨b, o, rfl, hB, c0, c1, c2, c3, c4, c5, c6, c7, c8⟩ := q5.task_ htl
      rw [hgr] at c1
      rw [hcu] at c2
      have hi0 : (0 : Int) ≤ (tn : Int) := by omega
      have hi1 : (tn : Int) < (M.tasks.length : Int) := by omega
      clear FA hgu hst0 hgr hcu
      by_cases f3 : ((tsk M tn).st == 1) = true
      · have F3 := Lib.hid f3
        have f3e : (tsk M tn).st = 1 := by simpa using f3
        rw [f3e] at c0
        clear f3 f3e
        have LN := Lib.hid (show lagT M tn = ((tsk M tn).v - (she M gn cn).floor, true) by rw [lagT, if_pos (by rw [F1.out, F2.out, Int.toNat_natCast, F3.out]; rfl), Int.toNat_natCast, HGR.out, HCU.out, Int.toNat_natCast, Int.toNat_natCast])
        go_upto_region 3 with (first | (go_at_call 27; refine (sWorldOk_any ca cc _ tc ga gc gh M _ q5 hF).mono ?_; rintro e w2 ⟨rfl, hb2⟩; rw [F1.out]; have r1 := (hb2.cell (p := ⟨w.heap.size, 0, none⟩) q0).trans q1; have r2 := (hb2.cell (p := ⟨w.heap.size, 1, none⟩) q0).trans q2; have r3 := (hb2.cell (p := ⟨w.heap.size, 2, none⟩) q0).trans q3; have r4 := (hb2.cell (p := ⟨w.heap.size, 3, none⟩) q0).trans q4; have r0 := Nat.lt_of_lt_of_le q0 hb2.size) | (go_at_call 42; refine (sTask_any ca cc _ tc ga gc gh M _ (q5.keep hb2) hF _).mono ?_; rintro e w3 ⟨rfl, hb3⟩; rw [F2.out]; have u3 := (hb3.cell (p := ⟨w.heap.size, 2, none⟩) r0).trans r3; have u4 := (hb3.cell (p := ⟨w.heap.size, 3, none⟩) r0).trans r4; have c0' := ((hb2.andThen hb3).cell (p := ⟨b, o + tn * 9, none⟩) hB).trans c0))
        have b3 := hb2.andThen hb3
        have d0 := (b3.cell (p := ⟨b, o + tn * 9, none⟩) hB).trans c0
        have d1 := (b3.cell (p := ⟨b, o + tn * 9 + 1, none⟩) hB).trans c1
        have d2 := (b3.cell (p := ⟨b, o + tn * 9 + 2, none⟩) hB).trans c2
        have d3 := (b3.cell (p := ⟨b, o + tn * 9 + 3, none⟩) hB).trans c3
        have d4 := (b3.cell (p := ⟨b, o + tn * 9 + 4, none⟩) hB).trans c4
        have d5 := (b3.cell (p := ⟨b, o + tn * 9 + 5, none⟩) hB).trans c5
        have d6 := (b3.cell (p := ⟨b, o + tn * 9 + 6, none⟩) hB).trans c6
        have d7 := (b3.cell (p := ⟨b, o + tn * 9 + 7, none⟩) hB).trans c7
        have d8 := (b3.cell (p := ⟨b, o + tn * 9 + 8, none⟩) hB).trans c8
        have hB3 := Nat.lt_of_lt_of_le hB b3.size
        have q6 := q5.keep b3
        have hq3 := Nat.lt_of_lt_of_le r0 hb3.size
        clear c0 c1 c2 c3 c4 c5 c6 c7 c8 q1 q2 q3 q4 q5 r1 r2 r3 r4
        go_upto_region 4 with (fail)
        refine gen1 (p := fun W => Code.wp _ _ _ _ W) ?_
        intro W4 b4 s4 kx
        have x1 := kx.cell 1
        have x2 := kx.cell 2
        have x5 := kx.cell 5
        simp at x1 x2 x5
        have z4 := (b4.cell (p := ⟨w.heap.size, 3, none⟩) hq3).trans u4
        have q7 := q6.keep b4
        obtain ⟨bg, og, rfl, hBg, g0, g1, g2, g3, g4, g5, g6, g7, g8, g9, g10, g11, g12, g13⟩ := q7.group_ hlg
        obtain ⟨bs, os, es, hBs, f0, f1, f2, f3, f4⟩ := q7.shelf_ hlg hcs
        rw [es] at g13
        have bel := b1.andThen (b3.andThen b4)
        have hj0 : (0 : Int) ≤ (gn : Int) := by omega
        have hj1 : (gn : Int) < (M.groups.length : Int) := by omega
        have hk0 : (0 : Int) ≤ (cn : Int) := by omega
        have hk1 : (cn : Int) < ((grp M gn).shelves.length : Int) := by omega
        have hwrap : IntKind.i64.wrap ((tsk M tn).v - (she M gn cn).floor) = (tsk M tn).v - (she M gn cn).floor := IntWalk.i64_in _ (by omega)
        clear kx s4 d0 d1 d2 d3 d4 d5 d6 d7 d8 g0 g1 g2 g3 g4 g5 g6 g7 g8 g9 g10 g11 g12 f1 f2 f3 f4 es u3 u4 q6 q7 b1 b3 b4 hb2 hb3 hs
        go_quiet (fail)
        go_wp2
        go_ret2
        exact ⟨by rw [LN.out]; rfl, bel.drewN _⟩
      · have F3 := Lib.hid (show ((tsk M tn).st == 1) = false by simpa only [Bool.not_eq_true] using f3)
        have f3e : ((tsk M tn).st != 1) = true := by rw [bne, F3.out]; rfl
        clear f3
        have LN := Lib.hid (show lagT M tn = (0, false) by rw [lagT, if_neg (by rw [Int.toNat_natCast, F3.out]; simp)])
        go_wp2_with (first | (go_at_call 27; refine (sWorldOk_any ca cc _ tc ga gc gh M _ q5 hF).mono ?_; rintro e w2 ⟨rfl, hb2⟩; rw [F1.out]; have r1 := (hb2.cell (p := ⟨w.heap.size, 0, none⟩) q0).trans q1; have r2 := (hb2.cell (p := ⟨w.heap.size, 1, none⟩) q0).trans q2; have r3 := (hb2.cell (p := ⟨w.heap.size, 2, none⟩) q0).trans q3; have r4 := (hb2.cell (p := ⟨w.heap.size, 3, none⟩) q0).trans q4; have r0 := Nat.lt_of_lt_of_le q0 hb2.size) | (go_at_call 42; refine (sTask_any ca cc _ tc ga gc gh M _ (q5.keep hb2) hF _).mono ?_; rintro e w3 ⟨rfl, hb3⟩; rw [F2.out]; have u3 := (hb3.cell (p := ⟨w.heap.size, 2, none⟩) r0).trans r3; have u4 := (hb3.cell (p := ⟨w.heap.size, 3, none⟩) r0).trans r4; have c0' := ((hb2.andThen hb3).cell (p := ⟨b, o + tn * 9, none⟩) hB).trans c0))
        go_ret2
        exact ⟨by rw [LN.out]; rfl, b1.andThen (hb2.andThen hb3)⟩
    · have F2 := Lib.hid (show taskIn M t = false by simpa only [Bool.not_eq_true] using f2)
      clear f2
      have LN := Lib.hid (show lagT M t = (0, false) by rw [lagT, if_neg (by rw [F2.out]; simp)])
      go_wp2_with (first | (go_at_call 27; refine (sWorldOk_any ca cc ta tc ga gc gh M _ q5 hF).mono ?_; rintro e w2 ⟨rfl, hb2⟩; rw [F1.out]; have r1 := (hb2.cell (p := ⟨w.heap.size, 0, none⟩) q0).trans q1; have r2 := (hb2.cell (p := ⟨w.heap.size, 1, none⟩) q0).trans q2; have r3 := (hb2.cell (p := ⟨w.heap.size, 2, none⟩) q0).trans q3; have r4 := (hb2.cell (p := ⟨w.heap.size, 3, none⟩) q0).trans q4; have r0 := Nat.lt_of_lt_of_le q0 hb2.size) | (go_at_call 42; refine (sTask_any ca cc ta tc ga gc gh M _ (q5.keep hb2) hF _).mono ?_; rintro e w3 ⟨rfl, hb3⟩; rw [F2.out]; have u3 := (hb3.cell (p := ⟨w.heap.size, 2, none⟩) r0).trans r3; have u4 := (hb3.cell (p := ⟨w.heap.size, 3, none⟩) r0).trans r4))
      go_ret2
      exact ⟨by rw [LN.out]; rfl, b1.andThen (hb2.andThen hb3)⟩
  · have F1 := Lib.hid (show worldB M = false by simpa only [Bool.not_eq_true] using f1)
    clear f1
    have LN := Lib.hid (show lagT M t = (0, false) by rw [lagT, if_neg (by rw [F1.out]; simp)])
    go_wp2_with ((go_at_call 27; refine (sWorldOk_any ca cc ta tc ga gc gh M _ q5 hF).mono ?_; rintro e w2 ⟨rfl, hb2⟩; rw [F1.out]; have r1 := (hb2.cell (p := ⟨w.heap.size, 0, none⟩) q0).trans q1; have r2 := (hb2.cell (p := ⟨w.heap.size, 1, none⟩) q0).trans q2; have r3 := (hb2.cell (p := ⟨w.heap.size, 2, none⟩) q0).trans q3; have r4 := (hb2.cell (p := ⟨w.heap.size, 3, none⟩) q0).trans q4; have r0 := Nat.lt_of_lt_of_le q0 hb2.size))
    go_ret2
    exact ⟨by rw [LN.out]; rfl, b1.andThen hb2⟩
set_option maxRecDepth 100000 in
set_option maxHeartbeats 4000000 in
theorem iTaskLag_any (ca : Option Addr) (cc : Nat) (ta : Option Addr) (tc : Nat) (ga : Option Addr) (gc : Nat) (gh : Nat → GH) (M : WorldM) (w : World) (hs : WA w ca ta ga gh M) (hF : FitG M) (hx : NextOk M) (t : Int) :
    Calls Tryz.prog 15 #[.agg #[.int .i64 M.now, .slice ca M.cpus.length cc, .slice ta M.tasks.length tc, .slice ga M.groups.length gc], .int .i64 t] w fun e w' => e = .returned (.tuple #[.int .i64 (lagT M t).1, .bool (lagT M t).2]) ∧ Below w.heap.size w w' := by
  have HX := Lib.hid hx
  clear hx
  go_enter Tryz.func15, Tryz.ntmps15
  go_upto_region 1 with (fail)
  refine PA.gen (P := fun W => Code.wp _ _ _ _ W) hs ?_
  intro W b1 s1 pw
  have hcm := hF.cpu
  have htm := hF.task
  have hgm := hF.group
  have PW0 := Lib.hid pw
  obtain ⟨q0, q1, q2, q3, q4, q5⟩ := pw
  clear s1
  by_cases f1 : worldB M = true
  · have F1 := Lib.hid f1
    clear f1
    by_cases f2 : taskIn M t = true
    · have F2 := Lib.hid f2
      clear f2
      have hin := F2.out
      simp only [taskIn, Bool.and_eq_true, inR_iff, Bool.not_eq_true', beq_eq_false_iff_ne] at hin
      obtain ⟨tn, htn⟩ : ∃ tn : Nat, t = tn := ⟨t.toNat, by omega⟩
      subst htn
      rw [Int.toNat_natCast] at hin
      have htl : tn < M.tasks.length := by omega
      have hst0 := hin.2
      clear hin
      have FA := facts_of F1.out
      obtain ⟨gn, cn, hgr, hg8, hgu, hcu, hcl⟩ := FA.tk tn (by have := FA.t12; omega) hst0
      have hlg : gn < M.groups.length := by have := FA.tree.len; omega
      have hcs : cn < (grp M gn).shelves.length := by rw [FA.gok.she gn hg8 hgu]; exact hcl
      obtain ⟨v1, v2⟩ := FA.ear.v tn htl
      obtain ⟨k1, k2⟩ := FA.ear.sf gn cn hg8 hcs
      have HGR := Lib.hid hgr
      have HCU := Lib.hid hcu
      obtain ⟨b, o, rfl, hB, c0, c1, c2, c3, c4, c5, c6, c7, c8⟩ := q5.task_ htl
      rw [hgr] at c1
      rw [hcu] at c2
      have hi0 : (0 : Int) ≤ (tn : Int) := by omega
      have hi1 : (tn : Int) < (M.tasks.length : Int) := by omega
      clear FA hgu hst0 hgr hcu
      by_cases f3 : ((tsk M tn).st == 1) = true
      · have F3 := Lib.hid f3
        have f3e : (tsk M tn).st = 1 := by simpa using f3
        rw [f3e] at c0
        clear f3 f3e
        have LN := Lib.hid (show lagT M tn = ((tsk M tn).v - (she M gn cn).floor, true) by rw [lagT, if_pos (by rw [F1.out, F2.out, Int.toNat_natCast, F3.out]; rfl), Int.toNat_natCast, HGR.out, HCU.out, Int.toNat_natCast, Int.toNat_natCast])
        go_upto_region 3 with (first | (go_at_call 34; refine (iWorldOk_any ca cc _ tc ga gc gh M _ q5 hF HX.out).mono ?_; rintro e w2 ⟨rfl, hb2⟩; rw [F1.out]; have r1 := (hb2.cell (p := ⟨w.heap.size, 0, none⟩) q0).trans q1; have r2 := (hb2.cell (p := ⟨w.heap.size, 1, none⟩) q0).trans q2; have r3 := (hb2.cell (p := ⟨w.heap.size, 2, none⟩) q0).trans q3; have r4 := (hb2.cell (p := ⟨w.heap.size, 3, none⟩) q0).trans q4; have r0 := Nat.lt_of_lt_of_le q0 hb2.size) | (go_at_call 43; refine (iTaskThere_any w.heap.size ca cc _ tc ga gc gh M _ (PW0.out.keep hb2) htm _).mono ?_; rintro e w' ⟨rfl, rfl⟩; rw [F2.out]; have c0' := (hb2.cell (p := ⟨b, o + tn * 9, none⟩) hB).trans c0))
        have d5 := (hb2.cell (p := ⟨b, o + tn * 9 + 5, none⟩) hB).trans c5
        have pw2 := PW0.out.keep hb2
        have bel := b1.andThen hb2
        have hwrap : IntKind.i64.wrap ((tsk M tn).v - (she M gn cn).floor) = (tsk M tn).v - (she M gn cn).floor := IntWalk.i64_in _ (by omega)
        clear c0 c0' c1 c2 c3 c4 c5 c6 c7 c8 q1 q2 q3 q4 q5 r1 r2 r4
        have bd : Below w2.heap.size w2 w2.drew := ⟨rfl, rfl, rfl, Nat.le_refl _, fun _ _ => rfl⟩
        have q_1 := fun d os => cell_regrown d5 d os
        have q_2 := fun d os => cell_regrown r3 d os
        refine region_by [false, false, false, false, false, false, false, true, false, false, false] (by kernel_rfl) (by kernel_rfl) (by kernel_rfl) ?_
        repeat (first | (refine wpR_skip (by rfl) ?_; simp only [Act.put, List.setIfInBounds_toArray, List.set_cons_zero, List.set_cons_succ]) | (refine wpR_det (by rfl) (fun K hK => ?_); go_big_quiet_op; refine hK _ ?_; clear hK K))
        refine wpR_bar (by rfl) (fun K hK => ?_)
        go_big_op
        go_at_call 44
        refine (iFloor_any w.heap.size ca cc _ tc ga gc gh M _ (pw2.keep bd) tn gn cn htl HGR.out HCU.out hlg hcs).mono ?_
        rintro e w3 ⟨rfl, hb3⟩
        refine hK _ _ (regrown_of_below (bd.andThen hb3)) ?_
        clear hK K
        repeat (first | (refine wpR_skip (by rfl) ?_; simp only [Act.put, List.setIfInBounds_toArray, List.set_cons_zero, List.set_cons_succ]) | (refine wpR_det (by rfl) (fun K hK => ?_); go_big_quiet_op; refine hK _ ?_; clear hK K))
        refine wpR_nil ?_
        go_wp2
        go_ret2
        exact ⟨by rw [LN.out]; rfl, bel.andThen (bd.andThen hb3)⟩
      · have F3 := Lib.hid (show ((tsk M tn).st == 1) = false by simpa only [Bool.not_eq_true] using f3)
        have f3e : ((tsk M tn).st != 1) = true := by rw [bne, F3.out]; rfl
        clear f3
        have LN := Lib.hid (show lagT M tn = (0, false) by rw [lagT, if_neg (by rw [Int.toNat_natCast, F3.out]; simp)])
        go_wp2_with (first | (go_at_call 34; refine (iWorldOk_any ca cc _ tc ga gc gh M _ q5 hF HX.out).mono ?_; rintro e w2 ⟨rfl, hb2⟩; rw [F1.out]; have r1 := (hb2.cell (p := ⟨w.heap.size, 0, none⟩) q0).trans q1; have r2 := (hb2.cell (p := ⟨w.heap.size, 1, none⟩) q0).trans q2; have r3 := (hb2.cell (p := ⟨w.heap.size, 2, none⟩) q0).trans q3; have r4 := (hb2.cell (p := ⟨w.heap.size, 3, none⟩) q0).trans q4; have r0 := Nat.lt_of_lt_of_le q0 hb2.size) | (go_at_call 43; refine (iTaskThere_any w.heap.size ca cc _ tc ga gc gh M _ (PW0.out.keep hb2) htm _).mono ?_; rintro e w' ⟨rfl, rfl⟩; rw [F2.out]; have c0' := (hb2.cell (p := ⟨b, o + tn * 9, none⟩) hB).trans c0))
        go_ret2
        exact ⟨by rw [LN.out]; rfl, b1.andThen hb2⟩
    · have F2 := Lib.hid (show taskIn M t = false by simpa only [Bool.not_eq_true] using f2)
      clear f2
      have LN := Lib.hid (show lagT M t = (0, false) by rw [lagT, if_neg (by rw [F2.out]; simp)])
      go_wp2_with (first | (go_at_call 34; refine (iWorldOk_any ca cc ta tc ga gc gh M _ q5 hF HX.out).mono ?_; rintro e w2 ⟨rfl, hb2⟩; rw [F1.out]; have r1 := (hb2.cell (p := ⟨w.heap.size, 0, none⟩) q0).trans q1; have r2 := (hb2.cell (p := ⟨w.heap.size, 1, none⟩) q0).trans q2; have r3 := (hb2.cell (p := ⟨w.heap.size, 2, none⟩) q0).trans q3; have r4 := (hb2.cell (p := ⟨w.heap.size, 3, none⟩) q0).trans q4; have r0 := Nat.lt_of_lt_of_le q0 hb2.size) | (go_at_call 43; refine (iTaskThere_any w.heap.size ca cc ta tc ga gc gh M _ (PW0.out.keep hb2) htm _).mono ?_; rintro e w' ⟨rfl, rfl⟩; rw [F2.out]))
      go_ret2
      exact ⟨by rw [LN.out]; rfl, b1.andThen hb2⟩
  · have F1 := Lib.hid (show worldB M = false by simpa only [Bool.not_eq_true] using f1)
    clear f1
    have LN := Lib.hid (show lagT M t = (0, false) by rw [lagT, if_neg (by rw [F1.out]; simp)])
    go_wp2_with ((go_at_call 34; refine (iWorldOk_any ca cc ta tc ga gc gh M _ q5 hF HX.out).mono ?_; rintro e w2 ⟨rfl, hb2⟩; rw [F1.out]; have r1 := (hb2.cell (p := ⟨w.heap.size, 0, none⟩) q0).trans q1; have r2 := (hb2.cell (p := ⟨w.heap.size, 1, none⟩) q0).trans q2; have r3 := (hb2.cell (p := ⟨w.heap.size, 2, none⟩) q0).trans q3; have r4 := (hb2.cell (p := ⟨w.heap.size, 3, none⟩) q0).trans q4; have r0 := Nat.lt_of_lt_of_le q0 hb2.size))
    go_ret2
    exact ⟨by rw [LN.out]; rfl, b1.andThen hb2⟩
set_option maxRecDepth 100000 in
set_option maxHeartbeats 4000000 in
theorem sGroupLeft_any (ca : Option Addr) (cc : Nat) (ta : Option Addr) (tc : Nat) (ga : Option Addr) (gc : Nat) (gh : Nat → GH) (M : WorldM) (w : World) (hs : WA w ca ta ga gh M) (hF : FitG M) (g : Int) :
    Calls Tryz.prog 16 #[.agg #[.int .i64 M.now, .slice ca M.cpus.length cc, .slice ta M.tasks.length tc, .slice ga M.groups.length gc], .int .i64 g] w fun e w' => e = .returned (.int .i64 (leftG M g)) ∧ Below w.heap.size w w' := by
  go_enter Tryz.func16, Tryz.ntmps16
  go_upto_region 1 with (fail)
  refine PA.gen (P := fun W => Code.wp _ _ _ _ W) hs ?_
  intro W b1 s1 pw
  have hcm := hF.cpu
  have htm := hF.task
  have hgm := hF.group
  have PW0 := Lib.hid pw
  obtain ⟨q0, q1, q2, q3, q4, q5⟩ := pw
  clear s1
  by_cases f1 : worldB M = true
  · have F1 := Lib.hid f1
    clear f1
    by_cases f2 : usedI M g = true
    · have F2 := Lib.hid f2
      clear f2
      have hin := F2.out
      simp only [usedI, Bool.and_eq_true, decide_eq_true_eq] at hin
      obtain ⟨gn, hgn⟩ : ∃ gn : Nat, g = gn := ⟨g.toNat, by omega⟩
      subst hgn
      rw [Int.toNat_natCast] at hin
      have hlg : gn < M.groups.length := by omega
      have hgu := hin.2
      have FA := facts_of F1.out
      have hg8 : gn < 8 := by have := FA.tree.len; omega
      clear hin
      have HBD := Lib.hid (FA.band gn hg8 hgu)
      obtain ⟨b, o, rfl, hB, c0, c1, c2, c3, c4, c5, c6, c7, c8, c9, c10, c11, c12, c13⟩ := q5.group_ hlg
      have hi0 : (0 : Int) ≤ (gn : Int) := by omega
      have hi1 : (gn : Int) < (M.groups.length : Int) := by omega
      clear FA hgu c0 c1 c2 c3 c4 c5 c6 c7 c9 c11 c12 c13
      by_cases f3 : ((grp M gn).band.quota == 0) = true
      · have F3 := Lib.hid f3
        have f3e : (grp M gn).band.quota = 0 := by simpa using f3
        rw [f3e] at c8
        clear f3 f3e
        have LN := Lib.hid (show leftG M gn = -1 by rw [leftG, if_neg (by rw [Int.toNat_natCast, F3.out]; simp)])
        go_wp2_with (first | (go_at_call 27; refine (sWorldOk_any ca cc ta tc _ gc gh M _ q5 hF).mono ?_; rintro e w2 ⟨rfl, hb2⟩; rw [F1.out]; have r1 := (hb2.cell (p := ⟨w.heap.size, 0, none⟩) q0).trans q1; have r2 := (hb2.cell (p := ⟨w.heap.size, 1, none⟩) q0).trans q2; have r3 := (hb2.cell (p := ⟨w.heap.size, 2, none⟩) q0).trans q3; have r4 := (hb2.cell (p := ⟨w.heap.size, 3, none⟩) q0).trans q4; have r0 := Nat.lt_of_lt_of_le q0 hb2.size) | (go_at_call 28; refine (sl6Used_any ca ta _ gc gh M _ (q5.keep hb2) _).mono ?_; rintro e w' ⟨rfl, rfl⟩; rw [F2.out]; have c8' := (hb2.cell (p := ⟨b, o + gn * 14 + 8, none⟩) hB).trans c8; have c10' := (hb2.cell (p := ⟨b, o + gn * 14 + 10, none⟩) hB).trans c10))
        go_ret
        exact ⟨by rw [LN.out]; rfl, b1.andThen hb2⟩
      · have F3 := Lib.hid (show ((grp M gn).band.quota == 0) = false by simpa only [Bool.not_eq_true] using f3)
        have f3e : ((grp M gn).band.quota == 0) = false := F3.out
        have hbb := HBD.out (by simpa using f3)
        simp only [bandB, bandHead, Bool.and_eq_true, inR_iff] at hbb
        obtain ⟨⟨⟨⟨⟨⟨hq1, _⟩, _⟩, _⟩, hq5⟩, _⟩, _⟩ := hbb
        clear f3
        have LN := Lib.hid (show leftG M gn = (grp M gn).band.quota - (grp M gn).band.spent by rw [leftG, if_pos (by rw [F1.out, F2.out, Int.toNat_natCast, F3.out]; rfl), Int.toNat_natCast])
        go_upto_region 3 with (first | (go_at_call 27; refine (sWorldOk_any ca cc ta tc _ gc gh M _ q5 hF).mono ?_; rintro e w2 ⟨rfl, hb2⟩; rw [F1.out]; have r1 := (hb2.cell (p := ⟨w.heap.size, 0, none⟩) q0).trans q1; have r2 := (hb2.cell (p := ⟨w.heap.size, 1, none⟩) q0).trans q2; have r3 := (hb2.cell (p := ⟨w.heap.size, 2, none⟩) q0).trans q3; have r4 := (hb2.cell (p := ⟨w.heap.size, 3, none⟩) q0).trans q4; have r0 := Nat.lt_of_lt_of_le q0 hb2.size) | (go_at_call 28; refine (sl6Used_any ca ta _ gc gh M _ (q5.keep hb2) _).mono ?_; rintro e w' ⟨rfl, rfl⟩; rw [F2.out]; have c8' := (hb2.cell (p := ⟨b, o + gn * 14 + 8, none⟩) hB).trans c8; have c10' := (hb2.cell (p := ⟨b, o + gn * 14 + 10, none⟩) hB).trans c10))
        have hwrap : IntKind.i64.wrap ((grp M gn).band.quota - (grp M gn).band.spent) = (grp M gn).band.quota - (grp M gn).band.spent := IntWalk.i64_in _ (by omega)
        have bel := b1.andThen hb2
        clear c8 c10 q1 q2 q3 q4 q5 r1 r2 r3 hb2 b1 hs
        go_quiet (fail)
        go_wp2
        go_ret
        exact ⟨by rw [LN.out]; rfl, bel.drewN _⟩
    · have F2 := Lib.hid (show usedI M g = false by simpa only [Bool.not_eq_true] using f2)
      clear f2
      have LN := Lib.hid (show leftG M g = -1 by rw [leftG, if_neg (by rw [F2.out]; simp)])
      go_wp2_with (first | (go_at_call 27; refine (sWorldOk_any ca cc ta tc ga gc gh M _ q5 hF).mono ?_; rintro e w2 ⟨rfl, hb2⟩; rw [F1.out]; have r1 := (hb2.cell (p := ⟨w.heap.size, 0, none⟩) q0).trans q1; have r2 := (hb2.cell (p := ⟨w.heap.size, 1, none⟩) q0).trans q2; have r3 := (hb2.cell (p := ⟨w.heap.size, 2, none⟩) q0).trans q3; have r4 := (hb2.cell (p := ⟨w.heap.size, 3, none⟩) q0).trans q4; have r0 := Nat.lt_of_lt_of_le q0 hb2.size) | (go_at_call 28; refine (sl6Used_any ca ta ga gc gh M _ (q5.keep hb2) _).mono ?_; rintro e w' ⟨rfl, rfl⟩; rw [F2.out]))
      go_ret
      exact ⟨by rw [LN.out]; rfl, b1.andThen hb2⟩
  · have F1 := Lib.hid (show worldB M = false by simpa only [Bool.not_eq_true] using f1)
    clear f1
    have LN := Lib.hid (show leftG M g = -1 by rw [leftG, if_neg (by rw [F1.out]; simp)])
    go_wp2_with ((go_at_call 27; refine (sWorldOk_any ca cc ta tc ga gc gh M _ q5 hF).mono ?_; rintro e w2 ⟨rfl, hb2⟩; rw [F1.out]; have r1 := (hb2.cell (p := ⟨w.heap.size, 0, none⟩) q0).trans q1; have r2 := (hb2.cell (p := ⟨w.heap.size, 1, none⟩) q0).trans q2; have r3 := (hb2.cell (p := ⟨w.heap.size, 2, none⟩) q0).trans q3; have r4 := (hb2.cell (p := ⟨w.heap.size, 3, none⟩) q0).trans q4; have r0 := Nat.lt_of_lt_of_le q0 hb2.size))
    go_ret
    exact ⟨by rw [LN.out]; rfl, b1.andThen hb2⟩
set_option maxRecDepth 100000 in
set_option maxHeartbeats 1000000 in
theorem iQuota_any (p : Nat) (ca : Option Addr) (cc : Nat) (ta : Option Addr) (tc : Nat) (ga : Option Addr) (gc : Nat) (gh : Nat → GH) (M : WorldM) (w : World) (hs : PA w p ca cc ta tc ga gc gh M) (g : Nat) (b o : Nat) (hga : ga = some ⟨b, o, none⟩) (hlg : g < M.groups.length) :
    Calls Tryz.prog 45 #[.pointer (some ⟨p, 0, none⟩), .int .i64 g] w fun e w' => e = .returned (if (grp M g).band.quota = 0 then .pointer none else .pointer (some ⟨b, o + g * 14 + 8, none⟩)) ∧ w = w' := by
  obtain ⟨q0, q1, q2, q3, q4, q5⟩ := hs
  obtain ⟨b2, o2, e2, hB, c0, c1, c2, c3, c4, c5, c6, c7, c8, c9, c10, c11, c12, c13⟩ := q5.group_ hlg
  rw [hga] at e2
  obtain ⟨rfl, rfl⟩ : b = b2 ∧ o = o2 := by injection e2 with e2; injection e2 with e2 e3; exact ⟨e2, e3⟩
  rw [hga] at q4
  have hi0 : (0 : Int) ≤ (g : Int) := by omega
  have hi1 : (g : Int) < (M.groups.length : Int) := by omega
  clear e2 hga q1 q2 q3 q5 c0 c1 c2 c3 c4 c5 c6 c7 c9 c10 c11 c12 c13
  by_cases hq : (grp M g).band.quota = 0
  · rw [if_pos hq]
    rw [hq] at c8
    clear hq
    go_enter Tryz.func45, Tryz.ntmps45
    go_wp2
    go_ret
    exact ⟨rfl, rfl⟩
  · rw [if_neg hq]
    have hq2 : ((grp M g).band.quota == 0) = false := by simpa using hq
    clear hq
    go_enter Tryz.func45, Tryz.ntmps45
    go_wp2
    go_ret
    exact ⟨rfl, rfl⟩
set_option maxRecDepth 100000 in
set_option maxHeartbeats 4000000 in
theorem iGroupLeft_any (ca : Option Addr) (cc : Nat) (ta : Option Addr) (tc : Nat) (ga : Option Addr) (gc : Nat) (gh : Nat → GH) (M : WorldM) (w : World) (hs : WA w ca ta ga gh M) (hF : FitG M) (hx : NextOk M) (g : Int) :
    Calls Tryz.prog 17 #[.agg #[.int .i64 M.now, .slice ca M.cpus.length cc, .slice ta M.tasks.length tc, .slice ga M.groups.length gc], .int .i64 g] w fun e w' => e = .returned (.int .i64 (leftG M g)) ∧ Below w.heap.size w w' := by
  have HX := Lib.hid hx
  clear hx
  go_enter Tryz.func17, Tryz.ntmps17
  go_upto_region 1 with (fail)
  refine PA.gen (P := fun W => Code.wp _ _ _ _ W) hs ?_
  intro W b1 s1 pw
  have hcm := hF.cpu
  have htm := hF.task
  have hgm := hF.group
  have PW0 := Lib.hid pw
  obtain ⟨q0, q1, q2, q3, q4, q5⟩ := pw
  clear s1
  by_cases f1 : worldB M = true
  · have F1 := Lib.hid f1
    clear f1
    by_cases f2 : usedI M g = true
    · have F2 := Lib.hid f2
      clear f2
      have hin := F2.out
      simp only [usedI, Bool.and_eq_true, decide_eq_true_eq] at hin
      obtain ⟨gn, hgn⟩ : ∃ gn : Nat, g = gn := ⟨g.toNat, by omega⟩
      subst hgn
      rw [Int.toNat_natCast] at hin
      have hlg : gn < M.groups.length := by omega
      have hgu := hin.2
      have FA := facts_of F1.out
      have hg8 : gn < 8 := by have := FA.tree.len; omega
      clear hin
      have HBD := Lib.hid (FA.band gn hg8 hgu)
      obtain ⟨b, o, rfl, hB, c0, c1, c2, c3, c4, c5, c6, c7, c8, c9, c10, c11, c12, c13⟩ := q5.group_ hlg
      have hi0 : (0 : Int) ≤ (gn : Int) := by omega
      have hi1 : (gn : Int) < (M.groups.length : Int) := by omega
      clear FA hgu c0 c1 c2 c3 c4 c5 c6 c7 c9 c11 c12 c13
      by_cases f3 : ((grp M gn).band.quota == 0) = true
      · have F3 := Lib.hid f3
        have f3e : (grp M gn).band.quota = 0 := by simpa using f3
        rw [f3e] at c8
        clear f3 f3e
        have Q3 := Lib.hid (show (grp M gn).band.quota = 0 by have := F3.out; simpa using this)
        have LN := Lib.hid (show leftG M gn = -1 by rw [leftG, if_neg (by rw [Int.toNat_natCast, F3.out]; simp)])
        go_wp2_with (first | (go_at_call 34; refine (iWorldOk_any ca cc ta tc _ gc gh M _ q5 hF HX.out).mono ?_; rintro e w2 ⟨rfl, hb2⟩; rw [F1.out]; have r1 := (hb2.cell (p := ⟨w.heap.size, 0, none⟩) q0).trans q1; have r2 := (hb2.cell (p := ⟨w.heap.size, 1, none⟩) q0).trans q2; have r3 := (hb2.cell (p := ⟨w.heap.size, 2, none⟩) q0).trans q3; have r4 := (hb2.cell (p := ⟨w.heap.size, 3, none⟩) q0).trans q4; have r0 := Nat.lt_of_lt_of_le q0 hb2.size) | (go_at_call 35; refine (iGroupUsed_any ca ta _ gc gh M _ (q5.keep hb2) hgm _).mono ?_; rintro e w' ⟨rfl, rfl⟩; rw [F2.out]; have c8' := (hb2.cell (p := ⟨b, o + gn * 14 + 8, none⟩) hB).trans c8; have c10' := (hb2.cell (p := ⟨b, o + gn * 14 + 10, none⟩) hB).trans c10) | (go_at_call 45; refine (iQuota_any w.heap.size ca cc ta tc _ gc gh M _ (PW0.out.keep hb2) gn b o rfl hlg).mono ?_; rintro e w' ⟨rfl, rfl⟩; rw [if_pos Q3.out]))
        go_ret
        exact ⟨by rw [LN.out]; rfl, b1.andThen hb2⟩
      · have F3 := Lib.hid (show ((grp M gn).band.quota == 0) = false by simpa only [Bool.not_eq_true] using f3)
        have f3e : ((grp M gn).band.quota == 0) = false := F3.out
        have hbb := HBD.out (by simpa using f3)
        simp only [bandB, bandHead, Bool.and_eq_true, inR_iff] at hbb
        obtain ⟨⟨⟨⟨⟨⟨hq1, _⟩, _⟩, _⟩, hq5⟩, _⟩, _⟩ := hbb
        clear f3
        have LN := Lib.hid (show leftG M gn = (grp M gn).band.quota - (grp M gn).band.spent by rw [leftG, if_pos (by rw [F1.out, F2.out, Int.toNat_natCast, F3.out]; rfl), Int.toNat_natCast])
        have Q3 := Lib.hid (show ¬ (grp M gn).band.quota = 0 by have := F3.out; simpa using this)
        go_upto_region 6 with (first | (go_at_call 34; refine (iWorldOk_any ca cc ta tc _ gc gh M _ q5 hF HX.out).mono ?_; rintro e w2 ⟨rfl, hb2⟩; rw [F1.out]; have r1 := (hb2.cell (p := ⟨w.heap.size, 0, none⟩) q0).trans q1; have r2 := (hb2.cell (p := ⟨w.heap.size, 1, none⟩) q0).trans q2; have r3 := (hb2.cell (p := ⟨w.heap.size, 2, none⟩) q0).trans q3; have r4 := (hb2.cell (p := ⟨w.heap.size, 3, none⟩) q0).trans q4; have r0 := Nat.lt_of_lt_of_le q0 hb2.size) | (go_at_call 35; refine (iGroupUsed_any ca ta _ gc gh M _ (q5.keep hb2) hgm _).mono ?_; rintro e w' ⟨rfl, rfl⟩; rw [F2.out]; have c8' := (hb2.cell (p := ⟨b, o + gn * 14 + 8, none⟩) hB).trans c8; have c10' := (hb2.cell (p := ⟨b, o + gn * 14 + 10, none⟩) hB).trans c10) | (go_at_call 45; refine (iQuota_any w.heap.size ca cc ta tc _ gc gh M _ (PW0.out.keep hb2) gn b o rfl hlg).mono ?_; rintro e w' ⟨rfl, rfl⟩; rw [if_neg Q3.out]))
        have hwrap : IntKind.i64.wrap ((grp M gn).band.quota - (grp M gn).band.spent) = (grp M gn).band.quota - (grp M gn).band.spent := IntWalk.i64_in _ (by omega)
        have bel := b1.andThen hb2
        clear c8 c10 q1 q2 q3 q4 q5 r1 r2 r3 hb2 b1 hs
        go_quiet (fail)
        go_wp2
        go_ret
        exact ⟨by rw [LN.out]; rfl, bel.drewN _⟩
    · have F2 := Lib.hid (show usedI M g = false by simpa only [Bool.not_eq_true] using f2)
      clear f2
      have LN := Lib.hid (show leftG M g = -1 by rw [leftG, if_neg (by rw [F2.out]; simp)])
      go_wp2_with (first | (go_at_call 34; refine (iWorldOk_any ca cc ta tc ga gc gh M _ q5 hF HX.out).mono ?_; rintro e w2 ⟨rfl, hb2⟩; rw [F1.out]; have r1 := (hb2.cell (p := ⟨w.heap.size, 0, none⟩) q0).trans q1; have r2 := (hb2.cell (p := ⟨w.heap.size, 1, none⟩) q0).trans q2; have r3 := (hb2.cell (p := ⟨w.heap.size, 2, none⟩) q0).trans q3; have r4 := (hb2.cell (p := ⟨w.heap.size, 3, none⟩) q0).trans q4; have r0 := Nat.lt_of_lt_of_le q0 hb2.size) | (go_at_call 35; refine (iGroupUsed_any ca ta ga gc gh M _ (q5.keep hb2) hgm _).mono ?_; rintro e w' ⟨rfl, rfl⟩; rw [F2.out]))
      go_ret
      exact ⟨by rw [LN.out]; rfl, b1.andThen hb2⟩
  · have F1 := Lib.hid (show worldB M = false by simpa only [Bool.not_eq_true] using f1)
    clear f1
    have LN := Lib.hid (show leftG M g = -1 by rw [leftG, if_neg (by rw [F1.out]; simp)])
    go_wp2_with ((go_at_call 34; refine (iWorldOk_any ca cc ta tc ga gc gh M _ q5 hF HX.out).mono ?_; rintro e w2 ⟨rfl, hb2⟩; rw [F1.out]; have r1 := (hb2.cell (p := ⟨w.heap.size, 0, none⟩) q0).trans q1; have r2 := (hb2.cell (p := ⟨w.heap.size, 1, none⟩) q0).trans q2; have r3 := (hb2.cell (p := ⟨w.heap.size, 2, none⟩) q0).trans q3; have r4 := (hb2.cell (p := ⟨w.heap.size, 3, none⟩) q0).trans q4; have r0 := Nat.lt_of_lt_of_le q0 hb2.size))
    go_ret
    exact ⟨by rw [LN.out]; rfl, b1.andThen hb2⟩
end Go.Proofs.YtccjanpdgdonmaaGreat
