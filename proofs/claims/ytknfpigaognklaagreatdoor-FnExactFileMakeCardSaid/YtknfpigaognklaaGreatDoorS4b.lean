/- The reference's walks over a task of a world. -/
import Derived.Test.YtknfpigaognklaaGreatDoorS4
namespace Go.Proofs.YtknfpigaognklaaGreatDoor
open Go.RowKit Go.Sort
set_option maxRecDepth 100000 in
set_option maxHeartbeats 2000000 in
theorem sl8TaskOk_2 (ca : Option Addr) (cc : Nat) (ta : Option Addr) (tc : Nat) (ga : Option Addr) (gc : Nat) (gh : Nat → GH) (M : WorldM) (w : World) (hs : WA w ca ta ga gh M) (hT : Tree M) (hc : M.cpus.length ≤ 4) (t : Nat) (ht : t < M.tasks.length) (hst : (tsk M t).st = 2) :
    Calls Tryz.prog 68 #[.agg #[.int .i64 M.now, .slice ca M.cpus.length cc, .slice ta M.tasks.length tc, .slice ga M.groups.length gc], .int .i64 t] w fun e w' => e = .returned (.bool (taskB M t)) ∧ Below w.heap.size w w' := by
  have hgl : M.groups.length ≤ 1048576 := by have := hT.len; omega
  obtain ⟨b, o, rfl, hB, c0, c1, c2, c3, c4, c5, c6, c7, c8⟩ := hs.task_ ht
  generalize hX : tsk M t = x at *
  have TN := Lib.hid (show taskB M t = (taskB1 M x && taskB2 M x && taskB3 M x) by rw [taskB, hX, if_neg (by rw [hst]; decide)])
  have HST := Lib.hid hst
  rw [hst] at c0
  clear hX hst
  go_enter Tryz.func68, Tryz.ntmps68
  go_upto_region 4 with (fail)
  refine PA.gen (P := fun W => Code.wp _ _ _ _ (W.alloc _)) hs ?_
  intro W0 b1 s1 pw0
  refine gen1 (p := fun W => Code.wp _ _ _ _ W) ?_
  intro W b2 s2 kx
  obtain ⟨q0, q1, q2, q3, q4, q5⟩ := pw0.keep b2
  have b3 := b1.andThen b2
  rw [s1] at kx
  have x0 := kx.cell 0
  have x1 := kx.cell 1
  have x2 := kx.cell 2
  have x3 := kx.cell 3
  have x4 := kx.cell 4
  have x5 := kx.cell 5
  have x6 := kx.cell 6
  have x7 := kx.cell 7
  have x8 := kx.cell 8
  simp at x0 x1 x2 x3 x4 x5 x6 x7 x8
  have hxs := kx.lt
  clear kx c0 c1 c2 c3 c4 c5 c6 c7 c8
  by_cases hB1 : taskB1 M x = true
  · have f1 := hB1
    simp only [taskB1, Bool.and_eq_true, Bool.not_eq_true'] at f1
    obtain ⟨⟨⟨⟨f1, f2⟩, f3⟩, f4⟩, f5⟩ := f1
    have HB1 := Lib.hid hB1
    clear hB1 f1
    obtain ⟨g, hg⟩ : ∃ g : Nat, x.gr = g := by
      simp only [usedI, Bool.and_eq_true, decide_eq_true_eq] at f2
      exact ⟨x.gr.toNat, by omega⟩
    have hgu : g < 8 ∧ (grp M g).used = true := by
      have hl := hT.len
      rw [hg] at f2
      simp only [usedI, Bool.and_eq_true, decide_eq_true_eq, Int.toNat_natCast] at f2
      exact ⟨by omega, f2.2⟩
    obtain ⟨hg8, hgu⟩ := hgu
    have HGU := Lib.hid hgu
    rw [hg] at x1 f2
    have HG := Lib.hid hg
    clear hg hgu
    go_wp2_with (first | (go_at_call 108; refine (sl6Used_any ca _ ga gc gh M _ q5 _).mono ?_; rintro e w' ⟨rfl, rfl⟩; rw [f2]) | (go_at_call 128; refine (sWeightOf_any _ _).mono ?_; rintro e w' ⟨rfl, rfl⟩) | (go_at_call 125; refine (sMaskOk_any _ _).mono ?_; rintro e w' ⟨rfl, rfl⟩; rw [f4]))
    have r1 := fun d os => cell_regrown x1 d os
    have r2 := fun d os => cell_regrown x2 d os
    have r4 := fun d os => cell_regrown x4 d os
    have r5 := fun d os => cell_regrown x5 d os
    have r6 := fun d os => cell_regrown x6 d os
    have r7 := fun d os => cell_regrown x7 d os
    have r8 := fun d os => cell_regrown x8 d os
    have w0 := fun d os => cell_regrown q1 d os
    have w1 := fun d os => cell_regrown q2 d os
    have w2 := fun d os => cell_regrown q3 d os
    have w3 := fun d os => cell_regrown q4 d os
    by_cases hv : timeB x.v = true
    · skip
      by_cases hs1 : timeB x.sum = true
      · skip
        by_cases hu1 : timeB x.used = true
        · skip
          by_cases hl1 : inR x.load 0 8000000 = true
          · skip
            by_cases hm1 : mhas (whereM M g x.mask) x.cpu = true
            · skip
              have B2 := Lib.hid (show taskB2 M x = true by simp [taskB2, HG.out, *])
              refine wp_region_quiet_below (by kernel_rfl) (by kernel_rfl) ?_
              repeat (go_big_quiet_step (first | (go_at_call 126; exact regrown_left (sl4Time_any _ _)) | (go_at_call 64; exact regrown_left (sl1In_any _ _ _ _)) | (go_at_call 129; exact regrown_left (sMaskHas_any _ _ _)) | (go_at_call 130; exact Calls.regrown_of (sl8Where_any ca cc _ tc ga gc gh M _ (q5.keep (below_regrown _ _ _)) hT hc g hg8 HGU.out _))))
              refine wpQuiet_nil ?_
              intro _ hw'
              obtain ⟨⟨dq, osq⟩, hw''⟩ := hw'
              subst hw''
              have hb4 := below_regrown W dq osq
              generalize grow (redrawn W dq) osq = W2 at *
              have y0 := (hb4.cell (p := ⟨w.heap.size + 1, 0, none⟩) hxs).trans x0
              go_wp2_with fail
              go_quiet (fail)
              go_wp2
              go_ret
              exact ⟨ret_bool (by rw [TN.out, HB1.out, B2.out]; simp [taskB3, HST.out]), b3.andThen (hb4.drewN _)⟩
            · have hm1f : mhas (whereM M g x.mask) x.cpu = false := by simpa using hm1
              have B2 := Lib.hid (show taskB M t = false by rw [TN.out, show taskB2 M x = false by simp [taskB2, HG.out, *]]; simp)
              refine wp_region_quiet_below (by kernel_rfl) (by kernel_rfl) ?_
              repeat (go_big_quiet_step (first | (go_at_call 126; exact regrown_left (sl4Time_any _ _)) | (go_at_call 64; exact regrown_left (sl1In_any _ _ _ _)) | (go_at_call 129; exact regrown_left (sMaskHas_any _ _ _)) | (go_at_call 130; exact Calls.regrown_of (sl8Where_any ca cc _ tc ga gc gh M _ (q5.keep (below_regrown _ _ _)) hT hc g hg8 HGU.out _))))
              refine wpQuiet_nil ?_
              intro _ hw'
              obtain ⟨⟨dq, osq⟩, hw''⟩ := hw'
              subst hw''
              have hb4 := below_regrown W dq osq
              go_wp2
              go_ret
              exact ⟨ret_bool B2.out.symm, b3.andThen hb4⟩
          · have hl1f : inR x.load 0 8000000 = false := by simpa using hl1
            have B2 := Lib.hid (show taskB M t = false by rw [TN.out, show taskB2 M x = false by simp [taskB2, HG.out, *]]; simp)
            refine wp_region_quiet_below (by kernel_rfl) (by kernel_rfl) ?_
            repeat (go_big_quiet_step (first | (go_at_call 126; exact regrown_left (sl4Time_any _ _)) | (go_at_call 64; exact regrown_left (sl1In_any _ _ _ _)) | (go_at_call 129; exact regrown_left (sMaskHas_any _ _ _)) | (go_at_call 130; exact Calls.regrown_of (sl8Where_any ca cc _ tc ga gc gh M _ (q5.keep (below_regrown _ _ _)) hT hc g hg8 HGU.out _))))
            refine wpQuiet_nil ?_
            intro _ hw'
            obtain ⟨⟨dq, osq⟩, hw''⟩ := hw'
            subst hw''
            have hb4 := below_regrown W dq osq
            go_wp2
            go_ret
            exact ⟨ret_bool B2.out.symm, b3.andThen hb4⟩
        · have hu1f : timeB x.used = false := by simpa using hu1
          have B2 := Lib.hid (show taskB M t = false by rw [TN.out, show taskB2 M x = false by simp [taskB2, HG.out, *]]; simp)
          refine wp_region_quiet_below (by kernel_rfl) (by kernel_rfl) ?_
          repeat (go_big_quiet_step (first | (go_at_call 126; exact regrown_left (sl4Time_any _ _)) | (go_at_call 64; exact regrown_left (sl1In_any _ _ _ _)) | (go_at_call 129; exact regrown_left (sMaskHas_any _ _ _)) | (go_at_call 130; exact Calls.regrown_of (sl8Where_any ca cc _ tc ga gc gh M _ (q5.keep (below_regrown _ _ _)) hT hc g hg8 HGU.out _))))
          refine wpQuiet_nil ?_
          intro _ hw'
          obtain ⟨⟨dq, osq⟩, hw''⟩ := hw'
          subst hw''
          have hb4 := below_regrown W dq osq
          go_wp2
          go_ret
          exact ⟨ret_bool B2.out.symm, b3.andThen hb4⟩
      · have hs1f : timeB x.sum = false := by simpa using hs1
        have B2 := Lib.hid (show taskB M t = false by rw [TN.out, show taskB2 M x = false by simp [taskB2, HG.out, *]]; simp)
        refine wp_region_quiet_below (by kernel_rfl) (by kernel_rfl) ?_
        repeat (go_big_quiet_step (first | (go_at_call 126; exact regrown_left (sl4Time_any _ _)) | (go_at_call 64; exact regrown_left (sl1In_any _ _ _ _)) | (go_at_call 129; exact regrown_left (sMaskHas_any _ _ _)) | (go_at_call 130; exact Calls.regrown_of (sl8Where_any ca cc _ tc ga gc gh M _ (q5.keep (below_regrown _ _ _)) hT hc g hg8 HGU.out _))))
        refine wpQuiet_nil ?_
        intro _ hw'
        obtain ⟨⟨dq, osq⟩, hw''⟩ := hw'
        subst hw''
        have hb4 := below_regrown W dq osq
        go_wp2
        go_ret
        exact ⟨ret_bool B2.out.symm, b3.andThen hb4⟩
    · have hvf : timeB x.v = false := by simpa using hv
      have B2 := Lib.hid (show taskB M t = false by rw [TN.out, show taskB2 M x = false by simp [taskB2, HG.out, *]]; simp)
      refine wp_region_quiet_below (by kernel_rfl) (by kernel_rfl) ?_
      repeat (go_big_quiet_step (first | (go_at_call 126; exact regrown_left (sl4Time_any _ _)) | (go_at_call 64; exact regrown_left (sl1In_any _ _ _ _)) | (go_at_call 129; exact regrown_left (sMaskHas_any _ _ _)) | (go_at_call 130; exact Calls.regrown_of (sl8Where_any ca cc _ tc ga gc gh M _ (q5.keep (below_regrown _ _ _)) hT hc g hg8 HGU.out _))))
      refine wpQuiet_nil ?_
      intro _ hw'
      obtain ⟨⟨dq, osq⟩, hw''⟩ := hw'
      subst hw''
      have hb4 := below_regrown W dq osq
      go_wp2
      go_ret
      exact ⟨ret_bool B2.out.symm, b3.andThen hb4⟩
  · have hB1' : taskB1 M x = false := by simpa using hB1
    have TF := Lib.hid (show taskB M t = false by rw [TN.out, hB1']; rfl)
    have HB1 := Lib.hid hB1'
    clear hB1 hB1' TN
    go_wp2_with (first | (go_at_call 108; refine (sl6Used_any ca _ ga gc gh M _ q5 _).mono ?_; rintro e w' ⟨rfl, rfl⟩) | (go_at_call 128; refine (sWeightOf_any _ _).mono ?_; rintro e w' ⟨rfl, rfl⟩) | (go_at_call 125; refine (sMaskOk_any _ _).mono ?_; rintro e w' ⟨rfl, rfl⟩))
    all_goals first
      | (go_ret; exact ⟨ret_bool TF.out.symm, b3⟩)
      | exact absurd HB1.out (by simp [taskB1, HST.out, *])
end Go.Proofs.YtknfpigaognklaaGreatDoor
