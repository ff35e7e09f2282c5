/- The reference's walk over a shelf of a world. -/
import Derived.Test.YtknfpigaognklaaGreatDoorS4
namespace Go.Proofs.YtknfpigaognklaaGreatDoor
open Go.RowKit Go.Sort
theorem regrown_as {P : Program} {f : FuncId} {args : Array Value} {w : World} {d : Nat} {os : Array Obj} {u v : Bool} (e : u = v)
    (h : Calls P f args (grow (redrawn w d) os) fun e w' => e = .returned (.bool u) ∧ Below (grow (redrawn w d) os).heap.size (grow (redrawn w d) os) w') : Calls P f args (grow (redrawn w d) os) fun e w'' => e = .returned (.bool v) ∧ ∃ p : Regrown, w'' = grow (redrawn w p.d) p.os := by
  subst e; exact Calls.regrown_of h
set_option maxRecDepth 100000 in
set_option maxHeartbeats 2000000 in
theorem sl8ShelfOk_any (ca : Option Addr) (cc : Nat) (ta : Option Addr) (tc : Nat) (ga : Option Addr) (gc : Nat) (gh : Nat → GH) (M : WorldM) (w : World) (hs : WA w ca ta ga gh M) (hT : Tree M) (hG : GOk M) (htm : M.tasks.length ≤ 1048576) (k c : Nat) (hk : k < 8) (hu : (grp M k).used = true) (hc : c < M.cpus.length) :
    Calls Tryz.prog 69 #[.agg #[.int .i64 M.now, .slice ca M.cpus.length cc, .slice ta M.tasks.length tc, .slice ga M.groups.length gc], .int .i64 k, .int .i64 c] w fun e w' => e = .returned (.bool (shelfB M k c)) ∧ Below w.heap.size w w' := by
  have hlg : k < M.groups.length := by have := hT.len; omega
  have hcs : c < (grp M k).shelves.length := by rw [hG.she k hk hu]; exact hc
  obtain ⟨b, o, rfl, hB, c0, c1, c2, c3, c4, c5, c6, c7, c8, c9, c10, c11, c12, c13⟩ := hs.group_ hlg
  obtain ⟨b5, o5, e5, hB5, f0, f1, f2, f3, f4⟩ := hs.shelf_ hlg hcs
  have E5 := Lib.hid e5
  rw [e5] at c13
  clear e5
  go_enter Tryz.func69, Tryz.ntmps69
  go_upto_region 3 with (fail)
  refine PA.gen (P := fun W => Code.wp _ _ _ _ ((W.alloc _).alloc _)) hs ?_
  intro W0 b1 s1 pw0
  refine gen2 (p := fun W => Code.wp _ _ _ _ W) ?_
  intro W b2 s2 kg kx
  obtain ⟨q0, q1, q2, q3, q4, q5⟩ := pw0.keep b2
  have b3 := b1.andThen b2
  rw [s1] at kx kg
  have x0 := kx.cell 0
  have x1 := kx.cell 1
  have x2 := kx.cell 2
  have x3 := kx.cell 3
  have x4 := kx.cell 4
  simp at x0 x1 x2 x3 x4
  have y1 := kg.cell 1
  simp at y1
  have hxs := kx.lt
  clear kx kg c0 c1 c2 c3 c4 c5 c6 c7 c8 c9 c10 c11 c12 c13 f0 f1 f2 f3 f4
  have hgs : w.heap.size + 1 < W.heap.size := by omega
  by_cases hB1 : shelfB1 (she M k c) = true
  · have f1 := hB1
    simp only [shelfB1, Bool.and_eq_true] at f1
    obtain ⟨⟨⟨g1, g2⟩, g3⟩, g4⟩ := f1
    have HB1 := Lib.hid hB1
    clear hB1
    by_cases h0 : k = 0
    · subst h0
      have SN := Lib.hid (show shelfB M 0 c = (!(she M 0 c).on && ((she M 0 c).v == 0) && ((she M 0 c).w == 10)) by rw [shelfB, HB1.out]; rfl)
      go_wp2_with (first | (go_at_call 126; refine (sl4Time_any _ _).mono ?_; rintro e w' ⟨rfl, rfl⟩; first | rw [g1] | rw [g2] | rw [g3]) | (go_at_call 124; refine (sl1Weight_any _ _).mono ?_; rintro e w' ⟨rfl, rfl⟩; rw [g4]))
      all_goals go_ret
      all_goals exact ⟨ret_bool (by rw [SN.out]; simp [*]), b3⟩
    · have SN := Lib.hid (show shelfB M k c = (((she M k c).on == onB M k c) && (!(she M k c).on || standW (she M k c).v (she M (par M k) c).floor (she M k c).w)) by rw [shelfB, HB1.out, if_neg h0]; rfl)
      have hne : ((k : Int) == 0) = false := by simpa using h0
      obtain ⟨hp1, hp2, hp3, hp4⟩ := hT.up k hk hu h0
      rw [hp1] at y1
      have hlp : par M k < M.groups.length := by have := hT.len; omega
      have hcp : c < (grp M (par M k)).shelves.length := by rw [hG.she _ hp2 hp3]; exact hc
      have hdc : 0 < (grp M k).band.quota → c < (grp M k).band.dry.length := fun h => by rw [(hG.dry k hk hu h).1]; exact hc
      have HDC := Lib.hid hdc
      clear hdc hp1 hp3 hp4 E5
      have hdc := HDC.out
      clear HDC
      go_wp2_with (first | (go_at_call 126; refine (sl4Time_any _ _).mono ?_; rintro e w' ⟨rfl, rfl⟩; first | rw [g1] | rw [g2] | rw [g3]) | (go_at_call 124; refine (sl1Weight_any _ _).mono ?_; rintro e w' ⟨rfl, rfl⟩; rw [g4]))
      have r1 := fun d os => cell_regrown x1 d os
      have w0 := fun d os => cell_regrown q1 d os
      have w1 := fun d os => cell_regrown q2 d os
      have w2 := fun d os => cell_regrown q3 d os
      have w3 := fun d os => cell_regrown q4 d os
      obtain ⟨on, hON⟩ : ∃ on, (she M k c).on = on := ⟨_, rfl⟩
      obtain ⟨ac, hAC⟩ : ∃ ac, act M k c = ac := ⟨_, rfl⟩
      obtain ⟨dr, hDR⟩ : ∃ dr, dryM M k c = dr := ⟨_, rfl⟩
      rw [hON] at x1
      have HON := Lib.hid hON
      have HAC := Lib.hid hAC
      have HDR := Lib.hid hDR
      clear hON hAC hDR r1
      have r1 := fun d os => cell_regrown x1 d os
      cases on
      · cases ac
        · refine wp_region_quiet_below (by kernel_rfl) (by kernel_rfl) ?_
          repeat (go_big_quiet_step (first | (go_at_call 132; exact regrown_as HAC.out (sl8Active_any ca cc ta tc _ gc gh M _ (q5.keep (below_regrown _ _ _)) hT hG htm _ c hc)) | (go_at_call 133; exact regrown_as HDR.out (sl8Dry_any ca cc ta tc _ gc gh M _ (q5.keep (below_regrown _ _ _)) k c hlg hdc))))
          refine wpQuiet_nil ?_
          intro _ hw'
          obtain ⟨⟨dq, osq⟩, hw''⟩ := hw'
          subst hw''
          have hb4 := below_regrown W dq osq
          generalize grow (redrawn W dq) osq = W2 at *
          have z1 := (hb4.cell (p := ⟨w.heap.size + 1 + 1, 1, none⟩) hxs).trans x1
          go_wp2_with fail
          go_quiet (fail)
          go_wp2
          go_ret
          exact ⟨ret_bool (by rw [SN.out, HON.out]; simp [onB, HAC.out, HDR.out]), b3.andThen (hb4.drewN _)⟩
        · cases dr
          · refine wp_region_quiet_below (by kernel_rfl) (by kernel_rfl) ?_
            repeat (go_big_quiet_step (first | (go_at_call 132; exact regrown_as HAC.out (sl8Active_any ca cc ta tc _ gc gh M _ (q5.keep (below_regrown _ _ _)) hT hG htm _ c hc)) | (go_at_call 133; exact regrown_as HDR.out (sl8Dry_any ca cc ta tc _ gc gh M _ (q5.keep (below_regrown _ _ _)) k c hlg hdc))))
            refine wpQuiet_nil ?_
            intro _ hw'
            obtain ⟨⟨dq, osq⟩, hw''⟩ := hw'
            subst hw''
            have hb4 := below_regrown W dq osq
            generalize grow (redrawn W dq) osq = W2 at *
            go_wp2
            go_ret
            exact ⟨ret_bool (by rw [SN.out, HON.out]; simp [onB, HAC.out, HDR.out]), b3.andThen hb4⟩
          · refine wp_region_quiet_below (by kernel_rfl) (by kernel_rfl) ?_
            repeat (go_big_quiet_step (first | (go_at_call 132; exact regrown_as HAC.out (sl8Active_any ca cc ta tc _ gc gh M _ (q5.keep (below_regrown _ _ _)) hT hG htm _ c hc)) | (go_at_call 133; exact regrown_as HDR.out (sl8Dry_any ca cc ta tc _ gc gh M _ (q5.keep (below_regrown _ _ _)) k c hlg hdc))))
            refine wpQuiet_nil ?_
            intro _ hw'
            obtain ⟨⟨dq, osq⟩, hw''⟩ := hw'
            subst hw''
            have hb4 := below_regrown W dq osq
            generalize grow (redrawn W dq) osq = W2 at *
            have z1 := (hb4.cell (p := ⟨w.heap.size + 1 + 1, 1, none⟩) hxs).trans x1
            go_wp2_with fail
            go_quiet (fail)
            go_wp2
            go_ret
            exact ⟨ret_bool (by rw [SN.out, HON.out]; simp [onB, HAC.out, HDR.out]), b3.andThen (hb4.drewN _)⟩
      · cases ac
        · refine wp_region_quiet_below (by kernel_rfl) (by kernel_rfl) ?_
          repeat (go_big_quiet_step (first | (go_at_call 132; exact regrown_as HAC.out (sl8Active_any ca cc ta tc _ gc gh M _ (q5.keep (below_regrown _ _ _)) hT hG htm _ c hc)) | (go_at_call 133; exact regrown_as HDR.out (sl8Dry_any ca cc ta tc _ gc gh M _ (q5.keep (below_regrown _ _ _)) k c hlg hdc))))
          refine wpQuiet_nil ?_
          intro _ hw'
          obtain ⟨⟨dq, osq⟩, hw''⟩ := hw'
          subst hw''
          have hb4 := below_regrown W dq osq
          generalize grow (redrawn W dq) osq = W2 at *
          go_wp2
          go_ret
          exact ⟨ret_bool (by rw [SN.out, HON.out]; simp [onB, HAC.out, HDR.out]), b3.andThen hb4⟩
        · cases dr
          · refine wp_region_quiet_below (by kernel_rfl) (by kernel_rfl) ?_
            repeat (go_big_quiet_step (first | (go_at_call 132; exact regrown_as HAC.out (sl8Active_any ca cc ta tc _ gc gh M _ (q5.keep (below_regrown _ _ _)) hT hG htm _ c hc)) | (go_at_call 133; exact regrown_as HDR.out (sl8Dry_any ca cc ta tc _ gc gh M _ (q5.keep (below_regrown _ _ _)) k c hlg hdc))))
            refine wpQuiet_nil ?_
            intro _ hw'
            obtain ⟨⟨dq, osq⟩, hw''⟩ := hw'
            subst hw''
            have hb4 := below_regrown W dq osq
            generalize grow (redrawn W dq) osq = W2 at *
            have z1 := (hb4.cell (p := ⟨w.heap.size + 1 + 1, 1, none⟩) hxs).trans x1
            go_wp2_with fail
            have z2 := (hb4.cell (p := ⟨w.heap.size + 1 + 1, 2, none⟩) hxs).trans x2
            have z3 := (hb4.cell (p := ⟨w.heap.size + 1 + 1, 3, none⟩) hxs).trans x3
            have z5 := (hb4.cell (p := ⟨w.heap.size + 1, 1, none⟩) hgs).trans y1
            have z6 := (hb4.cell (p := ⟨w.heap.size, 3, none⟩) q0).trans q4
            obtain ⟨b6, o6, e6, hB6, d0, d1, d2, d3, d4, d5, d6, d7, d8, d9, d10, d11, d12, d13⟩ := (q5.keep hb4).group_ hlp
            have e7 : b6 = b ∧ o6 = o := by simpa [eq_comm] using e6
            obtain ⟨rfl, rfl⟩ := e7
            obtain ⟨b7, o7, e8, hB7, t0, t1⟩ := (q5.keep hb4).shelf_ hlp hcp
            rw [e8] at d13
            clear e6 e8 d0 d1 d2 d3 d4 d5 d6 d7 d8 d9 d10 d11 d12 t1
            go_quiet ((go_at_call 131; exact quiet_left (sl8Stand_any _ _ _ _)))
            go_wp2
            go_ret
            exact ⟨ret_bool (by rw [SN.out, HON.out]; simp [onB, HAC.out, HDR.out]), b3.andThen (hb4.drewN _)⟩
          · refine wp_region_quiet_below (by kernel_rfl) (by kernel_rfl) ?_
            repeat (go_big_quiet_step (first | (go_at_call 132; exact regrown_as HAC.out (sl8Active_any ca cc ta tc _ gc gh M _ (q5.keep (below_regrown _ _ _)) hT hG htm _ c hc)) | (go_at_call 133; exact regrown_as HDR.out (sl8Dry_any ca cc ta tc _ gc gh M _ (q5.keep (below_regrown _ _ _)) k c hlg hdc))))
            refine wpQuiet_nil ?_
            intro _ hw'
            obtain ⟨⟨dq, osq⟩, hw''⟩ := hw'
            subst hw''
            have hb4 := below_regrown W dq osq
            generalize grow (redrawn W dq) osq = W2 at *
            go_wp2
            go_ret
            exact ⟨ret_bool (by rw [SN.out, HON.out]; simp [onB, HAC.out, HDR.out]), b3.andThen hb4⟩
  · have hB1' : shelfB1 (she M k c) = false := by simpa using hB1
    have SN := Lib.hid (show shelfB M k c = false by rw [shelfB, hB1']; rfl)
    have HB1 := Lib.hid hB1'
    clear hB1 hB1'
    by_cases h0 : k = 0
    · subst h0
      go_wp2_with (first | (go_at_call 126; refine (sl4Time_any _ _).mono ?_; rintro e w' ⟨rfl, rfl⟩) | (go_at_call 124; refine (sl1Weight_any _ _).mono ?_; rintro e w' ⟨rfl, rfl⟩))
      all_goals first
        | (go_ret; exact ⟨ret_bool SN.out.symm, b3⟩)
        | exact absurd HB1.out (by have hz : inR (she M 0 c).w 1 20 = true := (by simpa using ‹(!inR (she M 0 c).w 1 20) = false›); simp [shelfB1, show timeB 0 = true from rfl, *])
    · have hne : ((k : Int) == 0) = false := by simpa using h0
      clear h0
      go_wp2_with (first | (go_at_call 126; refine (sl4Time_any _ _).mono ?_; rintro e w' ⟨rfl, rfl⟩) | (go_at_call 124; refine (sl1Weight_any _ _).mono ?_; rintro e w' ⟨rfl, rfl⟩))
      all_goals first
        | (go_ret; exact ⟨ret_bool SN.out.symm, b3⟩)
        | exact absurd HB1.out (by have hz : inR (she M k c).w 1 20 = true := (by simpa using ‹(!inR (she M k c).w 1 20) = false›); simp [shelfB1, *])
end Go.Proofs.YtknfpigaognklaaGreatDoor
