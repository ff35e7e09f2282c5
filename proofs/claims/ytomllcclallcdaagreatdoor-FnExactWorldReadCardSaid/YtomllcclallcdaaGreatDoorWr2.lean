/- A part of the proof. -/
import Derived.Test.YtomllcclallcdaaGreatDoorWr1
import Derived.Deep.QuietTactic
import Derived.BigQuiet
import Derived.Lib.QuietBelow
import Derived.Deep.Cut
namespace Go.Proofs.YtomllcclallcdaaGreatDoor
section
open Go.RowKit
set_option maxHeartbeats 400000 in
theorem sl8NoBand_any (x : BandM) (h : GH) (w : World) :
    Calls Tryz.prog 86 #[.agg #[.int .i64 x.quota, .int .i64 x.pool, .int .i64 x.spent, .slice h.la x.locals.length h.lc, .slice h.da x.dry.length h.dc]] w fun e w' => e = .returned (.bool (noBand x)) ∧ Below w.heap.size w w' := by
  go_enter Tryz.func86, Tryz.ntmps86
  go_wp2
  all_goals go_ret
  all_goals exact ⟨ret_bool (by simp [noBand, *]), (Below.refl _ _).alloc (Nat.le_refl _) _⟩
set_option maxHeartbeats 1000000 in
theorem sBandOk_any (x : BandM) (h : GH) (w : World) (hl : IntS w h.la x.locals) (hd : BoolS w h.da x.dry) (hlm : x.locals.length ≤ 1048576) :
    Calls Tryz.prog 90 #[.agg #[.int .i64 x.quota, .int .i64 x.pool, .int .i64 x.spent, .slice h.la x.locals.length h.lc, .slice h.da x.dry.length h.dc]] w fun e w' => e = .returned (.bool (bandB x)) ∧ Below w.heap.size w w' := by
  by_cases hh : bandHead x = true
  · have hh' := hh
    simp only [bandHead, Bool.and_eq_true, beq_iff_eq] at hh'
    obtain ⟨⟨⟨⟨h1, h2⟩, h3⟩, h4⟩, h5⟩ := hh'
    obtain ⟨q1, q2⟩ := inR_iff.1 h1
    obtain ⟨l1, l2⟩ := inR_iff.1 h2
    obtain ⟨p1, p2⟩ := inR_iff.1 h4
    obtain ⟨s1, s2⟩ := inR_iff.1 h5
    have H3 := Lib.hid h3
    have H3' : ((x.dry.length : Int) != (x.locals.length : Int)) = false := by simp [h3]
    clear h3
    obtain ⟨la, lc, da, dc, sa, sc⟩ := h
    dsimp only at hl hd ⊢
    go_enter Tryz.func90, Tryz.ntmps90
    go_wp2_with (go_at_call 27; refine (sl1In_any _ _ _ _).mono ?_; rintro e w' ⟨rfl, rfl⟩; first | rw [h1] | rw [h2] | rw [h4] | rw [h5])
    refine gen1 (p := fun W => Code.wp _ _ _ _ W) ?_
    intro W b1 z1 kx
    have x0 := kx.cell 0
    have x1 := kx.cell 1
    have x3 := kx.cell 3
    have x4 := kx.cell 4
    simp at x0 x1 x3 x4
    have KX := Lib.hid kx.lt
    clear kx
    go_loopw [2, 3, 4] (fun r s i wr => ∃ k : Nat, k ≤ x.locals.length ∧ i = .int .i64 k ∧ r = .bool false ∧ s = .int .i64 (x.pool + x.spent + lsum x k) ∧ (List.range k).all (lcB x) = true ∧ Below W.heap.size W wr) (fun _ _ i _ => x.locals.length - (intOf i).toNat)
    case atStart => exact ⟨0, by omega, rfl, rfl, by simp [lsum], rfl, Below.refl _ _⟩
    case round =>
      obtain ⟨k, hk, rfl, rfl, rfl, hall, hb⟩ := hrel
      have y0 := (hb.cell (p := ⟨w.heap.size, 0, none⟩) KX.out).trans x0
      have y1 := (hb.cell (p := ⟨w.heap.size, 1, none⟩) KX.out).trans x1
      have y3 := (hb.cell (p := ⟨w.heap.size, 3, none⟩) KX.out).trans x3
      have y4 := (hb.cell (p := ⟨w.heap.size, 4, none⟩) KX.out).trans x4
      have HA := Lib.hid hall
      clear hall
      have hsb := lsum_bd q2 k HA.out
      by_cases hlt : k < x.locals.length
      · obtain ⟨b2, o2, rfl, hB2, d0⟩ := ((hl.keep b1).keep hb).at_ k hlt
        obtain ⟨b3, o3, rfl, hB3, d1⟩ := ((hd.keep b1).keep hb).at_ k (by rw [H3.out]; exact hlt)
        have g0 : x.locals[k] = x.locals.getD k 0 := by simp [hlt]
        have g1 : x.dry[k]'(by rw [H3.out]; exact hlt) = x.dry.getD k false := by simp [H3.out, hlt]
        rw [g0] at d0
        rw [g1] at d1
        have hkd : k < x.dry.length := by rw [H3.out]; exact hlt
        clear g0 g1
        generalize hA : x.locals.getD k 0 = a at *
        generalize hD : x.dry.getD k false = d at *
        have HA1 := Lib.hid hA
        have HD1 := Lib.hid hD
        clear hA hD
        by_cases i1 : inR a 0 x.quota = true
        · obtain ⟨a1, a2⟩ := inR_iff.1 i1
          have hlc : lcB x k = !(d && (decide (0 < a) || decide (0 < x.pool))) := by rw [lcB, HA1.out, HD1.out, i1]; rfl
          have HLC := Lib.hid hlc
          clear hlc
          cases d with
          | false =>
            go_wp2_with fail
            go_quiet ((go_at_call 27; exact quiet_left (sl1In_any _ _ _ _)))
            go_wp2
            go_roundw
            case rel => exact ⟨k + 1, by omega, by go_num, rfl, val_eq (by simp only [lsum]; rw [HA1.out]; omega), by rw [all_succ, HA.out, HLC.out]; rfl, hb.drewN _⟩
            case measure => simp [intOf]; omega
          | true =>
            by_cases ha : 0 < a
            · have hda : decide (0 < a) = true := decide_eq_true ha
              go_wp2_with fail
              go_quiet ((go_at_call 27; exact quiet_left (sl1In_any _ _ _ _)))
              go_wp2
              go_ret
              exact ⟨ret_bool (by rw [bandB, all_of hlt (by rw [HLC.out]; rw [hda]; rfl)]; simp), b1.andThen (hb.drewN _)⟩
            · have hda : decide (0 < a) = false := decide_eq_false ha
              by_cases hp : 0 < x.pool
              · have hdp : decide (0 < x.pool) = true := decide_eq_true hp
                go_wp2_with fail
                go_quiet ((go_at_call 27; exact quiet_left (sl1In_any _ _ _ _)))
                go_wp2
                go_ret
                exact ⟨ret_bool (by rw [bandB, all_of hlt (by rw [HLC.out]; rw [hda, hdp]; rfl)]; simp), b1.andThen (hb.drewN _)⟩
              · have hdp : decide (0 < x.pool) = false := decide_eq_false hp
                go_wp2_with fail
                go_quiet ((go_at_call 27; exact quiet_left (sl1In_any _ _ _ _)))
                go_wp2
                go_roundw
                case rel => exact ⟨k + 1, by omega, by go_num, rfl, val_eq (by simp only [lsum]; rw [HA1.out]; omega), by rw [all_succ, HA.out, HLC.out]; rw [hda, hdp]; rfl, hb.drewN _⟩
                case measure => simp [intOf]; omega
        · have i1' : inR a 0 x.quota = false := by simpa using i1
          have HLC := Lib.hid (show lcB x k = false by rw [lcB, HA1.out, i1']; rfl)
          go_wp2_with fail
          go_quiet ((go_at_call 27; exact quiet_left (sl1In_any _ _ _ _)))
          go_wp2
          go_ret
          exact ⟨ret_bool (by rw [bandB, all_of hlt HLC.out]; simp), b1.andThen (hb.drewN _)⟩
      · go_wp2
        go_ret
        have hkl : k = x.locals.length := by omega
        exact ⟨ret_bool (by rw [bandB, hh, ← hkl, HA.out]; rfl), b1.andThen hb⟩
  · have BN := Lib.hid (show bandB x = false by rw [bandB, show bandHead x = false by simpa using hh]; rfl)
    by_cases h1 : inR x.quota 1 10000 = true
    · skip
      by_cases h2 : inR x.locals.length 1 4 = true
      · skip
        by_cases h3 : (x.dry.length == x.locals.length) = true
        · have h3g : ((x.dry.length : Int) != (x.locals.length : Int)) = false := by rw [beq_iff_eq] at h3; simp [h3]
          have H3 := Lib.hid h3
          clear h3
          skip
          by_cases h4 : inR x.pool 0 x.quota = true
          · skip
            by_cases h5 : inR x.spent 0 x.quota = true
            · exact absurd (show bandHead x = true by simp only [bandHead, h1, h2, h4, h5, H3.out]; rfl) hh
            · have h5f : inR x.spent 0 x.quota = false := by simpa using h5
              go_enter Tryz.func90, Tryz.ntmps90
              go_wp2_with (go_at_call 27; refine (sl1In_any _ _ _ _).mono ?_; rintro e w' ⟨rfl, rfl⟩; first | rw [h1] | rw [h2] | rw [h4] | rw [h5f])
              go_ret
              exact ⟨ret_bool BN.out.symm, (Below.refl _ _).alloc (Nat.le_refl _) _⟩
          · have h4f : inR x.pool 0 x.quota = false := by simpa using h4
            go_enter Tryz.func90, Tryz.ntmps90
            go_wp2_with (go_at_call 27; refine (sl1In_any _ _ _ _).mono ?_; rintro e w' ⟨rfl, rfl⟩; first | rw [h1] | rw [h2] | rw [h4f])
            go_ret
            exact ⟨ret_bool BN.out.symm, (Below.refl _ _).alloc (Nat.le_refl _) _⟩
        · have h3f : (x.dry.length == x.locals.length) = false := by simpa using h3
          have h3g : ((x.dry.length : Int) != (x.locals.length : Int)) = true := by simpa [bne_iff_ne, Int.ofNat_inj] using h3
          clear h3 h3f
          go_enter Tryz.func90, Tryz.ntmps90
          go_wp2_with (go_at_call 27; refine (sl1In_any _ _ _ _).mono ?_; rintro e w' ⟨rfl, rfl⟩; first | rw [h1] | rw [h2])
          go_ret
          exact ⟨ret_bool BN.out.symm, (Below.refl _ _).alloc (Nat.le_refl _) _⟩
      · have h2f : inR x.locals.length 1 4 = false := by simpa using h2
        go_enter Tryz.func90, Tryz.ntmps90
        go_wp2_with (go_at_call 27; refine (sl1In_any _ _ _ _).mono ?_; rintro e w' ⟨rfl, rfl⟩; first | rw [h1] | rw [h2f])
        go_ret
        exact ⟨ret_bool BN.out.symm, (Below.refl _ _).alloc (Nat.le_refl _) _⟩
    · have h1f : inR x.quota 1 10000 = false := by simpa using h1
      go_enter Tryz.func90, Tryz.ntmps90
      go_wp2_with (go_at_call 27; refine (sl1In_any _ _ _ _).mono ?_; rintro e w' ⟨rfl, rfl⟩; first | rw [h1f])
      go_ret
      exact ⟨ret_bool BN.out.symm, (Below.refl _ _).alloc (Nat.le_refl _) _⟩
end
end Go.Proofs.YtomllcclallcdaaGreatDoor
namespace Go.Proofs.YtomllcclallcdaaGreatDoor
section
open Go.RowKit Go.Sort
theorem regrown_left {P : Program} {f : FuncId} {args : Array Value} {w : World} {d : Nat} {os : Array Obj} {v : Value}
    (h : Calls P f args (grow (redrawn w d) os) fun e w' => e = .returned v ∧ grow (redrawn w d) os = w') : Calls P f args (grow (redrawn w d) os) fun e w'' => e = .returned v ∧ ∃ p : Regrown, w'' = grow (redrawn w p.d) p.os :=
  h.mono fun _ _ ⟨he, hb⟩ => ⟨he, ⟨d, os⟩, hb.symm⟩
set_option maxHeartbeats 400000 in
theorem sl6Used_any (ca ta ga : Option Addr) (gc : Nat) (gh : Nat → GH) (M : WorldM) (w : World) (hs : WA w ca ta ga gh M) (g : Int) :
    Calls Tryz.prog 55 #[.slice ga M.groups.length gc, .int .i64 g] w fun e w' => e = .returned (.bool (usedI M g)) ∧ w = w' := by
  by_cases h1 : 0 ≤ g
  · by_cases h2 : g < M.groups.length
    · obtain ⟨b, o, rfl, hB, c0, c1⟩ := hs.group_ (show g.toNat < M.groups.length by omega)
      have UN := Lib.hid (show usedI M g = (grp M g.toNat).used by rw [usedI, decide_eq_true h1, decide_eq_true h2]; rfl)
      clear c1
      go_enter Tryz.func55, Tryz.ntmps55
      go_wp2
      go_ret
      exact ⟨ret_bool UN.out.symm, rfl⟩
    · have UN := Lib.hid (show usedI M g = false by rw [usedI, decide_eq_true h1, decide_eq_false h2]; rfl)
      go_enter Tryz.func55, Tryz.ntmps55
      go_wp2
      go_ret
      exact ⟨ret_bool UN.out.symm, rfl⟩
  · have UN := Lib.hid (show usedI M g = false by rw [usedI, decide_eq_false h1]; rfl)
    go_enter Tryz.func55, Tryz.ntmps55
    go_wp2
    go_ret
    exact ⟨ret_bool UN.out.symm, rfl⟩
end
end Go.Proofs.YtomllcclallcdaaGreatDoor
namespace Go.Proofs.YtomllcclallcdaaGreatDoor
section
open Go.RowKit Go.Sort
set_option maxRecDepth 100000 in
set_option maxHeartbeats 2000000 in
theorem sl8TaskOk_1 (ca : Option Addr) (cc : Nat) (ta : Option Addr) (tc : Nat) (ga : Option Addr) (gc : Nat) (gh : Nat → GH) (M : WorldM) (w : World) (hs : WA w ca ta ga gh M) (hT : Tree M) (hG : GOk M) (hc : M.cpus.length ≤ 4) (t : Nat) (ht : t < M.tasks.length) (hst : (tsk M t).st = 1) :
    Calls Tryz.prog 59 #[.agg #[.int .i64 M.now, .slice ca M.cpus.length cc, .slice ta M.tasks.length tc, .slice ga M.groups.length gc], .int .i64 t] w fun e w' => e = .returned (.bool (taskB M t)) ∧ Below w.heap.size w w' := by
  have hgl : M.groups.length ≤ 1048576 := by have := hT.len; omega
  obtain ⟨b, o, rfl, hB, c0, c1, c2, c3, c4, c5, c6, c7, c8⟩ := hs.task_ ht
  generalize hX : tsk M t = x at *
  have TN := Lib.hid (show taskB M t = (taskB1 M x && taskB2 M x && taskB3 M x) by rw [taskB, hX, if_neg (by rw [hst]; decide)])
  have HST := Lib.hid hst
  rw [hst] at c0
  clear hX hst
  go_enter Tryz.func59, Tryz.ntmps59
  go_upto_region 4 with (fail)
  refine PA.gen (P := fun W => Code.wp _ _ _ _ (W.alloc _)) hs ?_
  intro W0 b1 s1 pw0
  refine gen1 (p := fun W => Code.wp _ _ _ _ W) ?_
  intro W b2 s2 kx
  obtain ⟨q0, q1, q2, q3, q4, q5⟩ := pw0.keep b2
  have b3 := b1.andThen b2
  rw [s1] at kx
  have x0 := kx.cell 0
  have x1 := kx.cell 1
  have x2 := kx.cell 2
  have x3 := kx.cell 3
  have x4 := kx.cell 4
  have x5 := kx.cell 5
  have x6 := kx.cell 6
  have x7 := kx.cell 7
  have x8 := kx.cell 8
  simp at x0 x1 x2 x3 x4 x5 x6 x7 x8
  have hxs := kx.lt
  clear kx c0 c1 c2 c3 c4 c5 c6 c7 c8
  by_cases hB1 : taskB1 M x = true
  · have f1 := hB1
    simp only [taskB1, Bool.and_eq_true, Bool.not_eq_true'] at f1
    obtain ⟨⟨⟨⟨f1, f2⟩, f3⟩, f4⟩, f5⟩ := f1
    have HB1 := Lib.hid hB1
    clear hB1 f1
    obtain ⟨g, hg⟩ : ∃ g : Nat, x.gr = g := by
      simp only [usedI, Bool.and_eq_true, decide_eq_true_eq] at f2
      exact ⟨x.gr.toNat, by omega⟩
    have hgu : g < 8 ∧ (grp M g).used = true := by
      have hl := hT.len
      rw [hg] at f2
      simp only [usedI, Bool.and_eq_true, decide_eq_true_eq, Int.toNat_natCast] at f2
      exact ⟨by omega, f2.2⟩
    obtain ⟨hg8, hgu⟩ := hgu
    have HGU := Lib.hid hgu
    rw [hg] at x1 f2
    have HG := Lib.hid hg
    clear hg hgu
    go_wp2_with (first | (go_at_call 55; refine (sl6Used_any ca _ ga gc gh M _ q5 _).mono ?_; rintro e w' ⟨rfl, rfl⟩; rw [f2]) | (go_at_call 91; refine (sWeightOf_any _ _).mono ?_; rintro e w' ⟨rfl, rfl⟩) | (go_at_call 88; refine (sMaskOk_any _ _).mono ?_; rintro e w' ⟨rfl, rfl⟩; rw [f4]))
    have r1 := fun d os => cell_regrown x1 d os
    have r2 := fun d os => cell_regrown x2 d os
    have r4 := fun d os => cell_regrown x4 d os
    have r5 := fun d os => cell_regrown x5 d os
    have r6 := fun d os => cell_regrown x6 d os
    have r7 := fun d os => cell_regrown x7 d os
    have r8 := fun d os => cell_regrown x8 d os
    have w0 := fun d os => cell_regrown q1 d os
    have w1 := fun d os => cell_regrown q2 d os
    have w2 := fun d os => cell_regrown q3 d os
    have w3 := fun d os => cell_regrown q4 d os
    by_cases hv : timeB x.v = true
    · skip
      by_cases hs1 : timeB x.sum = true
      · skip
        by_cases hu1 : timeB x.used = true
        · skip
          by_cases hl1 : inR x.load 0 8000000 = true
          · skip
            by_cases hm1 : mhas (whereM M g x.mask) x.cpu = true
            · skip
              have B2 := Lib.hid (show taskB2 M x = true by simp [taskB2, HG.out, *])
              obtain ⟨hcl, hcu⟩ := where_has hc hm1
              obtain ⟨c, hcc⟩ : ∃ c : Nat, x.cpu = c := ⟨x.cpu.toNat, by omega⟩
              rw [hcc] at hcl hcu hm1 r2 x2
              have HC := Lib.hid hcc
              clear hcc
              refine wp_region_quiet_below (by kernel_rfl) (by kernel_rfl) ?_
              repeat (go_big_quiet_step (first | (go_at_call 89; exact regrown_left (sl4Time_any _ _)) | (go_at_call 27; exact regrown_left (sl1In_any _ _ _ _)) | (go_at_call 92; exact regrown_left (sMaskHas_any _ _ _)) | (go_at_call 93; exact Calls.regrown_of (sl8Where_any ca cc _ tc ga gc gh M _ (q5.keep (below_regrown _ _ _)) hT hc g hg8 HGU.out _))))
              refine wpQuiet_nil ?_
              intro _ hw'
              obtain ⟨⟨dq, osq⟩, hw''⟩ := hw'
              subst hw''
              have hb4 := below_regrown W dq osq
              generalize grow (redrawn W dq) osq = W2 at *
              have y1 := (hb4.cell (p := ⟨w.heap.size + 1, 1, none⟩) hxs).trans x1
              have y2 := (hb4.cell (p := ⟨w.heap.size + 1, 2, none⟩) hxs).trans x2
              have y3 := (hb4.cell (p := ⟨w.heap.size + 1, 3, none⟩) hxs).trans x3
              have y5 := (hb4.cell (p := ⟨w.heap.size + 1, 5, none⟩) hxs).trans x5
              have y0 := (hb4.cell (p := ⟨w.heap.size + 1, 0, none⟩) hxs).trans x0
              have p3 := (hb4.cell (p := ⟨w.heap.size, 3, none⟩) q0).trans q4
              have hcs : c < (grp M g).shelves.length := by rw [hG.she g hg8 HGU.out]; omega
              have hlg : g < M.groups.length := by have := hT.len; omega
              obtain ⟨b4, o4, rfl, hB4, d0, d1, d2, d3, d4, d5, d6, d7, d8, d9, d10, d11, d12, d13⟩ := (q5.keep hb4).group_ hlg
              obtain ⟨b5, o5, e5, hB5, f0, f1⟩ := (q5.keep hb4).shelf_ hlg hcs
              rw [e5] at d13
              clear r1 r2 r4 r5 r6 r7 r8 w0 w1 w2 w3 x0 x1 x2 x3 x4 x5 x6 x7 x8 q1 q2 q3 q4 d0 d1 d2 d3 d4 d5 d6 d7 d8 d9 d10 d11 d12 f1 e5
              go_wp2_with fail
              go_quiet (first | (go_at_call 94; exact quiet_left (sl8Stand_any _ _ _ _)) | (go_at_call 91; exact quiet_left (sWeightOf_any _ _)))
              go_wp2
              go_ret
              exact ⟨ret_bool (by rw [TN.out, HB1.out, B2.out, taskB3, HST.out, HG.out, HC.out]; simp), b3.andThen (hb4.drewN _)⟩
            · have hm1f : mhas (whereM M g x.mask) x.cpu = false := by simpa using hm1
              have B2 := Lib.hid (show taskB M t = false by rw [TN.out, show taskB2 M x = false by simp [taskB2, HG.out, *]]; simp)
              refine wp_region_quiet_below (by kernel_rfl) (by kernel_rfl) ?_
              repeat (go_big_quiet_step (first | (go_at_call 89; exact regrown_left (sl4Time_any _ _)) | (go_at_call 27; exact regrown_left (sl1In_any _ _ _ _)) | (go_at_call 92; exact regrown_left (sMaskHas_any _ _ _)) | (go_at_call 93; exact Calls.regrown_of (sl8Where_any ca cc _ tc ga gc gh M _ (q5.keep (below_regrown _ _ _)) hT hc g hg8 HGU.out _))))
              refine wpQuiet_nil ?_
              intro _ hw'
              obtain ⟨⟨dq, osq⟩, hw''⟩ := hw'
              subst hw''
              have hb4 := below_regrown W dq osq
              go_wp2
              go_ret
              exact ⟨ret_bool B2.out.symm, b3.andThen hb4⟩
          · have hl1f : inR x.load 0 8000000 = false := by simpa using hl1
            have B2 := Lib.hid (show taskB M t = false by rw [TN.out, show taskB2 M x = false by simp [taskB2, HG.out, *]]; simp)
            refine wp_region_quiet_below (by kernel_rfl) (by kernel_rfl) ?_
            repeat (go_big_quiet_step (first | (go_at_call 89; exact regrown_left (sl4Time_any _ _)) | (go_at_call 27; exact regrown_left (sl1In_any _ _ _ _)) | (go_at_call 92; exact regrown_left (sMaskHas_any _ _ _)) | (go_at_call 93; exact Calls.regrown_of (sl8Where_any ca cc _ tc ga gc gh M _ (q5.keep (below_regrown _ _ _)) hT hc g hg8 HGU.out _))))
            refine wpQuiet_nil ?_
            intro _ hw'
            obtain ⟨⟨dq, osq⟩, hw''⟩ := hw'
            subst hw''
            have hb4 := below_regrown W dq osq
            go_wp2
            go_ret
            exact ⟨ret_bool B2.out.symm, b3.andThen hb4⟩
        · have hu1f : timeB x.used = false := by simpa using hu1
          have B2 := Lib.hid (show taskB M t = false by rw [TN.out, show taskB2 M x = false by simp [taskB2, HG.out, *]]; simp)
          refine wp_region_quiet_below (by kernel_rfl) (by kernel_rfl) ?_
          repeat (go_big_quiet_step (first | (go_at_call 89; exact regrown_left (sl4Time_any _ _)) | (go_at_call 27; exact regrown_left (sl1In_any _ _ _ _)) | (go_at_call 92; exact regrown_left (sMaskHas_any _ _ _)) | (go_at_call 93; exact Calls.regrown_of (sl8Where_any ca cc _ tc ga gc gh M _ (q5.keep (below_regrown _ _ _)) hT hc g hg8 HGU.out _))))
          refine wpQuiet_nil ?_
          intro _ hw'
          obtain ⟨⟨dq, osq⟩, hw''⟩ := hw'
          subst hw''
          have hb4 := below_regrown W dq osq
          go_wp2
          go_ret
          exact ⟨ret_bool B2.out.symm, b3.andThen hb4⟩
      · have hs1f : timeB x.sum = false := by simpa using hs1
        have B2 := Lib.hid (show taskB M t = false by rw [TN.out, show taskB2 M x = false by simp [taskB2, HG.out, *]]; simp)
        refine wp_region_quiet_below (by kernel_rfl) (by kernel_rfl) ?_
        repeat (go_big_quiet_step (first | (go_at_call 89; exact regrown_left (sl4Time_any _ _)) | (go_at_call 27; exact regrown_left (sl1In_any _ _ _ _)) | (go_at_call 92; exact regrown_left (sMaskHas_any _ _ _)) | (go_at_call 93; exact Calls.regrown_of (sl8Where_any ca cc _ tc ga gc gh M _ (q5.keep (below_regrown _ _ _)) hT hc g hg8 HGU.out _))))
        refine wpQuiet_nil ?_
        intro _ hw'
        obtain ⟨⟨dq, osq⟩, hw''⟩ := hw'
        subst hw''
        have hb4 := below_regrown W dq osq
        go_wp2
        go_ret
        exact ⟨ret_bool B2.out.symm, b3.andThen hb4⟩
    · have hvf : timeB x.v = false := by simpa using hv
      have B2 := Lib.hid (show taskB M t = false by rw [TN.out, show taskB2 M x = false by simp [taskB2, HG.out, *]]; simp)
      refine wp_region_quiet_below (by kernel_rfl) (by kernel_rfl) ?_
      repeat (go_big_quiet_step (first | (go_at_call 89; exact regrown_left (sl4Time_any _ _)) | (go_at_call 27; exact regrown_left (sl1In_any _ _ _ _)) | (go_at_call 92; exact regrown_left (sMaskHas_any _ _ _)) | (go_at_call 93; exact Calls.regrown_of (sl8Where_any ca cc _ tc ga gc gh M _ (q5.keep (below_regrown _ _ _)) hT hc g hg8 HGU.out _))))
      refine wpQuiet_nil ?_
      intro _ hw'
      obtain ⟨⟨dq, osq⟩, hw''⟩ := hw'
      subst hw''
      have hb4 := below_regrown W dq osq
      go_wp2
      go_ret
      exact ⟨ret_bool B2.out.symm, b3.andThen hb4⟩
  · have hB1' : taskB1 M x = false := by simpa using hB1
    have TF := Lib.hid (show taskB M t = false by rw [TN.out, hB1']; rfl)
    have HB1 := Lib.hid hB1'
    clear hB1 hB1' TN
    go_wp2_with (first | (go_at_call 55; refine (sl6Used_any ca _ ga gc gh M _ q5 _).mono ?_; rintro e w' ⟨rfl, rfl⟩) | (go_at_call 91; refine (sWeightOf_any _ _).mono ?_; rintro e w' ⟨rfl, rfl⟩) | (go_at_call 88; refine (sMaskOk_any _ _).mono ?_; rintro e w' ⟨rfl, rfl⟩))
    all_goals first
      | (go_ret; exact ⟨ret_bool TF.out.symm, b3⟩)
      | exact absurd HB1.out (by simp [taskB1, HST.out, *])
end
end Go.Proofs.YtomllcclallcdaaGreatDoor
namespace Go.Proofs.YtomllcclallcdaaGreatDoor
section
open Go.RowKit Go.Sort
set_option maxRecDepth 100000 in
set_option maxHeartbeats 2000000 in
theorem sl8TaskOk_2 (ca : Option Addr) (cc : Nat) (ta : Option Addr) (tc : Nat) (ga : Option Addr) (gc : Nat) (gh : Nat → GH) (M : WorldM) (w : World) (hs : WA w ca ta ga gh M) (hT : Tree M) (hc : M.cpus.length ≤ 4) (t : Nat) (ht : t < M.tasks.length) (hst : (tsk M t).st = 2) :
    Calls Tryz.prog 59 #[.agg #[.int .i64 M.now, .slice ca M.cpus.length cc, .slice ta M.tasks.length tc, .slice ga M.groups.length gc], .int .i64 t] w fun e w' => e = .returned (.bool (taskB M t)) ∧ Below w.heap.size w w' := by
  have hgl : M.groups.length ≤ 1048576 := by have := hT.len; omega
  obtain ⟨b, o, rfl, hB, c0, c1, c2, c3, c4, c5, c6, c7, c8⟩ := hs.task_ ht
  generalize hX : tsk M t = x at *
  have TN := Lib.hid (show taskB M t = (taskB1 M x && taskB2 M x && taskB3 M x) by rw [taskB, hX, if_neg (by rw [hst]; decide)])
  have HST := Lib.hid hst
  rw [hst] at c0
  clear hX hst
  go_enter Tryz.func59, Tryz.ntmps59
  go_upto_region 4 with (fail)
  refine PA.gen (P := fun W => Code.wp _ _ _ _ (W.alloc _)) hs ?_
  intro W0 b1 s1 pw0
  refine gen1 (p := fun W => Code.wp _ _ _ _ W) ?_
  intro W b2 s2 kx
  obtain ⟨q0, q1, q2, q3, q4, q5⟩ := pw0.keep b2
  have b3 := b1.andThen b2
  rw [s1] at kx
  have x0 := kx.cell 0
  have x1 := kx.cell 1
  have x2 := kx.cell 2
  have x3 := kx.cell 3
  have x4 := kx.cell 4
  have x5 := kx.cell 5
  have x6 := kx.cell 6
  have x7 := kx.cell 7
  have x8 := kx.cell 8
  simp at x0 x1 x2 x3 x4 x5 x6 x7 x8
  have hxs := kx.lt
  clear kx c0 c1 c2 c3 c4 c5 c6 c7 c8
  by_cases hB1 : taskB1 M x = true
  · have f1 := hB1
    simp only [taskB1, Bool.and_eq_true, Bool.not_eq_true'] at f1
    obtain ⟨⟨⟨⟨f1, f2⟩, f3⟩, f4⟩, f5⟩ := f1
    have HB1 := Lib.hid hB1
    clear hB1 f1
    obtain ⟨g, hg⟩ : ∃ g : Nat, x.gr = g := by
      simp only [usedI, Bool.and_eq_true, decide_eq_true_eq] at f2
      exact ⟨x.gr.toNat, by omega⟩
    have hgu : g < 8 ∧ (grp M g).used = true := by
      have hl := hT.len
      rw [hg] at f2
      simp only [usedI, Bool.and_eq_true, decide_eq_true_eq, Int.toNat_natCast] at f2
      exact ⟨by omega, f2.2⟩
    obtain ⟨hg8, hgu⟩ := hgu
    have HGU := Lib.hid hgu
    rw [hg] at x1 f2
    have HG := Lib.hid hg
    clear hg hgu
    go_wp2_with (first | (go_at_call 55; refine (sl6Used_any ca _ ga gc gh M _ q5 _).mono ?_; rintro e w' ⟨rfl, rfl⟩; rw [f2]) | (go_at_call 91; refine (sWeightOf_any _ _).mono ?_; rintro e w' ⟨rfl, rfl⟩) | (go_at_call 88; refine (sMaskOk_any _ _).mono ?_; rintro e w' ⟨rfl, rfl⟩; rw [f4]))
    have r1 := fun d os => cell_regrown x1 d os
    have r2 := fun d os => cell_regrown x2 d os
    have r4 := fun d os => cell_regrown x4 d os
    have r5 := fun d os => cell_regrown x5 d os
    have r6 := fun d os => cell_regrown x6 d os
    have r7 := fun d os => cell_regrown x7 d os
    have r8 := fun d os => cell_regrown x8 d os
    have w0 := fun d os => cell_regrown q1 d os
    have w1 := fun d os => cell_regrown q2 d os
    have w2 := fun d os => cell_regrown q3 d os
    have w3 := fun d os => cell_regrown q4 d os
    by_cases hv : timeB x.v = true
    · skip
      by_cases hs1 : timeB x.sum = true
      · skip
        by_cases hu1 : timeB x.used = true
        · skip
          by_cases hl1 : inR x.load 0 8000000 = true
          · skip
            by_cases hm1 : mhas (whereM M g x.mask) x.cpu = true
            · skip
              have B2 := Lib.hid (show taskB2 M x = true by simp [taskB2, HG.out, *])
              refine wp_region_quiet_below (by kernel_rfl) (by kernel_rfl) ?_
              repeat (go_big_quiet_step (first | (go_at_call 89; exact regrown_left (sl4Time_any _ _)) | (go_at_call 27; exact regrown_left (sl1In_any _ _ _ _)) | (go_at_call 92; exact regrown_left (sMaskHas_any _ _ _)) | (go_at_call 93; exact Calls.regrown_of (sl8Where_any ca cc _ tc ga gc gh M _ (q5.keep (below_regrown _ _ _)) hT hc g hg8 HGU.out _))))
              refine wpQuiet_nil ?_
              intro _ hw'
              obtain ⟨⟨dq, osq⟩, hw''⟩ := hw'
              subst hw''
              have hb4 := below_regrown W dq osq
              generalize grow (redrawn W dq) osq = W2 at *
              have y0 := (hb4.cell (p := ⟨w.heap.size + 1, 0, none⟩) hxs).trans x0
              go_wp2_with fail
              go_quiet (fail)
              go_wp2
              go_ret
              exact ⟨ret_bool (by rw [TN.out, HB1.out, B2.out]; simp [taskB3, HST.out]), b3.andThen (hb4.drewN _)⟩
            · have hm1f : mhas (whereM M g x.mask) x.cpu = false := by simpa using hm1
              have B2 := Lib.hid (show taskB M t = false by rw [TN.out, show taskB2 M x = false by simp [taskB2, HG.out, *]]; simp)
              refine wp_region_quiet_below (by kernel_rfl) (by kernel_rfl) ?_
              repeat (go_big_quiet_step (first | (go_at_call 89; exact regrown_left (sl4Time_any _ _)) | (go_at_call 27; exact regrown_left (sl1In_any _ _ _ _)) | (go_at_call 92; exact regrown_left (sMaskHas_any _ _ _)) | (go_at_call 93; exact Calls.regrown_of (sl8Where_any ca cc _ tc ga gc gh M _ (q5.keep (below_regrown _ _ _)) hT hc g hg8 HGU.out _))))
              refine wpQuiet_nil ?_
              intro _ hw'
              obtain ⟨⟨dq, osq⟩, hw''⟩ := hw'
              subst hw''
              have hb4 := below_regrown W dq osq
              go_wp2
              go_ret
              exact ⟨ret_bool B2.out.symm, b3.andThen hb4⟩
          · have hl1f : inR x.load 0 8000000 = false := by simpa using hl1
            have B2 := Lib.hid (show taskB M t = false by rw [TN.out, show taskB2 M x = false by simp [taskB2, HG.out, *]]; simp)
            refine wp_region_quiet_below (by kernel_rfl) (by kernel_rfl) ?_
            repeat (go_big_quiet_step (first | (go_at_call 89; exact regrown_left (sl4Time_any _ _)) | (go_at_call 27; exact regrown_left (sl1In_any _ _ _ _)) | (go_at_call 92; exact regrown_left (sMaskHas_any _ _ _)) | (go_at_call 93; exact Calls.regrown_of (sl8Where_any ca cc _ tc ga gc gh M _ (q5.keep (below_regrown _ _ _)) hT hc g hg8 HGU.out _))))
            refine wpQuiet_nil ?_
            intro _ hw'
            obtain ⟨⟨dq, osq⟩, hw''⟩ := hw'
            subst hw''
            have hb4 := below_regrown W dq osq
            go_wp2
            go_ret
            exact ⟨ret_bool B2.out.symm, b3.andThen hb4⟩
        · have hu1f : timeB x.used = false := by simpa using hu1
          have B2 := Lib.hid (show taskB M t = false by rw [TN.out, show taskB2 M x = false by simp [taskB2, HG.out, *]]; simp)
          refine wp_region_quiet_below (by kernel_rfl) (by kernel_rfl) ?_
          repeat (go_big_quiet_step (first | (go_at_call 89; exact regrown_left (sl4Time_any _ _)) | (go_at_call 27; exact regrown_left (sl1In_any _ _ _ _)) | (go_at_call 92; exact regrown_left (sMaskHas_any _ _ _)) | (go_at_call 93; exact Calls.regrown_of (sl8Where_any ca cc _ tc ga gc gh M _ (q5.keep (below_regrown _ _ _)) hT hc g hg8 HGU.out _))))
          refine wpQuiet_nil ?_
          intro _ hw'
          obtain ⟨⟨dq, osq⟩, hw''⟩ := hw'
          subst hw''
          have hb4 := below_regrown W dq osq
          go_wp2
          go_ret
          exact ⟨ret_bool B2.out.symm, b3.andThen hb4⟩
      · have hs1f : timeB x.sum = false := by simpa using hs1
        have B2 := Lib.hid (show taskB M t = false by rw [TN.out, show taskB2 M x = false by simp [taskB2, HG.out, *]]; simp)
        refine wp_region_quiet_below (by kernel_rfl) (by kernel_rfl) ?_
        repeat (go_big_quiet_step (first | (go_at_call 89; exact regrown_left (sl4Time_any _ _)) | (go_at_call 27; exact regrown_left (sl1In_any _ _ _ _)) | (go_at_call 92; exact regrown_left (sMaskHas_any _ _ _)) | (go_at_call 93; exact Calls.regrown_of (sl8Where_any ca cc _ tc ga gc gh M _ (q5.keep (below_regrown _ _ _)) hT hc g hg8 HGU.out _))))
        refine wpQuiet_nil ?_
        intro _ hw'
        obtain ⟨⟨dq, osq⟩, hw''⟩ := hw'
        subst hw''
        have hb4 := below_regrown W dq osq
        go_wp2
        go_ret
        exact ⟨ret_bool B2.out.symm, b3.andThen hb4⟩
    · have hvf : timeB x.v = false := by simpa using hv
      have B2 := Lib.hid (show taskB M t = false by rw [TN.out, show taskB2 M x = false by simp [taskB2, HG.out, *]]; simp)
      refine wp_region_quiet_below (by kernel_rfl) (by kernel_rfl) ?_
      repeat (go_big_quiet_step (first | (go_at_call 89; exact regrown_left (sl4Time_any _ _)) | (go_at_call 27; exact regrown_left (sl1In_any _ _ _ _)) | (go_at_call 92; exact regrown_left (sMaskHas_any _ _ _)) | (go_at_call 93; exact Calls.regrown_of (sl8Where_any ca cc _ tc ga gc gh M _ (q5.keep (below_regrown _ _ _)) hT hc g hg8 HGU.out _))))
      refine wpQuiet_nil ?_
      intro _ hw'
      obtain ⟨⟨dq, osq⟩, hw''⟩ := hw'
      subst hw''
      have hb4 := below_regrown W dq osq
      go_wp2
      go_ret
      exact ⟨ret_bool B2.out.symm, b3.andThen hb4⟩
  · have hB1' : taskB1 M x = false := by simpa using hB1
    have TF := Lib.hid (show taskB M t = false by rw [TN.out, hB1']; rfl)
    have HB1 := Lib.hid hB1'
    clear hB1 hB1' TN
    go_wp2_with (first | (go_at_call 55; refine (sl6Used_any ca _ ga gc gh M _ q5 _).mono ?_; rintro e w' ⟨rfl, rfl⟩) | (go_at_call 91; refine (sWeightOf_any _ _).mono ?_; rintro e w' ⟨rfl, rfl⟩) | (go_at_call 88; refine (sMaskOk_any _ _).mono ?_; rintro e w' ⟨rfl, rfl⟩))
    all_goals first
      | (go_ret; exact ⟨ret_bool TF.out.symm, b3⟩)
      | exact absurd HB1.out (by simp [taskB1, HST.out, *])
end
end Go.Proofs.YtomllcclallcdaaGreatDoor
namespace Go.Proofs.YtomllcclallcdaaGreatDoor
section
open Go.RowKit Go.Sort
set_option maxRecDepth 100000 in
set_option maxHeartbeats 1000000 in
theorem sl8TaskOk_any (ca : Option Addr) (cc : Nat) (ta : Option Addr) (tc : Nat) (ga : Option Addr) (gc : Nat) (gh : Nat → GH) (M : WorldM) (w : World) (hs : WA w ca ta ga gh M) (hT : Tree M) (hG : GOk M) (hc : M.cpus.length ≤ 4) (t : Nat) (ht : t < M.tasks.length) :
    Calls Tryz.prog 59 #[.agg #[.int .i64 M.now, .slice ca M.cpus.length cc, .slice ta M.tasks.length tc, .slice ga M.groups.length gc], .int .i64 t] w fun e w' => e = .returned (.bool (taskB M t)) ∧ Below w.heap.size w w' := by
  by_cases h1 : (tsk M t).st = 1
  · exact sl8TaskOk_1 ca cc ta tc ga gc gh M w hs hT hG hc t ht h1
  by_cases h2 : (tsk M t).st = 2
  · exact sl8TaskOk_2 ca cc ta tc ga gc gh M w hs hT hc t ht h2
  obtain ⟨b, o, rfl, hB, c0, c1, c2, c3, c4, c5, c6, c7, c8⟩ := hs.task_ ht
  generalize hX : tsk M t = x at *
  have HX := Lib.hid hX
  clear hX
  by_cases h0 : x.st = 0
  · have TN := Lib.hid (show taskB M t = zeroT x by rw [taskB, HX.out, if_pos h0])
    go_enter Tryz.func59, Tryz.ntmps59
    go_wp2
    all_goals go_ret
    all_goals exact ⟨ret_bool (by rw [TN.out]; simp [zeroT, *]), ((Below.refl _ _).alloc (Nat.le_refl _) _).alloc (by simp) _⟩
  · have TN := Lib.hid (show taskB M t = false by rw [taskB, HX.out, if_neg h0, show taskB1 M x = false by simp [taskB1, h1, h2]]; rfl)
    have h0' : (x.st == 0) = false := by simpa using h0
    have h1' : (x.st != 1) = true := by simpa using h1
    have h2' : (x.st != 2) = true := by simpa using h2
    clear h0 h1 h2
    go_enter Tryz.func59, Tryz.ntmps59
    go_wp2
    go_ret
    exact ⟨ret_bool TN.out.symm, ((Below.refl _ _).alloc (Nat.le_refl _) _).alloc (by simp) _⟩
end
end Go.Proofs.YtomllcclallcdaaGreatDoor
namespace Go.Proofs.YtomllcclallcdaaGreatDoor
section
open Go.RowKit Go.Sort
theorem regrown_as {P : Program} {f : FuncId} {args : Array Value} {w : World} {d : Nat} {os : Array Obj} {u v : Bool} (e : u = v)
    (h : Calls P f args (grow (redrawn w d) os) fun e w' => e = .returned (.bool u) ∧ Below (grow (redrawn w d) os).heap.size (grow (redrawn w d) os) w') : Calls P f args (grow (redrawn w d) os) fun e w'' => e = .returned (.bool v) ∧ ∃ p : Regrown, w'' = grow (redrawn w p.d) p.os := by
  subst e; exact Calls.regrown_of h
set_option maxRecDepth 100000 in
set_option maxHeartbeats 2000000 in
theorem sl8ShelfOk_any (ca : Option Addr) (cc : Nat) (ta : Option Addr) (tc : Nat) (ga : Option Addr) (gc : Nat) (gh : Nat → GH) (M : WorldM) (w : World) (hs : WA w ca ta ga gh M) (hT : Tree M) (hG : GOk M) (htm : M.tasks.length ≤ 1048576) (k c : Nat) (hk : k < 8) (hu : (grp M k).used = true) (hc : c < M.cpus.length) :
    Calls Tryz.prog 60 #[.agg #[.int .i64 M.now, .slice ca M.cpus.length cc, .slice ta M.tasks.length tc, .slice ga M.groups.length gc], .int .i64 k, .int .i64 c] w fun e w' => e = .returned (.bool (shelfB M k c)) ∧ Below w.heap.size w w' := by
  have hlg : k < M.groups.length := by have := hT.len; omega
  have hcs : c < (grp M k).shelves.length := by rw [hG.she k hk hu]; exact hc
  obtain ⟨b, o, rfl, hB, c0, c1, c2, c3, c4, c5, c6, c7, c8, c9, c10, c11, c12, c13⟩ := hs.group_ hlg
  obtain ⟨b5, o5, e5, hB5, f0, f1, f2, f3, f4⟩ := hs.shelf_ hlg hcs
  have E5 := Lib.hid e5
  rw [e5] at c13
  clear e5
  go_enter Tryz.func60, Tryz.ntmps60
  go_upto_region 3 with (fail)
  refine PA.gen (P := fun W => Code.wp _ _ _ _ ((W.alloc _).alloc _)) hs ?_
  intro W0 b1 s1 pw0
  refine gen2 (p := fun W => Code.wp _ _ _ _ W) ?_
  intro W b2 s2 kg kx
  obtain ⟨q0, q1, q2, q3, q4, q5⟩ := pw0.keep b2
  have b3 := b1.andThen b2
  rw [s1] at kx kg
  have x0 := kx.cell 0
  have x1 := kx.cell 1
  have x2 := kx.cell 2
  have x3 := kx.cell 3
  have x4 := kx.cell 4
  simp at x0 x1 x2 x3 x4
  have y1 := kg.cell 1
  simp at y1
  have hxs := kx.lt
  clear kx kg c0 c1 c2 c3 c4 c5 c6 c7 c8 c9 c10 c11 c12 c13 f0 f1 f2 f3 f4
  have hgs : w.heap.size + 1 < W.heap.size := by omega
  by_cases hB1 : shelfB1 (she M k c) = true
  · have f1 := hB1
    simp only [shelfB1, Bool.and_eq_true] at f1
    obtain ⟨⟨⟨g1, g2⟩, g3⟩, g4⟩ := f1
    have HB1 := Lib.hid hB1
    clear hB1
    by_cases h0 : k = 0
    · subst h0
      have SN := Lib.hid (show shelfB M 0 c = (!(she M 0 c).on && ((she M 0 c).v == 0) && ((she M 0 c).w == 10)) by rw [shelfB, HB1.out]; rfl)
      go_wp2_with (first | (go_at_call 89; refine (sl4Time_any _ _).mono ?_; rintro e w' ⟨rfl, rfl⟩; first | rw [g1] | rw [g2] | rw [g3]) | (go_at_call 87; refine (sl1Weight_any _ _).mono ?_; rintro e w' ⟨rfl, rfl⟩; rw [g4]))
      all_goals go_ret
      all_goals exact ⟨ret_bool (by rw [SN.out]; simp [*]), b3⟩
    · have SN := Lib.hid (show shelfB M k c = (((she M k c).on == onB M k c) && (!(she M k c).on || standW (she M k c).v (she M (par M k) c).floor (she M k c).w)) by rw [shelfB, HB1.out, if_neg h0]; rfl)
      have hne : ((k : Int) == 0) = false := by simpa using h0
      obtain ⟨hp1, hp2, hp3, hp4⟩ := hT.up k hk hu h0
      rw [hp1] at y1
      have hlp : par M k < M.groups.length := by have := hT.len; omega
      have hcp : c < (grp M (par M k)).shelves.length := by rw [hG.she _ hp2 hp3]; exact hc
      have hdc : 0 < (grp M k).band.quota → c < (grp M k).band.dry.length := fun h => by rw [(hG.dry k hk hu h).1]; exact hc
      have HDC := Lib.hid hdc
      clear hdc hp1 hp3 hp4 E5
      have hdc := HDC.out
      clear HDC
      go_wp2_with (first | (go_at_call 89; refine (sl4Time_any _ _).mono ?_; rintro e w' ⟨rfl, rfl⟩; first | rw [g1] | rw [g2] | rw [g3]) | (go_at_call 87; refine (sl1Weight_any _ _).mono ?_; rintro e w' ⟨rfl, rfl⟩; rw [g4]))
      have r1 := fun d os => cell_regrown x1 d os
      have w0 := fun d os => cell_regrown q1 d os
      have w1 := fun d os => cell_regrown q2 d os
      have w2 := fun d os => cell_regrown q3 d os
      have w3 := fun d os => cell_regrown q4 d os
      obtain ⟨on, hON⟩ : ∃ on, (she M k c).on = on := ⟨_, rfl⟩
      obtain ⟨ac, hAC⟩ : ∃ ac, act M k c = ac := ⟨_, rfl⟩
      obtain ⟨dr, hDR⟩ : ∃ dr, dryM M k c = dr := ⟨_, rfl⟩
      rw [hON] at x1
      have HON := Lib.hid hON
      have HAC := Lib.hid hAC
      have HDR := Lib.hid hDR
      clear hON hAC hDR r1
      have r1 := fun d os => cell_regrown x1 d os
      cases on
      · cases ac
        · refine wp_region_quiet_below (by kernel_rfl) (by kernel_rfl) ?_
          repeat (go_big_quiet_step (first | (go_at_call 95; exact regrown_as HAC.out (sl8Active_any ca cc ta tc _ gc gh M _ (q5.keep (below_regrown _ _ _)) hT hG htm _ c hc)) | (go_at_call 96; exact regrown_as HDR.out (sl8Dry_any ca cc ta tc _ gc gh M _ (q5.keep (below_regrown _ _ _)) k c hlg hdc))))
          refine wpQuiet_nil ?_
          intro _ hw'
          obtain ⟨⟨dq, osq⟩, hw''⟩ := hw'
          subst hw''
          have hb4 := below_regrown W dq osq
          generalize grow (redrawn W dq) osq = W2 at *
          have z1 := (hb4.cell (p := ⟨w.heap.size + 1 + 1, 1, none⟩) hxs).trans x1
          go_wp2_with fail
          go_quiet (fail)
          go_wp2
          go_ret
          exact ⟨ret_bool (by rw [SN.out, HON.out]; simp [onB, HAC.out, HDR.out]), b3.andThen (hb4.drewN _)⟩
        · cases dr
          · refine wp_region_quiet_below (by kernel_rfl) (by kernel_rfl) ?_
            repeat (go_big_quiet_step (first | (go_at_call 95; exact regrown_as HAC.out (sl8Active_any ca cc ta tc _ gc gh M _ (q5.keep (below_regrown _ _ _)) hT hG htm _ c hc)) | (go_at_call 96; exact regrown_as HDR.out (sl8Dry_any ca cc ta tc _ gc gh M _ (q5.keep (below_regrown _ _ _)) k c hlg hdc))))
            refine wpQuiet_nil ?_
            intro _ hw'
            obtain ⟨⟨dq, osq⟩, hw''⟩ := hw'
            subst hw''
            have hb4 := below_regrown W dq osq
            generalize grow (redrawn W dq) osq = W2 at *
            go_wp2
            go_ret
            exact ⟨ret_bool (by rw [SN.out, HON.out]; simp [onB, HAC.out, HDR.out]), b3.andThen hb4⟩
          · refine wp_region_quiet_below (by kernel_rfl) (by kernel_rfl) ?_
            repeat (go_big_quiet_step (first | (go_at_call 95; exact regrown_as HAC.out (sl8Active_any ca cc ta tc _ gc gh M _ (q5.keep (below_regrown _ _ _)) hT hG htm _ c hc)) | (go_at_call 96; exact regrown_as HDR.out (sl8Dry_any ca cc ta tc _ gc gh M _ (q5.keep (below_regrown _ _ _)) k c hlg hdc))))
            refine wpQuiet_nil ?_
            intro _ hw'
            obtain ⟨⟨dq, osq⟩, hw''⟩ := hw'
            subst hw''
            have hb4 := below_regrown W dq osq
            generalize grow (redrawn W dq) osq = W2 at *
            have z1 := (hb4.cell (p := ⟨w.heap.size + 1 + 1, 1, none⟩) hxs).trans x1
            go_wp2_with fail
            go_quiet (fail)
            go_wp2
            go_ret
            exact ⟨ret_bool (by rw [SN.out, HON.out]; simp [onB, HAC.out, HDR.out]), b3.andThen (hb4.drewN _)⟩
      · cases ac
        · refine wp_region_quiet_below (by kernel_rfl) (by kernel_rfl) ?_
          repeat (go_big_quiet_step (first | (go_at_call 95; exact regrown_as HAC.out (sl8Active_any ca cc ta tc _ gc gh M _ (q5.keep (below_regrown _ _ _)) hT hG htm _ c hc)) | (go_at_call 96; exact regrown_as HDR.out (sl8Dry_any ca cc ta tc _ gc gh M _ (q5.keep (below_regrown _ _ _)) k c hlg hdc))))
          refine wpQuiet_nil ?_
          intro _ hw'
          obtain ⟨⟨dq, osq⟩, hw''⟩ := hw'
          subst hw''
          have hb4 := below_regrown W dq osq
          generalize grow (redrawn W dq) osq = W2 at *
          go_wp2
          go_ret
          exact ⟨ret_bool (by rw [SN.out, HON.out]; simp [onB, HAC.out, HDR.out]), b3.andThen hb4⟩
        · cases dr
          · refine wp_region_quiet_below (by kernel_rfl) (by kernel_rfl) ?_
            repeat (go_big_quiet_step (first | (go_at_call 95; exact regrown_as HAC.out (sl8Active_any ca cc ta tc _ gc gh M _ (q5.keep (below_regrown _ _ _)) hT hG htm _ c hc)) | (go_at_call 96; exact regrown_as HDR.out (sl8Dry_any ca cc ta tc _ gc gh M _ (q5.keep (below_regrown _ _ _)) k c hlg hdc))))
            refine wpQuiet_nil ?_
            intro _ hw'
            obtain ⟨⟨dq, osq⟩, hw''⟩ := hw'
            subst hw''
            have hb4 := below_regrown W dq osq
            generalize grow (redrawn W dq) osq = W2 at *
            have z1 := (hb4.cell (p := ⟨w.heap.size + 1 + 1, 1, none⟩) hxs).trans x1
            go_wp2_with fail
            have z2 := (hb4.cell (p := ⟨w.heap.size + 1 + 1, 2, none⟩) hxs).trans x2
            have z3 := (hb4.cell (p := ⟨w.heap.size + 1 + 1, 3, none⟩) hxs).trans x3
            have z5 := (hb4.cell (p := ⟨w.heap.size + 1, 1, none⟩) hgs).trans y1
            have z6 := (hb4.cell (p := ⟨w.heap.size, 3, none⟩) q0).trans q4
            obtain ⟨b6, o6, e6, hB6, d0, d1, d2, d3, d4, d5, d6, d7, d8, d9, d10, d11, d12, d13⟩ := (q5.keep hb4).group_ hlp
            have e7 : b6 = b ∧ o6 = o := by simpa [eq_comm] using e6
            obtain ⟨rfl, rfl⟩ := e7
            obtain ⟨b7, o7, e8, hB7, t0, t1⟩ := (q5.keep hb4).shelf_ hlp hcp
            rw [e8] at d13
            clear e6 e8 d0 d1 d2 d3 d4 d5 d6 d7 d8 d9 d10 d11 d12 t1
            go_quiet ((go_at_call 94; exact quiet_left (sl8Stand_any _ _ _ _)))
            go_wp2
            go_ret
            exact ⟨ret_bool (by rw [SN.out, HON.out]; simp [onB, HAC.out, HDR.out]), b3.andThen (hb4.drewN _)⟩
          · refine wp_region_quiet_below (by kernel_rfl) (by kernel_rfl) ?_
            repeat (go_big_quiet_step (first | (go_at_call 95; exact regrown_as HAC.out (sl8Active_any ca cc ta tc _ gc gh M _ (q5.keep (below_regrown _ _ _)) hT hG htm _ c hc)) | (go_at_call 96; exact regrown_as HDR.out (sl8Dry_any ca cc ta tc _ gc gh M _ (q5.keep (below_regrown _ _ _)) k c hlg hdc))))
            refine wpQuiet_nil ?_
            intro _ hw'
            obtain ⟨⟨dq, osq⟩, hw''⟩ := hw'
            subst hw''
            have hb4 := below_regrown W dq osq
            generalize grow (redrawn W dq) osq = W2 at *
            go_wp2
            go_ret
            exact ⟨ret_bool (by rw [SN.out, HON.out]; simp [onB, HAC.out, HDR.out]), b3.andThen hb4⟩
  · have hB1' : shelfB1 (she M k c) = false := by simpa using hB1
    have SN := Lib.hid (show shelfB M k c = false by rw [shelfB, hB1']; rfl)
    have HB1 := Lib.hid hB1'
    clear hB1 hB1'
    by_cases h0 : k = 0
    · subst h0
      go_wp2_with (first | (go_at_call 89; refine (sl4Time_any _ _).mono ?_; rintro e w' ⟨rfl, rfl⟩) | (go_at_call 87; refine (sl1Weight_any _ _).mono ?_; rintro e w' ⟨rfl, rfl⟩))
      all_goals first
        | (go_ret; exact ⟨ret_bool SN.out.symm, b3⟩)
        | exact absurd HB1.out (by have hz : inR (she M 0 c).w 1 20 = true := (by simpa using ‹(!inR (she M 0 c).w 1 20) = false›); simp [shelfB1, show timeB 0 = true from rfl, *])
    · have hne : ((k : Int) == 0) = false := by simpa using h0
      clear h0
      go_wp2_with (first | (go_at_call 89; refine (sl4Time_any _ _).mono ?_; rintro e w' ⟨rfl, rfl⟩) | (go_at_call 87; refine (sl1Weight_any _ _).mono ?_; rintro e w' ⟨rfl, rfl⟩))
      all_goals first
        | (go_ret; exact ⟨ret_bool SN.out.symm, b3⟩)
        | exact absurd HB1.out (by have hz : inR (she M k c).w 1 20 = true := (by simpa using ‹(!inR (she M k c).w 1 20) = false›); simp [shelfB1, *])
end
end Go.Proofs.YtomllcclallcdaaGreatDoor
namespace Go.Proofs.YtomllcclallcdaaGreatDoor
section
open Go.RowKit Go.Sort
structure FitG (M : WorldM) : Prop where
  cpu : M.cpus.length ≤ 1048576
  task : M.tasks.length ≤ 1048576
  group : M.groups.length ≤ 1048576
  loc : ∀ k, k < M.groups.length → (grp M k).band.locals.length ≤ 1048576
  dry : ∀ k, k < M.groups.length → (grp M k).band.dry.length ≤ 1048576
  she : ∀ k, k < M.groups.length → (grp M k).shelves.length ≤ 1048576
  name : ∀ k, k < M.groups.length → (grp M k).name.size ≤ 1048576
set_option maxRecDepth 100000 in
set_option maxHeartbeats 2000000 in
theorem sl8GroupOk_any (ca : Option Addr) (cc : Nat) (ta : Option Addr) (tc : Nat) (ga : Option Addr) (gc : Nat) (gh : Nat → GH) (M : WorldM) (w : World) (hs : WA w ca ta ga gh M) (hF : FitG M) (k : Nat) (hk : k < M.groups.length) :
    Calls Tryz.prog 58 #[.agg #[.int .i64 M.now, .slice ca M.cpus.length cc, .slice ta M.tasks.length tc, .slice ga M.groups.length gc], .int .i64 k] w fun e w' => e = .returned (.bool (groupB M k)) ∧ Below w.heap.size w w' := by
  obtain ⟨b, o, rfl, hB, c0, c1, c2, c3, c4, c5, c6, c7, c8, c9, c10, c11, c12, c13⟩ := hs.group_ hk
  have hil := hs.group.loc k hk
  have hid := hs.group.dry k hk
  rw [grp_eq hk] at hil hid
  have fl := hF.loc k hk
  have fd := hF.dry k hk
  have fs := hF.she k hk
  have fc := hF.cpu
  obtain ⟨x, hX⟩ : ∃ x, grp M k = x := ⟨_, rfl⟩
  rw [hX] at c0 c1 c2 c3 c4 c5 c6 c7 c8 c9 c10 c11 c12 c13 hil hid fl fd fs
  have HX := Lib.hid hX
  have HF := Lib.hid hF
  clear hX hF
  by_cases hu : x.used = true
  · have GN := Lib.hid (show groupB M k = (grpU M x && (decide (k ≠ 0) || grpR x) && grpQ M x) by rw [groupB, HX.out, if_pos hu])
    rw [hu] at c0
    clear hu
    go_enter Tryz.func58, Tryz.ntmps58
    go_upto_region 4 with (fail)
    refine PA.gen (P := fun W => Code.wp _ _ _ _ (W.alloc _)) hs ?_
    intro W0 b1 s1 pw0
    refine gen1 (p := fun W => Code.wp _ _ _ _ W) ?_
    intro W b2 s2 kx
    obtain ⟨q0, q1, q2, q3, q4, q5⟩ := pw0.keep b2
    have b3 := b1.andThen b2
    rw [s1] at kx
    have x3 := kx.cell 3
    have x4 := kx.cell 4
    have x5 := kx.cell 5
    have x6 := kx.cell 6
    have x7 := kx.cell 7
    have x8 := kx.cell 8
    have x9 := kx.cell 9
    have x10 := kx.cell 10
    have x11 := kx.cell 11
    have x12 := kx.cell 12
    have x13 := kx.cell 13
    simp at x3 x4 x5 x6 x7 x8 x9 x10 x11 x12 x13
    have hxs := kx.lt
    have HIL := Lib.hid (hil.keep b3)
    have HID := Lib.hid (hid.keep b3)
    clear kx c0 c1 c2 c3 c4 c5 c6 c7 c8 c9 c10 c11 c12 c13 hil hid
    by_cases hU : grpU M x = true
    · have f1 := hU
      simp only [grpU, Bool.and_eq_true, Bool.not_eq_true'] at f1
      obtain ⟨⟨⟨⟨f1, f2⟩, f3⟩, f4⟩, f5⟩ := f1
      have f5' : ((x.shelves.length : Int) != (M.cpus.length : Int)) = false := by rw [bne, f5]; rfl
      have HU := Lib.hid hU
      clear hU f5
      by_cases h0 : k = 0
      · by_cases hR : grpR x = true
        · have f7 := hR
          simp only [grpR, Bool.and_eq_true] at f7
          obtain ⟨⟨f7, f8⟩, f9⟩ := f7
          have f7' : (x.weight != 10) = false := by rw [bne, f7]; rfl
          have f8' : (x.cpus != 15) = false := by rw [bne, f8]; rfl
          have f9' : (x.band.quota != 0) = false := by rw [bne, f9]; rfl
          have hke : ((k : Int) == 0) = true := by simpa using h0
          have HR := Lib.hid hR
          have GN := Lib.hid (show groupB M k = (grpU M x && true && grpQ M x) by rw [GN.out, hR]; simp)
          clear hR f7 f8 f9 h0
          go_upto_region 8 with (first | (go_at_call 87; refine (sl1Weight_any _ _).mono ?_; rintro e w' ⟨rfl, rfl⟩; rw [f1]) | (go_at_call 88; refine (sMaskOk_any _ _).mono ?_; rintro e w' ⟨rfl, rfl⟩; rw [f2]) | (go_at_call 89; refine (sl4Time_any _ _).mono ?_; rintro e w' ⟨rfl, rfl⟩; rw [f4]))
          by_cases hq : x.band.quota = 0
          · have GQ := Lib.hid (show grpQ M x = (noBand x.band && (x.period == 0) && (x.next == 0)) by rw [grpQ, if_pos hq])
            have hq' : (x.band.quota == 0) = true := by simpa using hq
            clear hq
            go_wp2_with (go_at_call 86; refine (sl8NoBand_any x.band (gh k) _).mono ?_; rintro e w2 ⟨rfl, hb2⟩; have z5 := (hb2.cell (p := ⟨w.heap.size + 1, 5, none⟩) hxs).trans x5; have z6 := (hb2.cell (p := ⟨w.heap.size + 1, 6, none⟩) hxs).trans x6; have z11 := (hb2.cell (p := ⟨w.heap.size + 1, 11, none⟩) hxs).trans x11; have p1 := (hb2.cell (p := ⟨w.heap.size, 0, none⟩) q0).trans q1; have p2 := (hb2.cell (p := ⟨w.heap.size, 1, none⟩) q0).trans q2)
            all_goals go_ret
            all_goals exact ⟨ret_bool (by rw [GN.out, HU.out, GQ.out]; first | (simp [*]; done) | (simp [*]; intro hlt; omega)), b3.andThen hb2⟩
          · have GQ := Lib.hid (show grpQ M x = (bandB x.band && ((x.band.locals.length : Int) == M.cpus.length) && inR x.period 1 1000 && decide (M.now < x.next) && decide (wrap64 (x.next - M.now) ≤ x.period)) by rw [grpQ, if_neg hq])
            have hq' : (x.band.quota == 0) = false := by simpa using hq
            clear hq
            go_wp2_with (first | (go_at_call 90; refine (sBandOk_any x.band (gh k) _ HIL.out HID.out fl).mono ?_; rintro e w2 ⟨rfl, hb2⟩; have z5 := (hb2.cell (p := ⟨w.heap.size + 1, 5, none⟩) hxs).trans x5; have z6 := (hb2.cell (p := ⟨w.heap.size + 1, 6, none⟩) hxs).trans x6; have z11 := (hb2.cell (p := ⟨w.heap.size + 1, 11, none⟩) hxs).trans x11; have p1 := (hb2.cell (p := ⟨w.heap.size, 0, none⟩) q0).trans q1; have p2 := (hb2.cell (p := ⟨w.heap.size, 1, none⟩) q0).trans q2) | (go_at_call 27; refine (sl1In_any _ _ _ _).mono ?_; rintro e w' ⟨rfl, rfl⟩))
            all_goals go_ret
            all_goals exact ⟨ret_bool (by rw [GN.out, HU.out, GQ.out]; first | (simp [*]; done) | (simp [*]; intro hlt; omega)), b3.andThen hb2⟩
        · have HR := Lib.hid (show grpR x = false by simpa using hR)
          have hke : ((k : Int) == 0) = true := by simpa using h0
          have GF := Lib.hid (show groupB M k = false by rw [GN.out, HR.out]; simp [h0])
          clear hR h0
          go_upto_region 8 with (first | (go_at_call 87; refine (sl1Weight_any _ _).mono ?_; rintro e w' ⟨rfl, rfl⟩; rw [f1]) | (go_at_call 88; refine (sMaskOk_any _ _).mono ?_; rintro e w' ⟨rfl, rfl⟩; rw [f2]) | (go_at_call 89; refine (sl4Time_any _ _).mono ?_; rintro e w' ⟨rfl, rfl⟩; rw [f4]))
          all_goals first
            | (go_ret; exact ⟨ret_bool GF.out.symm, b3⟩)
            | exact absurd HR.out (by simp_all [grpR])
      · have hke : ((k : Int) == 0) = false := by simpa using h0
        have GN := Lib.hid (show groupB M k = (grpU M x && true && grpQ M x) by rw [GN.out]; simp [h0])
        clear h0
        go_upto_region 8 with (first | (go_at_call 87; refine (sl1Weight_any _ _).mono ?_; rintro e w' ⟨rfl, rfl⟩; rw [f1]) | (go_at_call 88; refine (sMaskOk_any _ _).mono ?_; rintro e w' ⟨rfl, rfl⟩; rw [f2]) | (go_at_call 89; refine (sl4Time_any _ _).mono ?_; rintro e w' ⟨rfl, rfl⟩; rw [f4]))
        by_cases hq : x.band.quota = 0
        · have GQ := Lib.hid (show grpQ M x = (noBand x.band && (x.period == 0) && (x.next == 0)) by rw [grpQ, if_pos hq])
          have hq' : (x.band.quota == 0) = true := by simpa using hq
          clear hq
          go_wp2_with (go_at_call 86; refine (sl8NoBand_any x.band (gh k) _).mono ?_; rintro e w2 ⟨rfl, hb2⟩; have z5 := (hb2.cell (p := ⟨w.heap.size + 1, 5, none⟩) hxs).trans x5; have z6 := (hb2.cell (p := ⟨w.heap.size + 1, 6, none⟩) hxs).trans x6; have z11 := (hb2.cell (p := ⟨w.heap.size + 1, 11, none⟩) hxs).trans x11; have p1 := (hb2.cell (p := ⟨w.heap.size, 0, none⟩) q0).trans q1; have p2 := (hb2.cell (p := ⟨w.heap.size, 1, none⟩) q0).trans q2)
          all_goals go_ret
          all_goals exact ⟨ret_bool (by rw [GN.out, HU.out, GQ.out]; first | (simp [*]; done) | (simp [*]; intro hlt; omega)), b3.andThen hb2⟩
        · have GQ := Lib.hid (show grpQ M x = (bandB x.band && ((x.band.locals.length : Int) == M.cpus.length) && inR x.period 1 1000 && decide (M.now < x.next) && decide (wrap64 (x.next - M.now) ≤ x.period)) by rw [grpQ, if_neg hq])
          have hq' : (x.band.quota == 0) = false := by simpa using hq
          clear hq
          go_wp2_with (first | (go_at_call 90; refine (sBandOk_any x.band (gh k) _ HIL.out HID.out fl).mono ?_; rintro e w2 ⟨rfl, hb2⟩; have z5 := (hb2.cell (p := ⟨w.heap.size + 1, 5, none⟩) hxs).trans x5; have z6 := (hb2.cell (p := ⟨w.heap.size + 1, 6, none⟩) hxs).trans x6; have z11 := (hb2.cell (p := ⟨w.heap.size + 1, 11, none⟩) hxs).trans x11; have p1 := (hb2.cell (p := ⟨w.heap.size, 0, none⟩) q0).trans q1; have p2 := (hb2.cell (p := ⟨w.heap.size, 1, none⟩) q0).trans q2) | (go_at_call 27; refine (sl1In_any _ _ _ _).mono ?_; rintro e w' ⟨rfl, rfl⟩))
          all_goals go_ret
          all_goals exact ⟨ret_bool (by rw [GN.out, HU.out, GQ.out]; first | (simp [*]; done) | (simp [*]; intro hlt; omega)), b3.andThen hb2⟩
    · have HU := Lib.hid (show grpU M x = false by simpa using hU)
      have GF := Lib.hid (show groupB M k = false by rw [GN.out, HU.out]; rfl)
      clear hU
      go_upto_region 6 with (first | (go_at_call 87; refine (sl1Weight_any _ _).mono ?_; rintro e w' ⟨rfl, rfl⟩) | (go_at_call 88; refine (sMaskOk_any _ _).mono ?_; rintro e w' ⟨rfl, rfl⟩) | (go_at_call 89; refine (sl4Time_any _ _).mono ?_; rintro e w' ⟨rfl, rfl⟩))
      all_goals first
        | (go_ret; exact ⟨ret_bool GF.out.symm, b3⟩)
        | exact absurd HU.out (by simp_all [grpU])
  · have GN := Lib.hid (show groupB M k = grpZ x by rw [groupB, HX.out, if_neg hu])
    have hu' : x.used = false := by simpa using hu
    rw [hu'] at c0
    clear hu hu'
    go_enter Tryz.func58, Tryz.ntmps58
    go_wp2_with (go_at_call 86; refine (sl8NoBand_any x.band (gh k) _).mono ?_; rintro e w2 ⟨rfl, hb2⟩)
    all_goals go_ret
    all_goals first
      | exact ⟨ret_bool (by rw [GN.out]; simp [grpZ, *]), ((Below.refl _ _).alloc (Nat.le_refl _) _).alloc (by simp) _⟩
      | exact ⟨ret_bool (by rw [GN.out]; simp [grpZ, *]), (((Below.refl _ _).alloc (Nat.le_refl _) _).alloc (by simp) _).andThen hb2⟩
end
end Go.Proofs.YtomllcclallcdaaGreatDoor
namespace Go.Proofs.YtomllcclallcdaaGreatDoor
section
open Go.RowKit Go.Sort
theorem timeB_bd {n : Int} (h : timeB n = true) : 0 ≤ n ∧ n ≤ 100000000000000000 := inR_iff.1 h
theorem taskB_bd {M : WorldM} {t : Nat} (h : taskB M t = true) (h0 : (tsk M t).st ≠ 0) : 0 ≤ (tsk M t).v ∧ (tsk M t).v ≤ 100000000000000000 ∧ 0 ≤ (tsk M t).sum ∧ (tsk M t).sum ≤ 100000000000000000 := by
  rw [taskB, if_neg h0] at h
  simp only [Bool.and_eq_true, taskB2] at h
  have h1 := timeB_bd h.1.2.1.1.1.1
  have h2 := timeB_bd h.1.2.1.1.1.2
  omega
theorem taskB_gr {M : WorldM} {t : Nat} (hT : Tree M) (hc : M.cpus.length ≤ 4) (h : taskB M t = true) (h0 : (tsk M t).st ≠ 0) :
    ∃ g c : Nat, (tsk M t).gr = g ∧ g < 8 ∧ (grp M g).used = true ∧ (tsk M t).cpu = c ∧ c < M.cpus.length := by
  rw [taskB, if_neg h0] at h
  simp only [Bool.and_eq_true, taskB1, taskB2, usedI, decide_eq_true_eq] at h
  obtain ⟨⟨⟨⟨⟨⟨_, ⟨u1, u2⟩, u3⟩, _⟩, _⟩, _⟩, _, hm⟩, _⟩ := h
  have hw := where_has hc hm
  have hl := hT.len
  exact ⟨(tsk M t).gr.toNat, (tsk M t).cpu.toNat, by omega, by omega, u3, by omega, by omega⟩
theorem shelfB_bd {M : WorldM} {k c : Nat} (h : shelfB M k c = true) : 0 ≤ (she M k c).floor ∧ (she M k c).floor ≤ 100000000000000000 ∧ 0 ≤ (she M k c).v ∧ (she M k c).v ≤ 100000000000000000 ∧ 1 ≤ (she M k c).w ∧ (she M k c).w ≤ 20 := by
  simp only [shelfB, Bool.and_eq_true, shelfB1, inR_iff] at h
  have h1 := timeB_bd h.1.1.1.1
  have h2 := timeB_bd h.1.1.1.2
  have h3 := h.1.2
  omega
set_option maxRecDepth 100000 in
set_option maxHeartbeats 2000000 in
theorem sl8Stayed_any (ca : Option Addr) (cc : Nat) (ta : Option Addr) (tc : Nat) (ga : Option Addr) (gc : Nat) (gh : Nat → GH) (M : WorldM) (w : World) (hs : WA w ca ta ga gh M) (hT : Tree M) (hG : GOk M) (hSh : ∀ k c, k < 8 → (grp M k).used = true → c < M.cpus.length → shelfB M k c = true) (c t g : Nat) (hc : c < M.cpus.length)
    (hcur : (cpo M c).cur = t) (ht : t < M.tasks.length) (hgr : (tsk M t).gr = g) (hg : g < 8) (hu : (grp M g).used = true) (hv0 : 0 ≤ (tsk M t).v) (hv1 : (tsk M t).v ≤ 100000000000000000) :
    Calls Tryz.prog 98 #[.agg #[.int .i64 M.now, .slice ca M.cpus.length cc, .slice ta M.tasks.length tc, .slice ga M.groups.length gc], .int .i64 c] w fun e w' => e = .returned (.bool (stayB M c)) ∧ Below w.heap.size w w' := by
  have SN := Lib.hid (show stayB M c = (stayT M c (tsk M t) && (ch M g).all (stayG M c)) by rw [stayB, hcur, Int.toNat_natCast, hgr, Int.toNat_natCast])
  have ST := Lib.hid (show stayT M c (tsk M t) = decide ((tsk M t).v - (she M g c).floor ≤ vstep (cpo M c).ran (wof (tsk M t).nice)) by rw [stayT, hgr, Int.toNat_natCast])
  have HL := Lib.hid hT.len
  have hlg : g < M.groups.length := by have := HL.out; omega
  have hcs : c < (grp M g).shelves.length := by rw [hG.she g hg hu]; exact hc
  have hsb := shelfB_bd (hSh g c hg hu hc)
  obtain ⟨b, o, rfl, hB, c0, c1, c2, c3, c4⟩ := hs.cpu_ hc
  obtain ⟨b2, o2, rfl, hB2, d0, d1, d2, d3, d4, d5, d6, d7, d8⟩ := hs.task_ ht
  rw [hcur] at c1
  rw [hgr] at d1
  have HU := Lib.hid hu
  have HSH := Lib.hid hSh
  clear hcur hgr hu hSh
  go_enter Tryz.func98, Tryz.ntmps98
  go_upto_region 3 with (fail)
  refine PA.gen (P := fun W => Code.wp _ _ _ _ ((W.alloc _).alloc _)) hs ?_
  intro W0 b1 s1 pw0
  refine gen2 (p := fun W => Code.wp _ _ _ _ W) ?_
  intro W bb2 s2 kc kt
  have pw := pw0.keep bb2
  obtain ⟨q0, q1, q2, q3, q4, q5⟩ := pw
  have b3 := b1.andThen bb2
  rw [s1] at kc kt
  have x2 := kc.cell 2
  have t1 := kt.cell 1
  have t3 := kt.cell 3
  have t5 := kt.cell 5
  simp at x2 t1 t3 t5
  have hxs := kt.lt
  have hys : w.heap.size + 1 < W.heap.size := by omega
  clear kc kt c0 c1 c2 c3 c4 d0 d1 d2 d3 d4 d5 d6 d7 d8
  obtain ⟨b4, o4, rfl, hB4, f0, f1, f2, f3, f4, f5, f6, f7, f8, f9, f10, f11, f12, f13⟩ := q5.group_ hlg
  obtain ⟨b5, o5, e5, hB5, k0, k1⟩ := q5.shelf_ hlg hcs
  rw [e5] at f13
  clear f0 f1 f2 f3 f4 f5 f6 f7 f8 f9 f10 f11 f12 e5 k1
  go_quiet (first | (go_at_call 91; exact quiet_left (sWeightOf_any _ _)) | (go_at_call 140; exact quiet_left (sVirtualStep_any _ _ _)))
  have hb6 : Below W.heap.size W (W.drewN nq) := (Below.refl _ _).drewN nq
  generalize W.drewN nq = W2 at *
  have y2 := (hb6.cell (p := ⟨w.heap.size + 1, 2, none⟩) hys).trans x2
  have y1 := (hb6.cell (p := ⟨w.heap.size + 1 + 1, 1, none⟩) hxs).trans t1
  have hys2 : w.heap.size + 1 < W2.heap.size := Nat.lt_of_lt_of_le hys hb6.size
  have pw2 : PA W2 w.heap.size (some ⟨b, o, none⟩) cc (some ⟨b2, o2, none⟩) tc (some ⟨b4, o4, none⟩) gc gh M := PA.keep ⟨q0, q1, q2, q3, q4, q5⟩ hb6
  have b7 := b3.andThen hb6
  clear q0 q1 q2 q3 q4 f13 k0
  by_cases hle : (tsk M t).v - (she M g c).floor ≤ vstep (cpo M c).ran (wof (tsk M t).nice)
  · have SN2 := Lib.hid (show stayB M c = (ch M g).all (stayG M c) by rw [SN.out, ST.out, decide_eq_true hle]; rfl)
    go_wp2
    go_loopw [4, 7, 8] (fun r i u wr => ∃ k : Nat, k < 8 ∧ (grp M k).used = true ∧ i = .int .i64 k ∧ r = .bool false ∧ (ch M k).all (stayG M c) = (ch M g).all (stayG M c) ∧ Below W2.heap.size W2 wr) (fun _ i _ _ => dp M (intOf i).toNat)
    case atStart => exact ⟨g, hg, HU.out, rfl, rfl, rfl, Below.refl _ _⟩
    case round =>
      obtain ⟨k, hk, huk, rfl, rfl, hon, hb⟩ := hrel
      have HUK := Lib.hid huk
      have HO := Lib.hid hon
      have z2 := (hb.cell (p := ⟨w.heap.size + 1, 2, none⟩) hys2).trans y2
      have pw3 := pw2.keep hb
      have hb8 := b7.andThen hb
      by_cases h0 : k = 0
      · subst h0
        clear hon huk
        go_wp2
        go_ret
        exact ⟨ret_bool (by rw [SN2.out, ← HO.out, ch_zero]; rfl), hb8⟩
      · obtain ⟨hp1, hp2, hp3, hp4⟩ := hT.up k hk huk h0
        have hst := Lib.hid (hT.ch_step hk huk h0)
        have hlk : k < M.groups.length := by have := HL.out; omega
        have hlp : par M k < M.groups.length := by have := HL.out; omega
        have hck : c < (grp M k).shelves.length := by rw [hG.she k hk huk]; exact hc
        have hcp : c < (grp M (par M k)).shelves.length := by rw [hG.she _ hp2 hp3]; exact hc
        have sb1 := shelfB_bd (HSH.out k c hk huk hc)
        have sb2 := shelfB_bd (HSH.out (par M k) c hp2 hp3 hc)
        have hne : ((k : Int) == 0) = false := by simpa using h0
        have hne2 : ((k : Int) != 0) = true := by simpa using h0
        obtain ⟨p0, p1, p2, p3, p4, p5⟩ := pw3
        obtain ⟨b8, o8, e8, hB8, f0, f1, f2, f3, f4, f5, f6, f7, f8, f9, f10, f11, f12, f13⟩ := p5.group_ hlk
        have e9 : b8 = b4 ∧ o8 = o4 := by simpa [eq_comm] using e8
        obtain ⟨rfl, rfl⟩ := e9
        obtain ⟨b9, o9, e10, hB9, k0, k1, k2, k3, k4⟩ := p5.shelf_ hlk hck
        rw [e10] at f13
        rw [hp1] at f1
        obtain ⟨b11, o11, e11, hB11, g0, g1, g2, g3, g4, g5, g6, g7, g8, g9, g10, g11, g12, g13⟩ := p5.group_ hlp
        have e12 : b11 = b8 ∧ o11 = o8 := by simpa [eq_comm] using e11
        obtain ⟨rfl, rfl⟩ := e12
        obtain ⟨b13, o13, e13, hB13, l0, l1⟩ := p5.shelf_ hlp hcp
        rw [e13] at g13
        have HP3 := Lib.hid hp3
        have HP4 := Lib.hid hp4
        have SG := Lib.hid (show stayG M c k = decide ((she M k c).v - (she M (par M k) c).floor ≤ vstep (cpo M c).ran (she M k c).w) by rw [stayG, show (k == 0) = false by simpa using h0]; rfl)
        clear e8 e10 e11 e13 hp1 hp3 hp4 hon huk h0 f0 f2 f3 f4 f5 f6 f7 f8 f9 f10 f11 f12 g0 g1 g2 g3 g4 g5 g6 g7 g8 g9 g10 g11 g12 l1
        have hysr : w.heap.size + 1 < wr.heap.size := Nat.lt_of_lt_of_le hys2 hb.size
        go_wp2_with fail
        go_quiet ((go_at_call 140; exact quiet_left (sVirtualStep_any _ _ _)))
        by_cases hst2 : (she M k c).v - (she M (par M k) c).floor ≤ vstep (cpo M c).ran (she M k c).w
        · go_wp2
          go_roundw
          case rel => exact ⟨par M k, hp2, HP3.out, rfl, rfl, by rw [← HO.out, hst.out, List.all_cons, SG.out, decide_eq_true hst2]; rfl, (hb.alloc hb.size _).drewN _⟩
          case measure => simp [intOf]; have := HP4.out; omega
        · have hlt2 : vstep (cpo M c).ran (she M k c).w < (she M k c).v - (she M (par M k) c).floor := by omega
          have SF := Lib.hid (show stayB M c = false by rw [SN2.out, ← HO.out, hst.out, List.all_cons, SG.out, decide_eq_false hst2]; rfl)
          clear hst2
          go_wp2
          go_ret
          exact ⟨ret_bool SF.out.symm, b7.andThen ((hb.alloc hb.size _).drewN _)⟩
  · have SN2 := Lib.hid (show stayB M c = false by rw [SN.out, ST.out, decide_eq_false hle]; rfl)
    have hlt : vstep (cpo M c).ran (wof (tsk M t).nice) < (tsk M t).v - (she M g c).floor := by omega
    clear hle
    go_wp2
    go_ret
    exact ⟨ret_bool SN2.out.symm, b7⟩
set_option maxRecDepth 100000 in
set_option maxHeartbeats 2000000 in
theorem sl8CpuOk_any (ca : Option Addr) (cc : Nat) (ta : Option Addr) (tc : Nat) (ga : Option Addr) (gc : Nat) (gh : Nat → GH) (M : WorldM) (w : World) (hs : WA w ca ta ga gh M) (hT : Tree M) (hG : GOk M) (hc4 : M.cpus.length ≤ 4) (htm : M.tasks.length ≤ 1048576) (hTk : ∀ t, t < M.tasks.length → taskB M t = true)
    (hSh : ∀ k c, k < 8 → (grp M k).used = true → c < M.cpus.length → shelfB M k c = true) (c : Nat) (hc : c < M.cpus.length) :
    Calls Tryz.prog 61 #[.agg #[.int .i64 M.now, .slice ca M.cpus.length cc, .slice ta M.tasks.length tc, .slice ga M.groups.length gc], .int .i64 c] w fun e w' => e = .returned (.bool (cpuB M c)) ∧ Below w.heap.size w w' := by
  obtain ⟨b, o, rfl, hB, c0, c1, c2, c3, c4⟩ := hs.cpu_ hc
  go_enter Tryz.func61, Tryz.ntmps61
  go_upto_region 2 with (fail)
  refine PA.gen (P := fun W => Code.wp _ _ _ _ (W.alloc _)) hs ?_
  intro W0 b1 s1 pw0
  refine gen1 (p := fun W => Code.wp _ _ _ _ W) ?_
  intro W bb2 s2 kc
  have pw := pw0.keep bb2
  obtain ⟨q0, q1, q2, q3, q4, q5⟩ := pw
  have b3 := b1.andThen bb2
  rw [s1] at kc
  have x0 := kc.cell 0
  have x1 := kc.cell 1
  have x2 := kc.cell 2
  have x3 := kc.cell 3
  have x4 := kc.cell 4
  simp at x0 x1 x2 x3 x4
  have hxs := kc.lt
  clear kc c0 c1 c2 c3 c4
  have HTK := Lib.hid hTk
  have HSH := Lib.hid hSh
  clear hTk hSh
  by_cases hh : cpuHead M (cpo M c) = true
  · have f1 := hh
    simp only [cpuHead, Bool.and_eq_true] at f1
    obtain ⟨⟨f1, f2⟩, f3⟩ := f1
    obtain ⟨i1, i2⟩ := inR_iff.1 f3
    have HH := Lib.hid hh
    clear hh
    by_cases hneg : (cpo M c).cur < 0
    · have CN := Lib.hid (show cpuB M c = ((cpo M c).ran == 0) by rw [cpuB, HH.out, if_pos hneg]; rfl)
      go_wp2_with (first | (go_at_call 89; refine (sl4Time_any _ _).mono ?_; rintro e w' ⟨rfl, rfl⟩; first | rw [f1] | rw [f2]) | (go_at_call 27; refine (sl1In_any _ _ _ _).mono ?_; rintro e w' ⟨rfl, rfl⟩; rw [f3]))
      go_ret
      exact ⟨ret_bool CN.out.symm, b3⟩
    · obtain ⟨t, ht⟩ : ∃ t : Nat, (cpo M c).cur = t := ⟨(cpo M c).cur.toNat, by omega⟩
      have CN := Lib.hid (show cpuB M c = ((cpo M c).up && inR (cpo M c).ran 1 149 && ((tsk M t).cpu == c) && lineM M t && stayB M c) by rw [cpuB, HH.out, if_neg hneg, ht]; rfl)
      have htl : t < M.tasks.length := by omega
      have HT := Lib.hid ht
      rw [ht] at x1 f3
      clear ht hneg i1 i2
      obtain ⟨b5, o5, rfl, hB5, d0, d1, d2, d3⟩ := q5.task_ htl
      clear d0 d1 d3
      have HLP := Lib.hid (show (tsk M t).st = 1 → ∃ g cp : Nat, (tsk M t).gr = g ∧ g < 8 ∧ (grp M g).used = true ∧ (tsk M t).cpu = cp ∧ cp < M.cpus.length from fun h => taskB_gr hT hc4 (HTK.out t htl) (by rw [h]; decide))
      by_cases hA : ((cpo M c).up && inR (cpo M c).ran 1 149 && ((tsk M t).cpu == c)) = true
      · have a1 := hA
        simp only [Bool.and_eq_true] at a1
        obtain ⟨⟨a1, a2⟩, a3⟩ := a1
        rw [a1] at x0
        have CA := Lib.hid (show cpuB M c = (lineM M t && stayB M c) by rw [CN.out, hA]; rfl)
        have A3 := Lib.hid a3
        clear hA
        by_cases hln : lineM M t = true
        · have hst : (tsk M t).st = 1 := by
            simp only [lineM, Bool.and_eq_true, beq_iff_eq] at hln
            exact hln.1
          obtain ⟨g, cp, hgr, hg8, hgu, hcp, hcpl⟩ := HLP.out hst
          have CB := Lib.hid (show cpuB M c = stayB M c by rw [CA.out, hln]; rfl)
          have hbd := taskB_bd (HTK.out t htl) (by rw [hst]; decide)
          have HLN := Lib.hid hln
          clear hln
          have HHG := Lib.hid hgr
          have HST := Lib.hid hst
          have HCP := Lib.hid hcp
          have HGU := Lib.hid hgu
          clear hgr hst hcp hgu
          go_wp2_with (first | (go_at_call 89; refine (sl4Time_any _ _).mono ?_; rintro e w' ⟨rfl, rfl⟩; first | rw [f1] | rw [f2]) | (go_at_call 27; refine (sl1In_any _ _ _ _).mono ?_; rintro e w' ⟨rfl, rfl⟩; first | rw [a2] | rw [f3]) | (go_at_call 97; refine (sl8InLine_any _ cc _ tc ga gc gh M _ q5 hT hG t g cp htl (fun _ => ⟨HHG.out, hg8, HGU.out, HCP.out, hcpl⟩)).mono ?_; rintro e w3 ⟨rfl, hb3⟩; rw [HLN.out]; have r0 := (hb3.cell (p := ⟨w.heap.size, 0, none⟩) q0).trans q1; have r1 := (hb3.cell (p := ⟨w.heap.size, 1, none⟩) q0).trans q2; have r2 := (hb3.cell (p := ⟨w.heap.size, 2, none⟩) q0).trans q3; have r3 := (hb3.cell (p := ⟨w.heap.size, 3, none⟩) q0).trans q4) | (go_at_call 98; refine (sl8Stayed_any _ cc _ tc ga gc gh M _ (q5.keep hb3) hT hG HSH.out c t g hc HT.out htl HHG.out hg8 HGU.out hbd.1 hbd.2.1).mono ?_; rintro e w4 ⟨rfl, hb4⟩))
          go_ret
          exact ⟨ret_bool CB.out.symm, (b3.andThen hb3).andThen hb4⟩
        · have HLN := Lib.hid (show lineM M t = false by simpa using hln)
          have CB := Lib.hid (show cpuB M c = false by rw [CA.out, HLN.out]; rfl)
          clear hln
          by_cases hst : (tsk M t).st = 1
          · obtain ⟨g, cp, hgr, hg8, hgu, hcp, hcpl⟩ := HLP.out hst
            have HHG := Lib.hid hgr
            have HCP := Lib.hid hcp
            have HGU := Lib.hid hgu
            clear hgr hst hcp hgu
            go_wp2_with (first | (go_at_call 89; refine (sl4Time_any _ _).mono ?_; rintro e w' ⟨rfl, rfl⟩; first | rw [f1] | rw [f2]) | (go_at_call 27; refine (sl1In_any _ _ _ _).mono ?_; rintro e w' ⟨rfl, rfl⟩; first | rw [a2] | rw [f3]) | (go_at_call 97; refine (sl8InLine_any _ cc _ tc ga gc gh M _ q5 hT hG t g cp htl (fun _ => ⟨HHG.out, hg8, HGU.out, HCP.out, hcpl⟩)).mono ?_; rintro e w3 ⟨rfl, hb3⟩; rw [HLN.out]))
            go_ret
            exact ⟨ret_bool CB.out.symm, b3.andThen hb3⟩
          · have HST := Lib.hid hst
            clear hst
            go_wp2_with (first | (go_at_call 89; refine (sl4Time_any _ _).mono ?_; rintro e w' ⟨rfl, rfl⟩; first | rw [f1] | rw [f2]) | (go_at_call 27; refine (sl1In_any _ _ _ _).mono ?_; rintro e w' ⟨rfl, rfl⟩; first | rw [a2] | rw [f3]) | (go_at_call 97; refine (sl8InLine_any _ cc _ tc ga gc gh M _ q5 hT hG t 0 0 htl (fun h => absurd h HST.out)).mono ?_; rintro e w3 ⟨rfl, hb3⟩; rw [HLN.out]))
            go_ret
            exact ⟨ret_bool CB.out.symm, b3.andThen hb3⟩
      · have CF := Lib.hid (show cpuB M c = false by rw [CN.out]; simp only [Bool.not_eq_true] at hA; rw [hA]; rfl)
        have HA := Lib.hid hA
        clear hA
        go_wp2_with (first | (go_at_call 89; refine (sl4Time_any _ _).mono ?_; rintro e w' ⟨rfl, rfl⟩; first | rw [f1] | rw [f2]) | (go_at_call 27; refine (sl1In_any _ _ _ _).mono ?_; rintro e w' ⟨rfl, rfl⟩; try rw [f3]))
        all_goals first
          | (go_ret; exact ⟨ret_bool CF.out.symm, b3⟩)
          | exact absurd (by simp [*]) HA.out
  · have hh' : cpuHead M (cpo M c) = false := by simpa using hh
    have CN := Lib.hid (show cpuB M c = false by rw [cpuB, hh']; rfl)
    have HH := Lib.hid hh'
    clear hh hh'
    go_upto_region 4 with (first | (go_at_call 89; refine (sl4Time_any _ _).mono ?_; rintro e w' ⟨rfl, rfl⟩) | (go_at_call 27; refine (sl1In_any _ _ _ _).mono ?_; rintro e w' ⟨rfl, rfl⟩))
    all_goals first
      | (go_ret; exact ⟨ret_bool CN.out.symm, b3⟩)
      | exact absurd HH.out (by simp_all [cpuHead])
end
end Go.Proofs.YtomllcclallcdaaGreatDoor
namespace Go.Proofs.YtomllcclallcdaaGreatDoor
section
open Go.RowKit Go.Sort
set_option maxHeartbeats 1000000 in
theorem sl6File_any (s : ByteArray) (w : World) :
    Calls Tryz.prog 135 #[.string s] w fun e w' => e = .returned (.bool (fileB s)) ∧ w = w' := by
  go_enter Tryz.func135, Tryz.ntmps135
  go_wp2
  all_goals go_ret
  all_goals exact ⟨ret_bool (by simp [fileB, *]), rfl⟩
set_option maxHeartbeats 1000000 in
theorem sNameOk_any (s : ByteArray) (w : World) (hm : s.size ≤ 1048576) :
    Calls Tryz.prog 84 #[.string s] w fun e w' => e = .returned (.bool (nameB s)) ∧ w = w' := by
  by_cases h1 : inR s.size 1 8 = true
  · by_cases h2 : fileB s = true
    · go_enter Tryz.func84, Tryz.ntmps84
      go_wp2_with (first | (go_at_call 27; refine (sl1In_any _ _ _ _).mono ?_; rintro e w' ⟨rfl, rfl⟩; rw [h1]) | (go_at_call 135; refine (sl6File_any _ _).mono ?_; rintro e w' ⟨rfl, rfl⟩; rw [h2]))
      go_ret
      exact ⟨ret_bool (by rw [nameB, h1, h2]; rfl), rfl⟩
    · have h2' : fileB s = false := by simpa using h2
      have NN := Lib.hid (show nameB s = s.data.toList.all charB by rw [nameB, h1, h2']; rfl)
      go_enter Tryz.func84, Tryz.ntmps84
      go_wp2_with (first | (go_at_call 27; refine (sl1In_any _ _ _ _).mono ?_; rintro e w' ⟨rfl, rfl⟩; rw [h1]) | (go_at_call 135; refine (sl6File_any _ _).mono ?_; rintro e w' ⟨rfl, rfl⟩; rw [h2']))
      go_loop [2, 3] (fun r i => ∃ k : Nat, k ≤ s.size ∧ i = .int .i64 k ∧ r = .bool false ∧ (s.data.toList.take k).all charB = true) (fun _ i => s.size - (intOf i).toNat)
      case atStart => exact ⟨0, by omega, rfl, rfl, by simp⟩
      case round =>
        obtain ⟨k, hk, rfl, rfl, hall⟩ := hrel
        have HA := Lib.hid hall
        clear hall
        by_cases hlt : k < s.size
        · have hlt' : k < s.data.toList.length := by simpa using hlt
          have hsk : s.data.toList[k] = s[k] := by simp [ByteArray.getElem_eq_getElem_data]
          by_cases hz : 97 ≤ (s[k].toNat : Int) ∧ (s[k].toNat : Int) ≤ 122
          · have hcb : charB s[k] = true := by simp only [charB, inR, Bool.or_eq_true, Bool.and_eq_true, decide_eq_true_eq]; omega
            have HCB := Lib.hid hcb
            obtain ⟨z1, z2⟩ := hz
            clear hcb
            go_wp2
            go_round
            case rel => exact ⟨k + 1, by omega, by go_num, rfl, all_snoc hlt' HA.out (by rw [hsk]; exact HCB.out)⟩
            case measure => simp [intOf]; omega
          · by_cases hd : 48 ≤ (s[k].toNat : Int) ∧ (s[k].toNat : Int) ≤ 57
            · have hcb : charB s[k] = true := by simp only [charB, inR, Bool.or_eq_true, Bool.and_eq_true, decide_eq_true_eq]; omega
              have HCB := Lib.hid hcb
              obtain ⟨z1, z2⟩ := hd
              clear hcb hz
              have z3 : (s[k].toNat : Int) < 97 := by omega
              go_wp2
              go_round
              case rel => exact ⟨k + 1, by omega, by go_num, rfl, all_snoc hlt' HA.out (by rw [hsk]; exact HCB.out)⟩
              case measure => simp [intOf]; omega
            · by_cases h3 : (s[k].toNat : Int) < 48
              · have hcb : charB s[k] = false := by simp only [charB, inR, Bool.or_eq_false_iff, Bool.and_eq_false_iff, decide_eq_false_iff_not]; omega
                have HCB := Lib.hid hcb
                clear hcb
                go_wp2
                go_ret
                exact ⟨ret_bool (by rw [NN.out, all_not hlt' (by rw [hsk]; exact HCB.out)]), rfl⟩
              · by_cases h4 : (s[k].toNat : Int) < 97
                · have h9 : decide ((s[k].toNat : Int) ≤ 57) = false := decide_eq_false (by omega)
                  have h5 : 57 < (s[k].toNat : Int) := by omega
                  have h6 : 48 ≤ (s[k].toNat : Int) := by omega
                  have hcb : charB s[k] = false := by simp only [charB, inR, Bool.or_eq_false_iff, Bool.and_eq_false_iff, decide_eq_false_iff_not]; omega
                  have HCB := Lib.hid hcb
                  clear hcb
                  go_wp2
                  go_ret
                  exact ⟨ret_bool (by rw [NN.out, all_not hlt' (by rw [hsk]; exact HCB.out)]), rfl⟩
                · have h9 : decide ((s[k].toNat : Int) ≤ 57) = false := decide_eq_false (by omega)
                  have h10 : decide ((s[k].toNat : Int) ≤ 122) = false := decide_eq_false (by omega)
                  have h5 : 122 < (s[k].toNat : Int) := by omega
                  have h6 : 97 ≤ (s[k].toNat : Int) := by omega
                  have h7 : 48 ≤ (s[k].toNat : Int) := by omega
                  have h8 : 57 < (s[k].toNat : Int) := by omega
                  have hcb : charB s[k] = false := by simp only [charB, inR, Bool.or_eq_false_iff, Bool.and_eq_false_iff, decide_eq_false_iff_not]; omega
                  have HCB := Lib.hid hcb
                  clear hcb
                  go_wp2
                  go_ret
                  exact ⟨ret_bool (by rw [NN.out, all_not hlt' (by rw [hsk]; exact HCB.out)]), rfl⟩
        · go_wp2
          go_ret
          rw [List.take_of_length_le (by simp; omega)] at HA
          exact ⟨ret_bool (by rw [NN.out, HA.out]), rfl⟩
  · have h1' : inR s.size 1 8 = false := by simpa using h1
    go_enter Tryz.func84, Tryz.ntmps84
    go_wp2_with (first | (go_at_call 27; refine (sl1In_any _ _ _ _).mono ?_; rintro e w' ⟨rfl, rfl⟩; rw [h1']))
    go_ret
    exact ⟨ret_bool (by rw [nameB, h1']; rfl), rfl⟩
set_option maxHeartbeats 1000000 in
theorem sl6Depth_any (ca ta ga : Option Addr) (gc : Nat) (gh : Nat → GH) (M : WorldM) (w : World) (hs : WA w ca ta ga gh M) (hlen : M.groups.length ≤ 8) (hge : 8 ≤ M.groups.length) (g : Int) :
    Calls Tryz.prog 85 #[.slice ga M.groups.length gc, .int .i64 g] w fun e w' => e = .returned (.int .i64 (depL M 9 0 g)) ∧ w = w' := by
  obtain ⟨b, o, rfl, hB, c0, c1⟩ := hs.group_ (show 0 < M.groups.length by omega)
  clear c0 c1
  go_enter Tryz.func85, Tryz.ntmps85
  go_wp2
  go_loop [1, 4, 5] (fun i r n => ∃ (k : Nat) (h : Int), k ≤ 9 ∧ n = .int .i64 k ∧ r = .int .i64 0 ∧ i = .int .i64 h ∧ depL M (9 - k) k h = depL M 9 0 g) (fun _ _ n => 9 - (intOf n).toNat)
  case atStart => exact ⟨0, g, by omega, rfl, rfl, rfl, rfl⟩
  case round =>
    obtain ⟨k, h, hk, rfl, rfl, rfl, hd⟩ := hrel
    have HD := Lib.hid hd
    clear hd
    by_cases hlt : k < 9
    · have e9 : 9 - k = (8 - k) + 1 := by omega
      by_cases hu : usedI M h = true
      · have hu' := hu
        simp only [usedI, Bool.and_eq_true, decide_eq_true_eq] at hu'
        obtain ⟨⟨u1, u2⟩, u3⟩ := hu'
        by_cases h0 : h = 0
        · subst h0
          have HV := Lib.hid (show depL M (9 - k) k 0 = k by rw [e9, depL, if_pos hu, if_pos rfl])
          clear u1 u2 u3
          go_wp2_with (go_at_call 55; refine (sl6Used_any ca ta _ gc gh M _ hs _).mono ?_; rintro e w' ⟨rfl, rfl⟩; rw [hu])
          go_ret
          exact ⟨ret_int (by rw [← HD.out, HV.out]), rfl⟩
        · have HV := Lib.hid (show depL M (9 - k) k h = depL M (8 - k) (k + 1) (grp M h.toNat).parent by rw [e9, depL, if_pos hu, if_neg h0])
          have hne : (h == 0) = false := by simpa using h0
          obtain ⟨b2, o2, e2, hB2, d0, d1, d2⟩ := hs.group_ (show h.toNat < M.groups.length by omega)
          have e3 : b2 = b ∧ o2 = o := by simpa [eq_comm] using e2
          obtain ⟨rfl, rfl⟩ := e3
          clear e2 d0 d2 u3 h0
          go_wp2_with (go_at_call 55; refine (sl6Used_any ca ta _ gc gh M _ hs _).mono ?_; rintro e w' ⟨rfl, rfl⟩; rw [hu])
          go_round
          case rel => exact ⟨k + 1, _, by omega, by go_num, rfl, rfl, by rw [← HD.out, HV.out]; congr 1; omega⟩
          case measure => simp [intOf]; omega
      · have hu' : usedI M h = false := by simpa using hu
        have HV := Lib.hid (show depL M (9 - k) k h = -1 by rw [e9, depL, if_neg hu])
        go_wp2_with (go_at_call 55; refine (sl6Used_any ca ta _ gc gh M _ hs _).mono ?_; rintro e w' ⟨rfl, rfl⟩; rw [hu'])
        go_ret
        exact ⟨ret_int (by rw [← HD.out, HV.out]), rfl⟩
    · go_wp2
      go_ret
      exact ⟨ret_int (by rw [← HD.out, show 9 - k = 0 by omega, depL]), rfl⟩
set_option maxRecDepth 100000 in
set_option maxHeartbeats 2000000 in
theorem sTreeOk_any (ca ta ga : Option Addr) (gc : Nat) (gh : Nat → GH) (M : WorldM) (w : World) (hs : WA w ca ta ga gh M) (hgm : M.groups.length ≤ 1048576) (hnm : ∀ k, k < M.groups.length → (grp M k).name.size ≤ 1048576) :
    Calls Tryz.prog 56 #[.slice ga M.groups.length gc] w fun e w' => e = .returned (.bool (treeB M)) ∧ Below w.heap.size w w' := by
  by_cases hlen : M.groups.length = 8
  · have hl1 : M.groups.length ≤ 8 := by omega
    have hl2 : 8 ≤ M.groups.length := by omega
    have HL := Lib.hid hlen
    have HNM := Lib.hid hnm
    clear hnm
    obtain ⟨b, o, rfl, hB, c0, c1, c2, c3⟩ := hs.group_ (show 0 < M.groups.length by omega)
    simp only [Nat.zero_mul, Nat.add_zero] at c0 c1 c2
    have hlb : ((M.groups.length : Int) != 8) = false := by rw [hlen]; rfl
    clear c3 hlen
    by_cases hr : ((grp M 0).used && ((grp M 0).parent == -1) && (grp M 0).name.toList.isEmpty) = true
    · have hr' := hr
      simp only [Bool.and_eq_true] at hr'
      obtain ⟨⟨r1, r2⟩, r3⟩ := hr'
      have TN := Lib.hid (show treeB M = (List.range 8).all (fun g => g == 0 || nodeB M g) by rw [treeB, HL.out, r1, r2, r3]; rfl)
      have r2' : ((grp M 0).parent != -1) = false := by rw [bne, r2]; rfl
      clear hr r2
      go_enter Tryz.func56, Tryz.ntmps56
      go_wp2
      go_loopw [2, 3, 4] (fun r i j wr => ∃ g : Nat, 1 ≤ g ∧ g ≤ 8 ∧ i = .int .i64 g ∧ r = .bool false ∧ (List.range g).all (fun g => g == 0 || nodeB M g) = true ∧ Below w.heap.size w wr) (fun _ i _ _ => 8 - (intOf i).toNat)
      case atStart => exact ⟨1, by omega, by omega, rfl, rfl, rfl, Below.refl _ _⟩
      case round =>
        obtain ⟨g, hg1, hg8, rfl, rfl, hall, hb⟩ := hrel
        have HA := Lib.hid hall
        clear hall
        have q5 := hs.keep hb
        by_cases hlt : g < 8
        · obtain ⟨b2, o2, e2, hB2, d0, d1, d2, d3⟩ := q5.group_ (show g < M.groups.length by omega)
          have e3 : b2 = b ∧ o2 = o := by simpa [eq_comm] using e2
          obtain ⟨rfl, rfl⟩ := e3
          have hg0 : (g == 0) = false := by simp; omega
          have HG0 := Lib.hid hg0
          clear e2 d3 d1 hg0
          by_cases hu : (grp M g).used = true
          · have hnl := HNM.out g (by omega)
            by_cases hnb : nameB (grp M g).name = true
            · have HNB := Lib.hid hnb
              clear hnb
              by_cases hdb : inR (depL M 9 0 g) 1 3 = true
              · have HDB := Lib.hid hdb
                have NG := Lib.hid (show (g == 0 || nodeB M g) = !(List.range g).any (fun h => h != 0 && sameB M g h) by rw [HG0.out, nodeB, hu, HNB.out, hdb]; rfl)
                have HU := Lib.hid hu
                clear hdb
                go_wp2_with (first | (go_at_call 84; refine (sNameOk_any _ _ hnl).mono ?_; rintro e w' ⟨rfl, rfl⟩; rw [HNB.out]) | (go_at_call 85; refine (sl6Depth_any ca ta _ gc gh M _ q5 hl1 hl2 _).mono ?_; rintro e w' ⟨rfl, rfl⟩) | (go_at_call 27; refine (sl1In_any _ _ _ _).mono ?_; rintro e w' ⟨rfl, rfl⟩; rw [HDB.out]))
                clear d0 d2
                obtain ⟨wo, hwo⟩ : ∃ wo : World, wo = wr := ⟨_, rfl⟩
                subst hwo
                go_loopw [2, 4] (fun r j wr2 => ∃ h : Nat, 1 ≤ h ∧ h ≤ g ∧ j = .int .i64 h ∧ r = .bool false ∧ (List.range h).any (fun h => h != 0 && sameB M g h) = false ∧ Below wo.heap.size wo wr2) (fun _ j _ => g - (intOf j).toNat)
                case atStart => exact ⟨1, by omega, by omega, rfl, rfl, rfl, Below.refl _ _⟩
                case round =>
                  obtain ⟨h, hh1, hh2, rfl, rfl, hany, hb2⟩ := hrel
                  have HA2 := Lib.hid hany
                  clear hany
                  by_cases hlh : h < g
                  · have q6 := q5.keep hb2
                    obtain ⟨b3, o3, e3, hB3, f0, f1, f2, f3⟩ := q6.group_ (show h < M.groups.length by omega)
                    have e4 : b3 = b2 ∧ o3 = o2 := by simpa [eq_comm] using e3
                    obtain ⟨rfl, rfl⟩ := e4
                    obtain ⟨b4, o4, e4, hB4, k0, k1, k2, k3⟩ := q6.group_ (show g < M.groups.length by omega)
                    have e5 : b4 = b3 ∧ o4 = o3 := by simpa [eq_comm] using e4
                    obtain ⟨rfl, rfl⟩ := e5
                    rw [HU.out] at k0
                    have hz : h ≠ 0 := by omega
                    clear e3 e4 f3 k0 k3 hu
                    by_cases hu2 : (grp M h).used = true
                    · rw [hu2] at f0
                      by_cases hp : ((grp M h).parent == (grp M g).parent) = true
                      · by_cases hnm : ((grp M h).name.toList == (grp M g).name.toList) = true
                        · have HSM := Lib.hid (show sameB M g h = true by rw [sameB, hu2, hp, hnm]; rfl)
                          clear hu2
                          go_wp2_with fail
                          go_quiet (fail)
                          go_wp2
                          go_ret
                          exact ⟨ret_bool (by rw [TN.out, all_of hlt (by rw [NG.out, any_of hlh (show (h != 0 && sameB M g h) = true by rw [HSM.out]; simpa using hz)]; rfl)]), (hb.trans (hb2.mono hb.size)).drewN _⟩
                        · have hnm' : ((grp M h).name.toList == (grp M g).name.toList) = false := by simpa using hnm
                          have HSM := Lib.hid (show sameB M g h = false by rw [sameB, hu2, hp, hnm']; rfl)
                          clear hu2 hnm
                          go_wp2_with fail
                          go_quiet (fail)
                          go_wp2
                          go_roundw
                          case rel => exact ⟨h + 1, by omega, by omega, by go_num, rfl, by rw [any_succ, HA2.out, HSM.out]; simp, hb2.drewN _⟩
                          case measure => simp [intOf]; omega
                      · have hp' : ((grp M h).parent == (grp M g).parent) = false := by simpa using hp
                        have HSM := Lib.hid (show sameB M g h = false by rw [sameB, hu2, hp']; rfl)
                        clear hu2 hp
                        go_wp2_with fail
                        go_quiet (fail)
                        go_wp2
                        go_roundw
                        case rel => exact ⟨h + 1, by omega, by omega, by go_num, rfl, by rw [any_succ, HA2.out, HSM.out]; simp, hb2.drewN _⟩
                        case measure => simp [intOf]; omega
                    · have hu2' : (grp M h).used = false := by simpa using hu2
                      have HSM := Lib.hid (show sameB M g h = false by rw [sameB, hu2']; rfl)
                      rw [hu2'] at f0
                      clear hu2 hu2'
                      go_wp2_with fail
                      go_quiet (fail)
                      go_wp2
                      go_roundw
                      case rel => exact ⟨h + 1, by omega, by omega, by go_num, rfl, by rw [any_succ, HA2.out, HSM.out]; simp, hb2.drewN _⟩
                      case measure => simp [intOf]; omega
                  · have NG2 := Lib.hid (show (g == 0 || nodeB M g) = true by have e : h = g := (by omega); subst e; rw [NG.out, HA2.out]; rfl)
                    go_wp2
                    go_roundw
                    case rel => exact ⟨g + 1, by omega, by omega, by go_num, rfl, by rw [all_succ, HA.out, NG2.out]; rfl, hb.trans (hb2.mono hb.size)⟩
                    case measure => simp [intOf]; omega
              · have HDB := Lib.hid (show inR (depL M 9 0 g) 1 3 = false by simpa using hdb)
                have NG := Lib.hid (show (g == 0 || nodeB M g) = false by rw [HG0.out, nodeB, hu, HNB.out, HDB.out]; rfl)
                clear hdb
                go_wp2_with (first | (go_at_call 84; refine (sNameOk_any _ _ hnl).mono ?_; rintro e w' ⟨rfl, rfl⟩; rw [HNB.out]) | (go_at_call 85; refine (sl6Depth_any ca ta _ gc gh M _ q5 hl1 hl2 _).mono ?_; rintro e w' ⟨rfl, rfl⟩) | (go_at_call 27; refine (sl1In_any _ _ _ _).mono ?_; rintro e w' ⟨rfl, rfl⟩; rw [HDB.out]))
                go_ret
                exact ⟨ret_bool (by rw [TN.out, all_of hlt NG.out]), hb⟩
            · have HNB := Lib.hid (show nameB (grp M g).name = false by simpa using hnb)
              have NG := Lib.hid (show (g == 0 || nodeB M g) = false by rw [HG0.out, nodeB, hu, HNB.out]; rfl)
              clear hnb
              go_wp2_with (go_at_call 84; refine (sNameOk_any _ _ hnl).mono ?_; rintro e w' ⟨rfl, rfl⟩; rw [HNB.out])
              go_ret
              exact ⟨ret_bool (by rw [TN.out, all_of hlt NG.out]), hb⟩
          · have hu' : (grp M g).used = false := by simpa using hu
            have NG := Lib.hid (show (g == 0 || nodeB M g) = true by rw [nodeB, hu']; simp)
            rw [hu'] at d0
            clear hu hu'
            go_wp2
            go_roundw
            case rel => exact ⟨g + 1, by omega, by omega, by go_num, rfl, by rw [all_succ, HA.out, NG.out]; rfl, hb⟩
            case measure => simp [intOf]; omega
        · go_wp2
          go_ret
          exact ⟨ret_bool (by rw [TN.out, ← show g = 8 by omega, HA.out]), hb⟩
    · have TN := Lib.hid (show treeB M = false by rw [treeB, HL.out]; simp only [Bool.not_eq_true] at hr; rw [show ((8 : Nat) == 8) = true from rfl, Bool.true_and, hr]; rfl)
      have HR := Lib.hid hr
      clear hr
      go_enter Tryz.func56, Tryz.ntmps56
      go_upto_region 3 with (fail)
      all_goals first
        | (go_wp2; go_ret; exact ⟨ret_bool TN.out.symm, Below.refl _ _⟩)
        | exact absurd (show _ = true by simp_all) HR.out
  · have hlb : ((M.groups.length : Int) != 8) = true := by simp; omega
    have TN := Lib.hid (show treeB M = false by rw [treeB, show (M.groups.length == 8) = false by simpa using hlen]; rfl)
    clear hlen
    go_enter Tryz.func56, Tryz.ntmps56
    go_wp2
    go_ret
    exact ⟨ret_bool TN.out.symm, Below.refl _ _⟩
end
end Go.Proofs.YtomllcclallcdaaGreatDoor
namespace Go.Proofs.YtomllcclallcdaaGreatDoor
section
open Go.RowKit Go.Sort
set_option maxRecDepth 100000 in
set_option maxHeartbeats 4000000 in
theorem sWorldOk_any (ca : Option Addr) (cc : Nat) (ta : Option Addr) (tc : Nat) (ga : Option Addr) (gc : Nat) (gh : Nat → GH) (M : WorldM) (w : World) (hs : WA w ca ta ga gh M) (hF : FitG M) :
    Calls Tryz.prog 30 #[.agg #[.int .i64 M.now, .slice ca M.cpus.length cc, .slice ta M.tasks.length tc, .slice ga M.groups.length gc]] w fun e w' => e = .returned (.bool (worldB M)) ∧ Below w.heap.size w w' := by
  go_enter Tryz.func30, Tryz.ntmps30
  go_upto_region 1 with (fail)
  refine PA.gen (P := fun W => Code.wp _ _ _ _ W) hs ?_
  intro W b1 s1 pw
  obtain ⟨q0, q1, q2, q3, q4, q5⟩ := pw
  by_cases hh : worldH M = true
  · have hh2 := hh
    simp only [worldH, Bool.and_eq_true] at hh2
    obtain ⟨⟨⟨⟨h1, h2⟩, h3⟩, h4⟩, h5⟩ := hh2
    have HT := Lib.hid (tree_of h4)
    have hc4 : M.cpus.length ≤ 4 := by have := (inR_iff.1 h2).2; omega
    have h3' : ((M.tasks.length : Int) != 12) = false := by simp at h3; rw [h3]; rfl
    have h5' : (ups M == 0) = false := by simpa using h5
    have WN := Lib.hid (show worldB M = worldL M by rw [worldB, hh]; rfl)
    clear hh h3 h5
    go_wp2_with (first | (go_at_call 27; refine (sl1In_any _ _ _ _).mono ?_; rintro e w' ⟨rfl, rfl⟩; first | rw [h1] | rw [h2]) | (go_at_call 56; refine (sTreeOk_any ca ta ga gc gh M _ q5 hF.group hF.name).mono ?_; rintro e w2 ⟨rfl, hb2⟩; rw [h4]; have r1 := (hb2.cell (p := ⟨w.heap.size, 0, none⟩) q0).trans q1; have r2 := (hb2.cell (p := ⟨w.heap.size, 1, none⟩) q0).trans q2; have r3 := (hb2.cell (p := ⟨w.heap.size, 2, none⟩) q0).trans q3; have r4 := (hb2.cell (p := ⟨w.heap.size, 3, none⟩) q0).trans q4; have r0 := Nat.lt_of_lt_of_le q0 hb2.size) | (go_at_call 57; refine (sl8Ups_any ca cc ta tc ga gc gh M _ (q5.keep hb2) hc4).mono ?_; rintro e w3 ⟨rfl, hb3⟩))
    have b3 := b1.andThen (hb2.andThen hb3)
    have pw3 : PA w3 w.heap.size ca cc ta tc ga gc gh M := PA.keep ⟨q0, q1, q2, q3, q4, q5⟩ (hb2.andThen hb3)
    clear hb3 r0 r1 r2 r3 r4 hb2 q0 q1 q2 q3 q4 q5 b1 s1
    have HL := Lib.hid HT.out.len
    go_loopw [2, 3] (fun r i wr => ∃ k : Nat, k ≤ 8 ∧ i = .int .i64 k ∧ r = .bool false ∧ (List.range k).all (groupB M) = true ∧ Below w3.heap.size w3 wr) (fun _ i _ => 8 - (intOf i).toNat)
    case atStart => exact ⟨0, by omega, rfl, rfl, rfl, Below.refl _ _⟩
    case round =>
      obtain ⟨k, hk, rfl, rfl, hall, hb⟩ := hrel
      have HA := Lib.hid hall
      clear hall
      obtain ⟨q0, q1, q2, q3, q4, q5⟩ := pw3.keep hb
      by_cases hlt : k < 8
      · have hlg : k < M.groups.length := by have := HL.out; omega
        by_cases hgb : groupB M k = true
        · have HGB := Lib.hid hgb
          clear hgb
          go_wp2_with (go_at_call 58; refine (sl8GroupOk_any ca cc ta tc ga gc gh M _ q5 hF k hlg).mono ?_; rintro e w4 ⟨rfl, hb4⟩; rw [HGB.out])
          go_roundw
          case rel => exact ⟨k + 1, by omega, by go_num, rfl, by rw [all_succ, HA.out, HGB.out]; rfl, hb.andThen hb4⟩
          case measure => simp [intOf]; omega
        · have HGB := Lib.hid (show groupB M k = false by simpa using hgb)
          clear hgb
          go_wp2_with (go_at_call 58; refine (sl8GroupOk_any ca cc ta tc ga gc gh M _ q5 hF k hlg).mono ?_; rintro e w4 ⟨rfl, hb4⟩; rw [HGB.out])
          go_ret
          exact ⟨ret_bool (by rw [WN.out, worldL, all_of hlt HGB.out]; rfl), b3.andThen (hb.andThen hb4)⟩
      · have hlg : M.groups.length ≤ k := by have := HL.out; omega
        have hk8 : k = 8 := by omega
        have HGA := Lib.hid (show (List.range 8).all (groupB M) = true by rw [← hk8]; exact HA.out)
        have HG := Lib.hid (gok_of HGA.out)
        have GZ := Lib.hid (gz_of HGA.out)
        go_wp2
        clear HA hk8
        have b5 := b3.andThen hb
        clear hb b3
        have pwr : PA wr w.heap.size ca cc ta tc ga gc gh M := ⟨q0, q1, q2, q3, q4, q5⟩
        clear q0 q1 q2 q3 q4 q5
        obtain ⟨wo, hwo⟩ : ∃ wo : World, wo = wr := ⟨_, rfl⟩
        subst hwo
        go_loopw [2, 4] (fun r i wr => ∃ k : Nat, k ≤ M.tasks.length ∧ i = .int .i64 k ∧ r = .bool false ∧ (List.range k).all (taskB M) = true ∧ Below wo.heap.size wo wr) (fun _ i _ => M.tasks.length - (intOf i).toNat)
        case atStart => exact ⟨0, by omega, rfl, rfl, rfl, Below.refl _ _⟩
        case round =>
          obtain ⟨k, hk, rfl, rfl, hall, hb⟩ := hrel
          have HA := Lib.hid hall
          clear hall
          obtain ⟨q0, q1, q2, q3, q4, q5⟩ := pwr.keep hb
          have htm := hF.task
          by_cases hlt : k < M.tasks.length
          · by_cases hgb : taskB M k = true
            · have HGB := Lib.hid hgb
              clear hgb
              go_wp2_with (go_at_call 59; refine (sl8TaskOk_any ca cc ta tc ga gc gh M _ q5 HT.out HG.out hc4 k hlt).mono ?_; rintro e w4 ⟨rfl, hb4⟩; rw [HGB.out])
              go_roundw
              case rel => exact ⟨k + 1, by omega, by go_num, rfl, by rw [all_succ, HA.out, HGB.out]; rfl, hb.andThen hb4⟩
              case measure => simp [intOf]; omega
            · have HGB := Lib.hid (show taskB M k = false by simpa using hgb)
              clear hgb
              go_wp2_with (go_at_call 59; refine (sl8TaskOk_any ca cc ta tc ga gc gh M _ q5 HT.out HG.out hc4 k hlt).mono ?_; rintro e w4 ⟨rfl, hb4⟩; rw [HGB.out])
              go_ret
              exact ⟨ret_bool (by rw [WN.out, worldL, all_of hlt HGB.out]; simp), b5.andThen (hb.andThen hb4)⟩
          · have hk8 : k = M.tasks.length := by omega
            have HTA := Lib.hid (show (List.range M.tasks.length).all (taskB M) = true by rw [← hk8]; exact HA.out)
            have WN2 := Lib.hid (show worldB M = (shelvesB M && cpusB M) by rw [WN.out, worldL, HGA.out, HTA.out]; rfl)
            have HTM := Lib.hid (show ∀ t, t < M.tasks.length → taskB M t = true from fun t ht => List.all_eq_true.1 HTA.out t (List.mem_range.2 ht))
            go_wp2
            clear HA hk8
            have b7 := b5.andThen hb
            clear hb b5 WN HGA HTA
            have pws : PA wr w.heap.size ca cc ta tc ga gc gh M := ⟨q0, q1, q2, q3, q4, q5⟩
            clear q0 q1 q2 q3 q4 q5 pwr
            obtain ⟨wp, hwp⟩ : ∃ wp : World, wp = wr := ⟨_, rfl⟩
            subst hwp
            go_loopw [2, 5, 6] (fun r i j wr => ∃ k : Nat, k ≤ 8 ∧ i = .int .i64 k ∧ r = .bool false ∧ (List.range k).all (fun g => (List.range (grp M g).shelves.length).all (shelfB M g)) = true ∧ Below wp.heap.size wp wr) (fun _ i _ _ => 8 - (intOf i).toNat)
            case atStart => exact ⟨0, by omega, rfl, rfl, rfl, Below.refl _ _⟩
            case round =>
              obtain ⟨k, hk, rfl, rfl, hall, hb⟩ := hrel
              have HA := Lib.hid hall
              clear hall
              by_cases hlt : k < 8
              · have hlg : k < M.groups.length := by have := HL.out; omega
                have HUS := Lib.hid (show ∀ c, c < (grp M k).shelves.length → (grp M k).used = true ∧ c < M.cpus.length from fun c hc => by
                  have hu : (grp M k).used = true := by
                    cases e : (grp M k).used with
                    | true => rfl
                    | false => rw [GZ.out k hlt e] at hc; omega
                  exact ⟨hu, by rw [← HG.out.she k hlt hu]; exact hc⟩)
                obtain ⟨q0, q1, q2, q3, q4, q5⟩ := pws.keep hb
                go_wp2
                have pwt : PA wr w.heap.size ca cc ta tc ga gc gh M := ⟨q0, q1, q2, q3, q4, q5⟩
                clear q0 q1 q2 q3 q4 q5
                obtain ⟨wq, hwq⟩ : ∃ wq : World, wq = wr := ⟨_, rfl⟩
                subst hwq
                go_loopw [2, 6] (fun r j wr2 => ∃ c : Nat, c ≤ (grp M k).shelves.length ∧ j = .int .i64 c ∧ r = .bool false ∧ (List.range c).all (shelfB M k) = true ∧ Below wq.heap.size wq wr2) (fun _ j _ => (grp M k).shelves.length - (intOf j).toNat)
                case atStart => exact ⟨0, by omega, rfl, rfl, rfl, Below.refl _ _⟩
                case round =>
                  obtain ⟨c, hcl, rfl, rfl, hall, hb2⟩ := hrel
                  have HA2 := Lib.hid hall
                  clear hall
                  obtain ⟨q0, q1, q2, q3, q4, q5⟩ := pwt.keep hb2
                  have q5' := q5
                  obtain ⟨b3, o3, rfl, hB3, f0, f1, f2, f3, f4, f5, f6, f7, f8, f9, f10, f11, f12, f13⟩ := q5.group_ hlg
                  clear f0 f1 f2 f3 f4 f5 f6 f7 f8 f9 f10 f11 f12
                  by_cases hlt2 : c < (grp M k).shelves.length
                  · obtain ⟨hu, hcc⟩ := HUS.out c hlt2
                    have HU := Lib.hid hu
                    clear hu
                    have fsh := hF.she k hlg
                    by_cases hgb : shelfB M k c = true
                    · have HGB := Lib.hid hgb
                      clear hgb
                      go_wp2_with (go_at_call 60; refine (sl8ShelfOk_any ca cc ta tc _ gc gh M _ q5' HT.out HG.out hF.task k c hlt HU.out hcc).mono ?_; rintro e w4 ⟨rfl, hb4⟩; rw [HGB.out])
                      go_roundw
                      case rel => exact ⟨c + 1, by omega, by go_num, rfl, by rw [all_succ, HA2.out, HGB.out]; rfl, hb2.andThen hb4⟩
                      case measure => simp [intOf]; omega
                    · have HGB := Lib.hid (show shelfB M k c = false by simpa using hgb)
                      clear hgb
                      go_wp2_with (go_at_call 60; refine (sl8ShelfOk_any ca cc ta tc _ gc gh M _ q5' HT.out HG.out hF.task k c hlt HU.out hcc).mono ?_; rintro e w4 ⟨rfl, hb4⟩; rw [HGB.out])
                      go_ret
                      exact ⟨ret_bool (by rw [WN2.out, shelvesB, all_of (k := k) hlt (all_of hlt2 HGB.out)]; rfl), b7.andThen (hb.andThen (hb2.andThen hb4))⟩
                  · have hc8 : c = (grp M k).shelves.length := by omega
                    have HSA := Lib.hid (show (List.range (grp M k).shelves.length).all (shelfB M k) = true by rw [← hc8]; exact HA2.out)
                    go_wp2
                    go_roundw
                    case rel => exact ⟨k + 1, by omega, by go_num, rfl, by rw [all_succ, HA.out, HSA.out]; rfl, hb.andThen hb2⟩
                    case measure => simp [intOf]; omega
              · have hlg : M.groups.length ≤ k := by have := HL.out; omega
                have hk8 : k = 8 := by omega
                have HSA := Lib.hid (show shelvesB M = true by rw [shelvesB, ← hk8]; exact HA.out)
                have WN3 := Lib.hid (show worldB M = cpusB M by rw [WN2.out, HSA.out]; rfl)
                have HSM := Lib.hid (show ∀ g c, g < 8 → (grp M g).used = true → c < M.cpus.length → shelfB M g c = true from fun g c hg hu hc =>
                  List.all_eq_true.1 (List.all_eq_true.1 HSA.out g (List.mem_range.2 hg)) c (List.mem_range.2 (by rw [HG.out.she g hg hu]; exact hc)))
                obtain ⟨q0, q1, q2, q3, q4, q5⟩ := pws.keep hb
                go_wp2
                clear HA hk8
                have b9 := b7.andThen hb
                have pwt : PA wr w.heap.size ca cc ta tc ga gc gh M := ⟨q0, q1, q2, q3, q4, q5⟩
                clear q0 q1 q2 q3 q4 q5 hb
                obtain ⟨wq, hwq⟩ : ∃ wq : World, wq = wr := ⟨_, rfl⟩
                subst hwq
                go_loopw [2, 7] (fun r j wr2 => ∃ c : Nat, c ≤ M.cpus.length ∧ j = .int .i64 c ∧ r = .bool false ∧ (List.range c).all (cpuB M) = true ∧ Below wq.heap.size wq wr2) (fun _ j _ => M.cpus.length - (intOf j).toNat)
                case atStart => exact ⟨0, by omega, rfl, rfl, rfl, Below.refl _ _⟩
                case round =>
                  obtain ⟨c, hcl, rfl, rfl, hall, hb2⟩ := hrel
                  have HA2 := Lib.hid hall
                  clear hall
                  obtain ⟨q0, q1, q2, q3, q4, q5⟩ := pwt.keep hb2
                  by_cases hlt2 : c < M.cpus.length
                  · by_cases hgb : cpuB M c = true
                    · have HGB := Lib.hid hgb
                      clear hgb
                      go_wp2_with (go_at_call 61; refine (sl8CpuOk_any ca cc ta tc ga gc gh M _ q5 HT.out HG.out hc4 hF.task HTM.out HSM.out c hlt2).mono ?_; rintro e w4 ⟨rfl, hb4⟩; rw [HGB.out])
                      go_roundw
                      case rel => exact ⟨c + 1, by omega, by go_num, rfl, by rw [all_succ, HA2.out, HGB.out]; rfl, hb2.andThen hb4⟩
                      case measure => simp [intOf]; omega
                    · have HGB := Lib.hid (show cpuB M c = false by simpa using hgb)
                      clear hgb
                      go_wp2_with (go_at_call 61; refine (sl8CpuOk_any ca cc ta tc ga gc gh M _ q5 HT.out HG.out hc4 hF.task HTM.out HSM.out c hlt2).mono ?_; rintro e w4 ⟨rfl, hb4⟩; rw [HGB.out])
                      go_ret
                      exact ⟨ret_bool (by rw [WN3.out, cpusB, all_of hlt2 HGB.out]), b9.andThen (hb2.andThen hb4)⟩
                  · have hc8 : c = M.cpus.length := by omega
                    have HSA2 := Lib.hid (show cpusB M = true by rw [cpusB, ← hc8]; exact HA2.out)
                    go_wp2
                    go_ret
                    exact ⟨ret_bool (by rw [WN3.out, HSA2.out]), b9.andThen hb2⟩
  · have WN := Lib.hid (show worldB M = false by rw [worldB]; simp only [Bool.not_eq_true] at hh; rw [hh]; rfl)
    have HH := Lib.hid hh
    clear hh
    by_cases hA : (inR M.now 0 100000000000000000 && inR M.cpus.length 1 4 && (M.tasks.length == 12)) = true
    · have hA2 := hA
      simp only [Bool.and_eq_true] at hA2
      obtain ⟨⟨h1, h2⟩, h3⟩ := hA2
      have hc4 : M.cpus.length ≤ 4 := by have := (inR_iff.1 h2).2; omega
      have h3' : ((M.tasks.length : Int) != 12) = false := by simp at h3; rw [h3]; rfl
      have HA := Lib.hid hA
      clear hA h3
      by_cases h4 : treeB M = true
      · have h5' : (ups M == 0) = true := by
          cases e : ups M == 0 with
          | true => rfl
          | false => exact absurd (by rw [worldH, HA.out, h4, e]; rfl) HH.out
        have hu0 : ups M = 0 := by simpa using h5'
        have HU0 := Lib.hid hu0
        clear hu0 h5'
        go_wp2_with (first | (go_at_call 27; refine (sl1In_any _ _ _ _).mono ?_; rintro e w' ⟨rfl, rfl⟩; first | rw [h1] | rw [h2]) | (go_at_call 56; refine (sTreeOk_any ca ta ga gc gh M _ q5 hF.group hF.name).mono ?_; rintro e w2 ⟨rfl, hb2⟩; rw [h4]; have r1 := (hb2.cell (p := ⟨w.heap.size, 0, none⟩) q0).trans q1; have r2 := (hb2.cell (p := ⟨w.heap.size, 1, none⟩) q0).trans q2; have r3 := (hb2.cell (p := ⟨w.heap.size, 2, none⟩) q0).trans q3; have r4 := (hb2.cell (p := ⟨w.heap.size, 3, none⟩) q0).trans q4; have r0 := Nat.lt_of_lt_of_le q0 hb2.size) | (go_at_call 57; refine (sl8Ups_any ca cc ta tc ga gc gh M _ (q5.keep hb2) hc4).mono ?_; rintro e w3 ⟨rfl, hb3⟩; rw [HU0.out]))
        go_ret
        exact ⟨ret_bool WN.out.symm, b1.andThen (hb2.andThen hb3)⟩
      · have h4' : treeB M = false := by simpa using h4
        clear h4
        go_wp2_with (first | (go_at_call 27; refine (sl1In_any _ _ _ _).mono ?_; rintro e w' ⟨rfl, rfl⟩; first | rw [h1] | rw [h2]) | (go_at_call 56; refine (sTreeOk_any ca ta ga gc gh M _ q5 hF.group hF.name).mono ?_; rintro e w2 ⟨rfl, hb2⟩; rw [h4']))
        go_ret
        exact ⟨ret_bool WN.out.symm, b1.andThen hb2⟩
    · by_cases h1 : inR M.now 0 100000000000000000 = true
      · by_cases h2 : inR M.cpus.length 1 4 = true
        · have h3' : ((M.tasks.length : Int) != 12) = true := by
            simp only [h1, h2, Bool.true_and, beq_iff_eq] at hA
            simp
            omega
          clear hA
          go_wp2_with (go_at_call 27; refine (sl1In_any _ _ _ _).mono ?_; rintro e w' ⟨rfl, rfl⟩; first | rw [h1] | rw [h2])
          go_ret
          exact ⟨ret_bool WN.out.symm, b1⟩
        · have h2' : inR M.cpus.length 1 4 = false := by simpa using h2
          clear hA h2
          go_wp2_with (go_at_call 27; refine (sl1In_any _ _ _ _).mono ?_; rintro e w' ⟨rfl, rfl⟩; first | rw [h1] | rw [h2'])
          go_ret
          exact ⟨ret_bool WN.out.symm, b1⟩
      · have h1' : inR M.now 0 100000000000000000 = false := by simpa using h1
        clear hA h1
        go_wp2_with (go_at_call 27; refine (sl1In_any _ _ _ _).mono ?_; rintro e w' ⟨rfl, rfl⟩; rw [h1'])
        go_ret
        exact ⟨ret_bool WN.out.symm, b1⟩
end
end Go.Proofs.YtomllcclallcdaaGreatDoor
