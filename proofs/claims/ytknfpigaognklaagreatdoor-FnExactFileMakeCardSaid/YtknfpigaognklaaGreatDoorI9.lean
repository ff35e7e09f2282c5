/- The program's own test of the processors of a world. -/
import Derived.Test.YtknfpigaognklaaGreatDoorI8
import Derived.IntWalk
namespace Go.Proofs.YtknfpigaognklaaGreatDoor
open Go.RowKit Go.Sort
/-- the program's test of a processor -/
def cpuI (M : WorldM) (c : Nat) : Bool := [(cpo M c).busy, (cpo M c).idle].all timeB && ((((cpo M c).cur == -1) && ((cpo M c).ran == 0)) ||
  ((cpo M c).up && taskIn M (cpo M c).cur && lineI M (cpo M c).cur.toNat c && inR (cpo M c).ran 1 149 && stayB M c))
def cpusI (M : WorldM) : Bool := (List.range M.cpus.length).all (cpuI M)
/-- what the earlier tests have shown -/
structure Ear (M : WorldM) : Prop where
  gr : ∀ t, t < M.tasks.length → (tsk M t).st = 1 → ∃ g : Nat, (tsk M t).gr = g ∧ g < 8 ∧ (grp M g).used = true
  v : ∀ t, t < M.tasks.length → 0 ≤ (tsk M t).v ∧ (tsk M t).v ≤ 100000000000000000
  sv : ∀ g c, g < 8 → c < (grp M g).shelves.length → 0 ≤ (she M g c).v ∧ (she M g c).v ≤ 100000000000000000
  sf : ∀ g c, g < 8 → c < (grp M g).shelves.length → 0 ≤ (she M g c).floor ∧ (she M g c).floor ≤ 100000000000000000
set_option maxRecDepth 100000 in
set_option maxHeartbeats 4000000 in
theorem iCpusOk_any (p : Nat) (ca : Option Addr) (cc : Nat) (ta : Option Addr) (tc : Nat) (ga : Option Addr) (gc : Nat) (gh : Nat → GH) (M : WorldM) (w : World) (hs : PA w p ca cc ta tc ga gc gh M) (hF : FitG M) (hT : Tree M) (hG : GOk M) (hE : Ear M) :
    Calls Tryz.prog 78 #[.pointer (some ⟨p, 0, none⟩)] w fun e w' => e = .returned (.bool (cpusI M)) ∧ Below w.heap.size w w' := by
  have HL := Lib.hid hT.len
  have hcm := hF.cpu
  have htm := hF.task
  clear hF
  have pw := hs
  obtain ⟨q0, q1, q2, q3, q4, q5⟩ := hs
  go_enter Tryz.func78, Tryz.ntmps78
  go_wp2
  clear q0 q1 q2 q3 q4 q5
  go_loopw [3, 4, 5, 6, 7, 8, 14] (fun _ _ _ _ _ _ i wr => ∃ k : Nat, k ≤ M.cpus.length ∧ i = .int .i64 k ∧ (List.range k).all (cpuI M) = true ∧ Below w.heap.size w wr) (fun _ _ _ _ _ _ i _ => M.cpus.length - (intOf i).toNat)
  case atStart => exact ⟨0, by omega, rfl, rfl, Below.refl _ _⟩
  case round =>
    obtain ⟨k, hk, rfl, hall, hb⟩ := hrel
    have HA := Lib.hid hall
    clear hall
    have pw2 := pw.keep hb
    by_cases hlt : k < M.cpus.length
    · have q5 := pw2.wa
      obtain ⟨b, o, rfl, hB, c0, c1, c2, c3, c4⟩ := q5.cpu_ hlt
      obtain ⟨x, hX⟩ : ∃ x, cpo M k = x := ⟨_, rfl⟩
      rw [hX] at c0 c1 c2 c3 c4
      have HX := Lib.hid hX
      clear hX
      go_upto_region 4 with (fail)
      refine gen1 (p := fun W => Code.wp _ _ _ _ W) ?_
      intro W b2 s2 kx
      have b3 := hb.andThen b2
      have x0 := kx.cell 0
      have x1 := kx.cell 1
      have x2 := kx.cell 2
      have x3 := kx.cell 3
      have x4 := kx.cell 4
      simp at x0 x1 x2 x3 x4
      have hxl := kx.lt
      have pw3 := pw2.keep b2
      clear s2 kx c0 c1 c2 c3 c4 pw2 q5
      by_cases f1 : [x.busy, x.idle].all timeB = true
      · have F1 := Lib.hid f1
        clear f1
        have CN := Lib.hid (show cpuI M k = (((x.cur == -1) && (x.ran == 0)) || (x.up && taskIn M x.cur && lineI M x.cur.toNat k && inR x.ran 1 149 && stayB M k)) by rw [cpuI, HX.out, F1.out]; rfl)
        go_upto_region 6 with (go_at_call 137; refine (iTimeN [x.busy, x.idle] 2 _ _ (IntS.new _ _ _ rfl W) rfl).mono ?_; rintro e w4 ⟨rfl, hb4⟩; rw [F1.out])
        have b4' := ((Below.refl W.heap.size W).alloc (Nat.le_refl _) _).andThen hb4
        have y0 := (b4'.cell (p := ⟨wr.heap.size, 0, none⟩) hxl).trans x0
        have y1 := (b4'.cell (p := ⟨wr.heap.size, 1, none⟩) hxl).trans x1
        have y2 := (b4'.cell (p := ⟨wr.heap.size, 2, none⟩) hxl).trans x2
        have hyl := Nat.lt_of_lt_of_le hxl b4'.size
        have b4 := b3.andThen b4'
        have pw4 := pw3.keep b4'
        clear x0 x1 x2 x3 x4 hxl pw3 b4' hb4
        by_cases hid : x.cur = -1 ∧ x.ran = 0
        · have CT := Lib.hid (show cpuI M k = true by rw [CN.out, hid.1, hid.2]; rfl)
          rw [hid.1] at y1
          rw [hid.2] at y2
          clear hid
          go_wp2
          go_roundw
          case rel => exact ⟨k + 1, by omega, by go_num, by rw [all_succ, HA.out, CT.out]; rfl, b4⟩
          case measure => simp [intOf]; omega
        · have CN2 := Lib.hid (show cpuI M k = (x.up && taskIn M x.cur && lineI M x.cur.toNat k && inR x.ran 1 149 && stayB M k) by
            rw [CN.out, show ((x.cur == -1) && (x.ran == 0)) = false by
              simp only [Bool.and_eq_false_iff, beq_eq_false_iff_ne]
              by_cases h : x.cur = -1
              · exact .inr fun h2 => hid ⟨h, h2⟩
              · exact .inl h]
            rfl)
          have D : Hid ((decide (x.cur = -1) && decide (x.ran = 0)) = false) := Lib.hid (by simpa using hid)
          have hD2 : x.cur = -1 → (x.ran == 0) = false := fun h => by simp only [beq_eq_false_iff_ne]; exact fun h2 => hid ⟨h, h2⟩
          have HD2 := Lib.hid hD2
          clear hid hD2
          by_cases hc1 : x.cur = -1
          · -- nobody is current, and yet has run
            have hr0 := HD2.out hc1
            have CF := Lib.hid (show cpuI M k = false by rw [CN2.out, hc1]; cases x.up <;> rfl)
            rw [hc1] at y1
            clear hc1
            cases hup : x.up with
            | false =>
              rw [hup] at y0
              clear hup
              go_wp2_with (go_at_call 88; refine (iLane_any _ _ _).mono ?_; rintro e w5 ⟨rfl, hb5⟩; have z0 := (hb5.cell (p := ⟨wr.heap.size, 0, none⟩) hyl).trans y0; have hzl := Nat.lt_of_lt_of_le hyl hb5.size)
              go_ret
              exact ⟨ret_bool (by rw [cpusI, all_of hlt CF.out]), (b4.andThen hb5).alloc (b4.andThen hb5).size _⟩
            | true =>
              rw [hup] at y0
              clear hup
              have TI := Lib.hid (show taskIn M (-1) = false from rfl)
              go_upto_region 8 with (go_at_call 88; refine (iLane_any _ _ _).mono ?_; rintro e w5 ⟨rfl, hb5⟩)
              refine gen1 (p := fun W => Code.wp _ _ _ _ W) ?_
              intro W6 b6 s6 kx
              have b6' := hb5.andThen b6
              have z0 := (b6'.cell (p := ⟨wr.heap.size, 0, none⟩) hyl).trans y0
              have z1 := (b6'.cell (p := ⟨wr.heap.size, 1, none⟩) hyl).trans y1
              have pw6 := pw4.keep b6'
              clear y0 y1 y2 kx s6
              go_wp2_with (go_at_call 153; refine (iTaskThere_any p _ cc ta tc ga gc gh M _ pw6 htm _).mono ?_; rintro e w' ⟨rfl, rfl⟩; rw [TI.out])
              go_ret
              exact ⟨ret_bool (by rw [cpusI, all_of hlt CF.out]), b4.andThen b6'⟩
          · have hc2 : (x.cur == -1) = false := by simpa using hc1
            clear hc1
            go_upto_region 8 with (go_at_call 88; refine (iLane_any _ _ _).mono ?_; rintro e w5 ⟨rfl, hb5⟩)
            refine gen1 (p := fun W => Code.wp _ _ _ _ W) ?_
            intro W6 b6 s6 kx
            have p0 := kx.cell 0
            have p1 := kx.cell 1
            simp at p0 p1
            have hpl := kx.lt
            have b6' := hb5.andThen b6
            have z0 := (b6'.cell (p := ⟨wr.heap.size, 0, none⟩) hyl).trans y0
            have z1 := (b6'.cell (p := ⟨wr.heap.size, 1, none⟩) hyl).trans y1
            have z2 := (b6'.cell (p := ⟨wr.heap.size, 2, none⟩) hyl).trans y2
            have hzl := Nat.lt_of_lt_of_le hyl b6'.size
            have pw6 := pw4.keep b6'
            have b7 := b4.andThen b6'
            clear y0 y1 y2 kx s6 pw4 hyl
            cases hup : x.up with
            | false =>
              have CF := Lib.hid (show cpuI M k = false by rw [CN2.out, hup]; rfl)
              rw [hup] at z0
              clear hup
              go_wp2
              go_ret
              exact ⟨ret_bool (by rw [cpusI, all_of hlt CF.out]), b7⟩
            | true =>
              have HUP := Lib.hid hup
              rw [hup] at z0
              clear hup
              by_cases f2 : taskIn M x.cur = true
              · have F2 := Lib.hid f2
                clear f2
                have hcu : 0 ≤ x.cur ∧ x.cur ≤ (M.tasks.length : Int) - 1 := by
                  have h := F2.out
                  simp only [taskIn, Bool.and_eq_true, inR_iff] at h
                  exact h.1
                obtain ⟨t, ht⟩ : ∃ t : Nat, x.cur = t := ⟨x.cur.toNat, by omega⟩
                have htl : t < M.tasks.length := by omega
                have HTE := Lib.hid ht
                have F2' := Lib.hid (show taskIn M t = true by rw [← ht]; exact F2.out)
                have CN3 := Lib.hid (show cpuI M k = (lineI M t k && inR x.ran 1 149 && stayB M k) by rw [CN2.out, HUP.out, F2.out, HTE.out]; rfl)
                rw [ht] at z1
                clear hcu ht hc2
                by_cases f3 : lineI M t k = true
                · have F3 := Lib.hid f3
                  clear f3
                  by_cases f4 : inR x.ran 1 149 = true
                  · have F4 := Lib.hid f4
                    clear f4
                    go_upto_region 10 with (first | (go_at_call 153; refine (iTaskThere_any p _ cc ta tc ga gc gh M _ pw6 htm _).mono ?_; rintro e w' ⟨rfl, rfl⟩; rw [F2'.out]) | (go_at_call 90; refine (iInLine_any p _ cc ta tc ga gc gh M _ pw6 hT (fun k hk hu => hG.she k hk hu) t k htl hlt (hE.gr t htl)).mono ?_; rintro e w8 ⟨rfl, hb8⟩; rw [F3.out]; have v2 := (hb8.cell (p := ⟨wr.heap.size, 2, none⟩) hzl).trans z2) | (go_at_call 111; refine (iInRange_any _ _ _ _).mono ?_; rintro e w' ⟨rfl, rfl⟩; rw [F4.out]))
                    have v1 := (hb8.cell (p := ⟨wr.heap.size, 1, none⟩) hzl).trans z1
                    have v2 := (hb8.cell (p := ⟨wr.heap.size, 2, none⟩) hzl).trans z2
                    have hvl := Nat.lt_of_lt_of_le hzl hb8.size
                    have w0 := (hb8.cell (p := ⟨w5.heap.size, 0, none⟩) hpl).trans p0
                    have w1 := (hb8.cell (p := ⟨w5.heap.size, 1, none⟩) hpl).trans p1
                    have hwl := Nat.lt_of_lt_of_le hpl hb8.size
                    have pw8 := pw6.keep hb8
                    have b8 := b7.andThen hb8
                    have CN4 := Lib.hid (show cpuI M k = stayB M k by rw [CN3.out, F3.out, F4.out]; rfl)
                    have hst1 : (tsk M t).st = 1 := by
                      have h := F3.out
                      simp only [lineI, Bool.and_eq_true, beq_iff_eq] at h
                      exact h.1.1
                    obtain ⟨g, hg, hg8, hgu⟩ := hE.gr t htl hst1
                    obtain ⟨hv1, hv2⟩ := hE.v t htl
                    have hsg : k < (grp M g).shelves.length := by rw [hG.she g hg8 hgu]; exact hlt
                    obtain ⟨hf1, hf2⟩ := hE.sf g k hg8 hsg
                    have hlg : g < M.groups.length := by have := HL.out; omega
                    have HGU := Lib.hid hgu
                    have HGR := Lib.hid hg
                    clear z0 z1 z2 hzl p0 p1 hpl pw6 hb8 hst1 hgu
                    have pw9 := pw8
                    obtain ⟨q0, q1, q2, q3, q4, q5⟩ := pw9
                    obtain ⟨b9, o9, rfl, hB9, d0, d1, d2, d3, d4, d5, d6, d7, d8⟩ := q5.task_ htl
                    rw [hg] at d1
                    obtain ⟨bs, os, es, hBs, f0, e1, e2, e3, e4⟩ := q5.shelf_ hlg hsg
                    have ES := Lib.hid es
                    obtain ⟨y, hY⟩ : ∃ y, tsk M t = y := ⟨_, rfl⟩
                    rw [hY] at d0 d2 d3 d4 d5 d6 d7 d8 hv1 hv2
                    have HY := Lib.hid hY
                    obtain ⟨s, hS⟩ : ∃ s, she M g k = s := ⟨_, rfl⟩
                    rw [hS] at f0 hf1 hf2
                    have HS := Lib.hid hS
                    clear hY hS hg es e1 e2 e3 e4 q0 q1 q2 q4 q5
                    have ht0 : (0 : Int) ≤ (t : Int) := by omega
                    have ht1 : (t : Int) < (M.tasks.length : Int) := by omega
                    have bd : Below w8.heap.size w8 w8.drew := ⟨rfl, rfl, rfl, Nat.le_refl _, fun _ _ => rfl⟩
                    have q_q3 := fun d os => cell_regrown q3 d os
                    have q_v1 := fun d os => cell_regrown v1 d os
                    have q_d0 := fun d os => cell_regrown d0 d os
                    have q_d1 := fun d os => cell_regrown d1 d os
                    have q_d2 := fun d os => cell_regrown d2 d os
                    have q_d3 := fun d os => cell_regrown d3 d os
                    have q_d4 := fun d os => cell_regrown d4 d os
                    have q_d5 := fun d os => cell_regrown d5 d os
                    have q_d6 := fun d os => cell_regrown d6 d os
                    have q_d7 := fun d os => cell_regrown d7 d os
                    have q_d8 := fun d os => cell_regrown d8 d os
                    refine region_by [false, false, false, false, false, false, false, false, true, true] (by kernel_rfl) (by kernel_rfl) (by kernel_rfl) ?_
                    repeat (first | (refine wpR_skip (by rfl) ?_; simp only [Act.put, List.setIfInBounds_toArray, List.set_cons_zero, List.set_cons_succ]) | (refine wpR_det (by rfl) (fun K hK => ?_); go_big_quiet_op; refine hK _ ?_; clear hK K))
                    refine wpR_bar (by rfl) (fun K hK => ?_)
                    go_big_op
                    refine hK _ _ (regrown_of_below (bd.andThen ((Below.refl _ _).alloc (Nat.le_refl _) _))) ?_
                    clear hK K
                    refine wpR_bar (by rfl) (fun K hK => ?_)
                    go_big_op
                    refine hK _ _ (regrown_of_below (((Below.refl _ _).alloc (Nat.le_refl _) _).drew)) ?_
                    clear hK K
                    refine wpR_nil ?_
                    go_upto_region 11 with (fail)
                    refine gen1d (p := fun W => Code.wp _ _ _ _ W) ?_
                    intro W9 b9' s9 kx
                    have n1 := kx.cell 1
                    have n3 := kx.cell 3
                    have n5 := kx.cell 5
                    simp at n1 n3 n5
                    have hnl := kx.lt
                    have pw9 := pw8.keep b9'
                    have b10 := b8.andThen b9'
                    have m0 := (b9'.cell (p := ⟨w5.heap.size, 0, none⟩) hwl).trans w0
                    have m1 := (b9'.cell (p := ⟨w5.heap.size, 1, none⟩) hwl).trans w1
                    have hml := Nat.lt_of_lt_of_le hwl b9'.size
                    have l2 := (b9'.cell (p := ⟨wr.heap.size, 2, none⟩) hvl).trans v2
                    have hll := Nat.lt_of_lt_of_le hvl b9'.size
                    have sf := (b9'.cell (p := ⟨bs, os + k * 5, none⟩) hBs).trans f0
                    have hBs2 := Nat.lt_of_lt_of_le hBs b9'.size
                    clear kx s9 bd q_q3 q_v1 q_d0 q_d1 q_d2 q_d3 q_d4 q_d5 q_d6 q_d7 q_d8 d0 d1 d2 d3 d4 d5 d6 d7 d8 q3 v1 v2 f0 w0 w1 hvl hwl hBs pw8 hB9 b9'
                    have bd : Below W9.heap.size W9 W9.drew := ⟨rfl, rfl, rfl, Nat.le_refl _, fun _ _ => rfl⟩
                    have hwrap : IntKind.i64.wrap (y.v - s.floor) = y.v - s.floor := IntWalk.i64_in _ (by omega)
                    have q_n1 := fun d os => cell_regrown n1 d os
                    have q_n3 := fun d os => cell_regrown n3 d os
                    have q_n5 := fun d os => cell_regrown n5 d os
                    have q_m0 := fun d os => cell_regrown m0 d os
                    have q_m1 := fun d os => cell_regrown m1 d os
                    have q_l2 := fun d os => cell_regrown l2 d os
                    have q_sf := fun d os => cell_regrown sf d os
                    have SN := Lib.hid (show stayB M k = (decide (y.v - s.floor ≤ vstep x.ran (wof y.nice)) && (ch M g).all (stayG M k)) by rw [stayB, HX.out, HTE.out, Int.toNat_natCast, stayT, HY.out, show y.gr = (g : Int) by rw [← HY.out]; exact HGR.out, Int.toNat_natCast, HS.out, HX.out])
                    refine region_or [false, false, false, false, false, false, false, false, false, true, false, false, false, false, true, true, false] [0, 1, 2, 3, 4, 10, 11, 12, 13, 5, 6, 7, 8, 9, 14, 15, 16] (by kernel_rfl) (by kernel_rfl) rfl (by kernel_rfl) (by kernel_rfl) ?_
                    simp only [permL, List.getElem?_cons_zero, List.getElem?_cons_succ, Option.toList_some, List.cons_append, List.nil_append]
                    repeat (first | (refine wpR_skip (by rfl) ?_; simp only [Act.put, List.setIfInBounds_toArray, List.set_cons_zero, List.set_cons_succ]) | (refine wpR_det (by rfl) (fun K hK => ?_); go_big_quiet_op; refine hK _ ?_; clear hK K))
                    refine wpR_bar (by rfl) (fun K hK => ?_)
                    go_big_op
                    go_at_call 148
                    refine (iShelf_any p _ cc _ tc _ gc gh M _ (pw9.keep bd) g k bs os ES.out hlg hsg).mono ?_
                    rintro e w10 ⟨rfl, hb10⟩
                    refine hK _ _ (regrown_of_below (bd.andThen hb10)) ?_
                    clear hK K
                    repeat (first | (refine wpR_skip (by rfl) ?_; simp only [Act.put, List.setIfInBounds_toArray, List.set_cons_zero, List.set_cons_succ]) | (refine wpR_det (by rfl) (fun K hK => ?_); go_big_quiet_op; refine hK _ ?_; clear hK K))
                    refine wpR_bar (by rfl) (fun K hK => ?_)
                    go_big_op
                    go_at_call 150
                    refine (iWeightOf_any _ _).mono ?_
                    rintro e w' ⟨rfl, rfl⟩
                    refine hK _ _ (regrown_of_below (bd.andThen hb10)) ?_
                    clear hK K
                    refine wpR_bar (by rfl) (fun K hK => ?_)
                    go_big_op
                    go_at_call 154
                    refine (iVirtualStep_any _ _ _).mono ?_
                    rintro e w11 ⟨rfl, hb11⟩
                    refine hK _ _ (regrown_of_below ((bd.andThen hb10).andThen hb11)) ?_
                    clear hK K
                    repeat (first | (refine wpR_skip (by rfl) ?_; simp only [Act.put, List.setIfInBounds_toArray, List.set_cons_zero, List.set_cons_succ]) | (refine wpR_det (by rfl) (fun K hK => ?_); go_big_quiet_op; refine hK _ ?_; clear hK K))
                    refine wpR_nil ?_
                    by_cases hS1 : y.v - s.floor ≤ vstep x.ran (wof y.nice)
                    · have SN2 := Lib.hid (show cpuI M k = (ch M g).all (stayG M k) by rw [CN4.out, SN.out, decide_eq_true hS1]; rfl)
                      have b11' : Below W9.heap.size W9 w11 := (bd.andThen hb10).andThen hb11
                      have o1 := (b11'.cell (p := ⟨w8.heap.size, 1, none⟩) hnl).trans n1
                      have o2 := (b11'.cell (p := ⟨wr.heap.size, 2, none⟩) hll).trans l2
                      have hol := Nat.lt_of_lt_of_le hll b11'.size
                      have o3 := (b11'.cell (p := ⟨w5.heap.size, 0, none⟩) hml).trans m0
                      have o4 := (b11'.cell (p := ⟨w5.heap.size, 1, none⟩) hml).trans m1
                      have hol2 := Nat.lt_of_lt_of_le hml b11'.size
                      have pw11 := pw9.keep b11'
                      have b12 := b10.andThen b11'
                      clear bd hb10 hb11 b11' n1 n3 n5 m0 m1 l2 sf q_n1 q_n3 q_n5 q_m0 q_m1 q_l2 q_sf hml hll hnl hwrap pw9 hBs2
                      generalize wr.heap.size = N0 at *
                      go_wp2
                      obtain ⟨wo, hwo⟩ : ∃ wo : World, wo = w11 := ⟨_, rfl⟩
                      subst hwo
                      go_loopw [7, 8] (fun i _ wr => ∃ h : Nat, h < 8 ∧ (grp M h).used = true ∧ i = .int .i64 h ∧ (ch M g).all (stayG M k) = (ch M h).all (stayG M k) ∧ Below wo.heap.size wo wr) (fun i _ _ => dp M (intOf i).toNat)
                      case atStart => exact ⟨g, hg8, HGU.out, rfl, rfl, Below.refl _ _⟩
                      case round =>
                        obtain ⟨h, hh, huh, rfl, hon, hbh⟩ := hrel
                        have HUH := Lib.hid huh
                        have HO := Lib.hid hon
                        have u2 := (hbh.cell (p := ⟨N0, 2, none⟩) hol).trans o2
                        have u3 := (hbh.cell (p := ⟨w5.heap.size, 0, none⟩) hol2).trans o3
                        have u4 := (hbh.cell (p := ⟨w5.heap.size, 1, none⟩) hol2).trans o4
                        have hul := Nat.lt_of_lt_of_le hol2 hbh.size
                        have hul2 := Nat.lt_of_lt_of_le hol hbh.size
                        have pw12 := pw11.keep hbh
                        by_cases h0 : h = 0
                        · subst h0
                          have CT := Lib.hid (show cpuI M k = true by rw [SN2.out, HO.out, ch_zero]; rfl)
                          clear hon huh
                          go_wp2
                          go_roundw
                          case rel => exact ⟨k + 1, by omega, by go_num, by rw [all_succ, HA.out, CT.out]; rfl, b12.andThen hbh⟩
                          case measure => simp [intOf]; omega
                        · obtain ⟨hp1, hp2, hp3, hp4⟩ := hT.up h hh huh h0
                          have hstp := Lib.hid (hT.ch_step hh huh h0)
                          have hlh : h < M.groups.length := by have := HL.out; omega
                          have hch : k < (grp M h).shelves.length := by rw [hG.she h hh huh]; exact hlt
                          have hlp : par M h < M.groups.length := by have := HL.out; omega
                          have hcp : k < (grp M (par M h)).shelves.length := by rw [hG.she _ hp2 hp3]; exact hlt
                          obtain ⟨hf1, hf2⟩ := hE.sf _ k hp2 hcp
                          obtain ⟨hg1, hg2⟩ := hE.sv h k hh hch
                          have hne2 : ((h : Int) != 0) = true := by simpa using h0
                          have pw13 := pw12
                          obtain ⟨q0, q1, q2, q3, q4, q5⟩ := pw13
                          obtain ⟨b9, o9, e9, hB9, k0, k1, k2, k3, k4⟩ := q5.shelf_ hlh hch
                          have E9 := Lib.hid e9
                          obtain ⟨ba, oa, ea, hBa, d0, d1, d2, d3, d4⟩ := q5.shelf_ hlp hcp
                          have EA := Lib.hid ea
                          obtain ⟨bg, og, rfl, hBg, c0, c1, c2, c3, c4, c5, c6, c7, c8, c9, c10, c11, c12, c13⟩ := q5.group_ hlh
                          rw [hp1] at c1
                          have HP3 := Lib.hid hp3
                          have HP4 := Lib.hid hp4
                          obtain ⟨s2, hS2⟩ : ∃ s2, she M h k = s2 := ⟨_, rfl⟩
                          rw [hS2] at k2 k3 hg1 hg2
                          have HS2 := Lib.hid hS2
                          obtain ⟨s3, hS3⟩ : ∃ s3, she M (par M h) k = s3 := ⟨_, rfl⟩
                          rw [hS3] at d0 hf1 hf2
                          have HS3 := Lib.hid hS3
                          clear hS2 hS3 e9 ea hp1 hp3 hp4 hon huh k0 k1 k4 d1 d2 d3 d4 c0 c2 c3 c4 c5 c6 c7 c8 c9 c10 c11 c12 c13 q1 q2 q3 q5
                          have HN0 := Lib.hid (show (h == 0) = false by simpa using h0)
                          clear h0
                          go_upto_region 17 with (go_at_call 148; refine (iShelf_any p _ cc _ tc _ gc gh M _ pw12 h k b9 o9 E9.out hlh hch).mono ?_; rintro e w13 ⟨rfl, hb13⟩)
                          have t2 := (hb13.cell (p := ⟨b9, o9 + k * 5 + 2, none⟩) hB9).trans k2
                          have t3 := (hb13.cell (p := ⟨b9, o9 + k * 5 + 3, none⟩) hB9).trans k3
                          have t0 := (hb13.cell (p := ⟨ba, oa + k * 5, none⟩) hBa).trans d0
                          have t1 := (hb13.cell (p := ⟨bg, og + h * 14 + 1, none⟩) hBg).trans c1
                          have tg := (hb13.cell (p := ⟨p, 3, none⟩) q0).trans q4
                          have tr := (hb13.cell (p := ⟨N0, 2, none⟩) hul2).trans u2
                          have ta := (hb13.cell (p := ⟨w5.heap.size, 0, none⟩) hul).trans u3
                          have tb := (hb13.cell (p := ⟨w5.heap.size, 1, none⟩) hul).trans u4
                          have pw14 := pw12.keep hb13
                          clear k2 k3 d0 c1 q4 u2 u3 u4 pw12 hB9
                          have hi0 : (0 : Int) ≤ (h : Int) := by omega
                          have hi1 : (h : Int) < (M.groups.length : Int) := by omega
                          have hwrap : IntKind.i64.wrap (s2.v - s3.floor) = s2.v - s3.floor := IntWalk.i64_in _ (by omega)
                          have bd : Below w13.heap.size w13 w13.drew := ⟨rfl, rfl, rfl, Nat.le_refl _, fun _ _ => rfl⟩
                          have q_t0 := fun d os => cell_regrown t0 d os
                          have q_t1 := fun d os => cell_regrown t1 d os
                          have q_t2 := fun d os => cell_regrown t2 d os
                          have q_t3 := fun d os => cell_regrown t3 d os
                          have q_tg := fun d os => cell_regrown tg d os
                          have q_tr := fun d os => cell_regrown tr d os
                          have q_ta := fun d os => cell_regrown ta d os
                          have q_tb := fun d os => cell_regrown tb d os
                          refine region_or [false, false, false, false, false, false, false, false, false, false, false, false, false, false, false, false, false, false, false, true, false, false, false, false, true, false] [0, 1, 2, 3, 4, 5, 6, 7, 8, 9, 10, 11, 12, 18, 19, 20, 21, 22, 23, 13, 14, 15, 16, 17, 24, 25] (by kernel_rfl) (by kernel_rfl) rfl (by kernel_rfl) (by kernel_rfl) ?_
                          simp only [permL, List.getElem?_cons_zero, List.getElem?_cons_succ, Option.toList_some, List.cons_append, List.nil_append]
                          repeat (first | (refine wpR_skip (by rfl) ?_; simp only [Act.put, List.setIfInBounds_toArray, List.set_cons_zero, List.set_cons_succ]) | (refine wpR_det (by rfl) (fun K hK => ?_); go_big_quiet_op; refine hK _ ?_; clear hK K))
                          refine wpR_bar (by rfl) (fun K hK => ?_)
                          go_big_op
                          go_at_call 148
                          refine (iShelf_any p _ cc _ tc _ gc gh M _ (pw14.keep bd) (par M h) k ba oa EA.out hlp hcp).mono ?_
                          rintro e w14 ⟨rfl, hb14⟩
                          refine hK _ _ (regrown_of_below (bd.andThen hb14)) ?_
                          clear hK K
                          repeat (first | (refine wpR_skip (by rfl) ?_; simp only [Act.put, List.setIfInBounds_toArray, List.set_cons_zero, List.set_cons_succ]) | (refine wpR_det (by rfl) (fun K hK => ?_); go_big_quiet_op; refine hK _ ?_; clear hK K))
                          refine wpR_bar (by rfl) (fun K hK => ?_)
                          go_big_op
                          go_at_call 154
                          refine (iVirtualStep_any _ _ _).mono ?_
                          rintro e w15 ⟨rfl, hb15⟩
                          refine hK _ _ (regrown_of_below ((bd.andThen hb14).andThen hb15)) ?_
                          clear hK K
                          repeat (first | (refine wpR_skip (by rfl) ?_; simp only [Act.put, List.setIfInBounds_toArray, List.set_cons_zero, List.set_cons_succ]) | (refine wpR_det (by rfl) (fun K hK => ?_); go_big_quiet_op; refine hK _ ?_; clear hK K))
                          refine wpR_nil ?_
                          have SG := Lib.hid (show stayG M k h = decide (s2.v - s3.floor ≤ vstep x.ran s2.w) by rw [stayG, HN0.out, HS2.out, HS3.out, HX.out]; rfl)
                          by_cases hS1 : s2.v - s3.floor ≤ vstep x.ran s2.w
                          · have SG2 := Lib.hid (show stayG M k h = true by rw [SG.out, decide_eq_true hS1])
                            clear hwrap q_t0 q_t2 q_t3 q_tg q_tr q_ta q_tb
                            have bl := (hbh.andThen hb13).andThen (((bd.andThen hb14).andThen hb15))
                            have g0 : w15.cell? ⟨p, 3, none⟩ = some (.slice (some ⟨bg, og, none⟩) M.groups.length gc) := ((((bd.andThen hb14).andThen hb15)).cell (p := ⟨p, 3, none⟩) (Nat.lt_of_lt_of_le q0 hb13.size)).trans tg
                            have g1 : w15.cell? ⟨bg, og + h * 14 + 1, none⟩ = some (.int .i64 (par M h)) := ((((bd.andThen hb14).andThen hb15)).cell (p := ⟨bg, og + h * 14 + 1, none⟩) (Nat.lt_of_lt_of_le hBg hb13.size)).trans t1
                            clear t0 t1 t2 t3 tg tr ta tb q_t1 bd hb14 hb15 hb13
                            go_wp2
                            go_roundw
                            case rel => exact ⟨par M h, hp2, HP3.out, rfl, by rw [HO.out, hstp.out, List.all_cons, SG2.out]; rfl, bl⟩
                            case measure => simp [intOf]; have := HP4.out; omega
                          · have CF := Lib.hid (show cpuI M k = false by rw [SN2.out, HO.out, hstp.out, List.all_cons, SG.out, decide_eq_false hS1]; rfl)
                            have hS4 : vstep x.ran s2.w < s2.v - s3.floor := by omega
                            clear hS1 hwrap
                            go_wp2
                            go_ret
                            exact ⟨ret_bool (by rw [cpusI, all_of hlt CF.out]), b12.andThen (hbh.andThen (hb13.andThen (((bd.andThen hb14).andThen hb15))))⟩
                    · have CF := Lib.hid (show cpuI M k = false by rw [CN4.out, SN.out, decide_eq_false hS1]; rfl)
                      have hS2 : vstep x.ran (wof y.nice) < y.v - s.floor := by omega
                      clear hS1 hwrap
                      go_wp2
                      go_ret
                      exact ⟨ret_bool (by rw [cpusI, all_of hlt CF.out]), b10.andThen ((bd.andThen hb10).andThen hb11)⟩
                  · have F4 := Lib.hid (show inR x.ran 1 149 = false by simpa using f4)
                    have CF := Lib.hid (show cpuI M k = false by rw [CN3.out, F3.out, F4.out]; rfl)
                    clear f4
                    go_wp2_with (first | (go_at_call 153; refine (iTaskThere_any p _ cc ta tc ga gc gh M _ pw6 htm _).mono ?_; rintro e w' ⟨rfl, rfl⟩; rw [F2'.out]) | (go_at_call 90; refine (iInLine_any p _ cc ta tc ga gc gh M _ pw6 hT (fun k hk hu => hG.she k hk hu) t k htl hlt (hE.gr t htl)).mono ?_; rintro e w8 ⟨rfl, hb8⟩; rw [F3.out]; have v2 := (hb8.cell (p := ⟨wr.heap.size, 2, none⟩) hzl).trans z2) | (go_at_call 111; refine (iInRange_any _ _ _ _).mono ?_; rintro e w' ⟨rfl, rfl⟩; rw [F4.out]))
                    go_ret
                    exact ⟨ret_bool (by rw [cpusI, all_of hlt CF.out]), b7.andThen hb8⟩
                · have F3 := Lib.hid (show lineI M t k = false by simpa using f3)
                  have CF := Lib.hid (show cpuI M k = false by rw [CN3.out, F3.out]; rfl)
                  clear f3
                  go_wp2_with (first | (go_at_call 153; refine (iTaskThere_any p _ cc ta tc ga gc gh M _ pw6 htm _).mono ?_; rintro e w' ⟨rfl, rfl⟩; rw [F2'.out]) | (go_at_call 90; refine (iInLine_any p _ cc ta tc ga gc gh M _ pw6 hT (fun k hk hu => hG.she k hk hu) t k htl hlt (hE.gr t htl)).mono ?_; rintro e w8 ⟨rfl, hb8⟩; rw [F3.out]))
                  go_ret
                  exact ⟨ret_bool (by rw [cpusI, all_of hlt CF.out]), b7.andThen hb8⟩
              · have F2 := Lib.hid (show taskIn M x.cur = false by simpa using f2)
                have CF := Lib.hid (show cpuI M k = false by rw [CN2.out, F2.out]; simp)
                clear f2
                go_wp2_with (go_at_call 153; refine (iTaskThere_any p _ cc ta tc ga gc gh M _ pw6 htm _).mono ?_; rintro e w' ⟨rfl, rfl⟩; rw [F2.out])
                go_ret
                exact ⟨ret_bool (by rw [cpusI, all_of hlt CF.out]), b7⟩
      · have F1 := Lib.hid (show [x.busy, x.idle].all timeB = false by simpa only [Bool.not_eq_true] using f1)
        have CF := Lib.hid (show cpuI M k = false by rw [cpuI, HX.out, F1.out]; rfl)
        clear f1
        go_wp2_with (go_at_call 137; refine (iTimeN [x.busy, x.idle] 2 _ _ (IntS.new _ _ _ rfl W) rfl).mono ?_; rintro e w4 ⟨rfl, hb4⟩; rw [F1.out])
        go_ret
        exact ⟨ret_bool (by rw [cpusI, all_of hlt CF.out]), b3.andThen (((Below.refl W.heap.size W).alloc (Nat.le_refl _) _).andThen hb4)⟩
    · have hkl : k = M.cpus.length := by omega
      have HGA := Lib.hid (show cpusI M = true by rw [cpusI, ← hkl]; exact HA.out)
      clear hkl pw2
      go_wp2
      go_ret
      exact ⟨ret_bool HGA.out.symm, hb⟩
end Go.Proofs.YtknfpigaognklaaGreatDoor
