/- A part of the proof. -/
import Derived.Test.YtomllcclallcdaaGreatDoorWr1
import Derived.Test.YtomllcclallcdaaGreatDoorWr3
import Derived.Test.YtomllcclallcdaaGreatDoorWr4
import Derived.IntWalk
import Derived.Laws.RangeString
import Derived.WalkSmall
import Derived.Lib.ItoaNum
import Derived.Lib.ItoaMem
import Derived.Lib.ItoaLen
import Derived.Laws.Concat
import Derived.Laws.BytesArg
import Derived.Deep.Cut
namespace Go.Proofs.YtomllcclallcdaaGreatDoor
section
open Go.RowKit Go.Sort
def cpuI (M : WorldM) (c : Nat) : Bool := [(cpo M c).busy, (cpo M c).idle].all timeB && ((((cpo M c).cur == -1) && ((cpo M c).ran == 0)) ||
  ((cpo M c).up && taskIn M (cpo M c).cur && lineI M (cpo M c).cur.toNat c && inR (cpo M c).ran 1 149 && stayB M c))
def cpusI (M : WorldM) : Bool := (List.range M.cpus.length).all (cpuI M)
structure Ear (M : WorldM) : Prop where
  gr : ∀ t, t < M.tasks.length → (tsk M t).st = 1 → ∃ g : Nat, (tsk M t).gr = g ∧ g < 8 ∧ (grp M g).used = true
  v : ∀ t, t < M.tasks.length → 0 ≤ (tsk M t).v ∧ (tsk M t).v ≤ 100000000000000000
  sv : ∀ g c, g < 8 → c < (grp M g).shelves.length → 0 ≤ (she M g c).v ∧ (she M g c).v ≤ 100000000000000000
  sf : ∀ g c, g < 8 → c < (grp M g).shelves.length → 0 ≤ (she M g c).floor ∧ (she M g c).floor ≤ 100000000000000000
set_option maxRecDepth 100000 in
set_option maxHeartbeats 4000000 in
theorem iCpusOk_any (p : Nat) (ca : Option Addr) (cc : Nat) (ta : Option Addr) (tc : Nat) (ga : Option Addr) (gc : Nat) (gh : Nat → GH) (M : WorldM) (w : World) (hs : PA w p ca cc ta tc ga gc gh M) (hF : FitG M) (hT : Tree M) (hG : GOk M) (hE : Ear M) :
    Calls Tryz.prog 79 #[.pointer (some ⟨p, 0, none⟩)] w fun e w' => e = .returned (.bool (cpusI M)) ∧ Below w.heap.size w w' := by
  have HL := Lib.hid hT.len
  have hcm := hF.cpu
  have htm := hF.task
  clear hF
  have pw := hs
  obtain ⟨q0, q1, q2, q3, q4, q5⟩ := hs
  go_enter Tryz.func79, Tryz.ntmps79
  go_wp2
  clear q0 q1 q2 q3 q4 q5
  go_loopw [3, 4, 5, 6, 7, 8, 14] (fun _ _ _ _ _ _ i wr => ∃ k : Nat, k ≤ M.cpus.length ∧ i = .int .i64 k ∧ (List.range k).all (cpuI M) = true ∧ Below w.heap.size w wr) (fun _ _ _ _ _ _ i _ => M.cpus.length - (intOf i).toNat)
  case atStart => exact ⟨0, by omega, rfl, rfl, Below.refl _ _⟩
  case round =>
    obtain ⟨k, hk, rfl, hall, hb⟩ := hrel
    have HA := Lib.hid hall
    clear hall
    have pw2 := pw.keep hb
    by_cases hlt : k < M.cpus.length
    · have q5 := pw2.wa
      obtain ⟨b, o, rfl, hB, c0, c1, c2, c3, c4⟩ := q5.cpu_ hlt
      obtain ⟨x, hX⟩ : ∃ x, cpo M k = x := ⟨_, rfl⟩
      rw [hX] at c0 c1 c2 c3 c4
      have HX := Lib.hid hX
      clear hX
      go_upto_region 4 with (fail)
      refine gen1 (p := fun W => Code.wp _ _ _ _ W) ?_
      intro W b2 s2 kx
      have b3 := hb.andThen b2
      have x0 := kx.cell 0
      have x1 := kx.cell 1
      have x2 := kx.cell 2
      have x3 := kx.cell 3
      have x4 := kx.cell 4
      simp at x0 x1 x2 x3 x4
      have hxl := kx.lt
      have pw3 := pw2.keep b2
      clear s2 kx c0 c1 c2 c3 c4 pw2 q5
      by_cases f1 : [x.busy, x.idle].all timeB = true
      · have F1 := Lib.hid f1
        clear f1
        have CN := Lib.hid (show cpuI M k = (((x.cur == -1) && (x.ran == 0)) || (x.up && taskIn M x.cur && lineI M x.cur.toNat k && inR x.ran 1 149 && stayB M k)) by rw [cpuI, HX.out, F1.out]; rfl)
        go_upto_region 6 with (go_at_call 109; refine (iTimeN [x.busy, x.idle] 2 _ _ (IntS.new _ _ _ rfl W) rfl).mono ?_; rintro e w4 ⟨rfl, hb4⟩; rw [F1.out])
        have b4' := ((Below.refl W.heap.size W).alloc (Nat.le_refl _) _).andThen hb4
        have y0 := (b4'.cell (p := ⟨wr.heap.size, 0, none⟩) hxl).trans x0
        have y1 := (b4'.cell (p := ⟨wr.heap.size, 1, none⟩) hxl).trans x1
        have y2 := (b4'.cell (p := ⟨wr.heap.size, 2, none⟩) hxl).trans x2
        have hyl := Nat.lt_of_lt_of_le hxl b4'.size
        have b4 := b3.andThen b4'
        have pw4 := pw3.keep b4'
        clear x0 x1 x2 x3 x4 hxl pw3 b4' hb4
        by_cases hid : x.cur = -1 ∧ x.ran = 0
        · have CT := Lib.hid (show cpuI M k = true by rw [CN.out, hid.1, hid.2]; rfl)
          rw [hid.1] at y1
          rw [hid.2] at y2
          clear hid
          go_wp2
          go_roundw
          case rel => exact ⟨k + 1, by omega, by go_num, by rw [all_succ, HA.out, CT.out]; rfl, b4⟩
          case measure => simp [intOf]; omega
        · have CN2 := Lib.hid (show cpuI M k = (x.up && taskIn M x.cur && lineI M x.cur.toNat k && inR x.ran 1 149 && stayB M k) by
            rw [CN.out, show ((x.cur == -1) && (x.ran == 0)) = false by
              simp only [Bool.and_eq_false_iff, beq_eq_false_iff_ne]
              by_cases h : x.cur = -1
              · exact .inr fun h2 => hid ⟨h, h2⟩
              · exact .inl h]
            rfl)
          have D : Hid ((decide (x.cur = -1) && decide (x.ran = 0)) = false) := Lib.hid (by simpa using hid)
          have hD2 : x.cur = -1 → (x.ran == 0) = false := fun h => by simp only [beq_eq_false_iff_ne]; exact fun h2 => hid ⟨h, h2⟩
          have HD2 := Lib.hid hD2
          clear hid hD2
          by_cases hc1 : x.cur = -1
          · 
            have hr0 := HD2.out hc1
            have CF := Lib.hid (show cpuI M k = false by rw [CN2.out, hc1]; cases x.up <;> rfl)
            rw [hc1] at y1
            clear hc1
            cases hup : x.up with
            | false =>
              rw [hup] at y0
              clear hup
              go_wp2_with (go_at_call 121; refine (iLane_any _ _ _).mono ?_; rintro e w5 ⟨rfl, hb5⟩; have z0 := (hb5.cell (p := ⟨wr.heap.size, 0, none⟩) hyl).trans y0; have hzl := Nat.lt_of_lt_of_le hyl hb5.size)
              go_ret
              exact ⟨ret_bool (by rw [cpusI, all_of hlt CF.out]), (b4.andThen hb5).alloc (b4.andThen hb5).size _⟩
            | true =>
              rw [hup] at y0
              clear hup
              have TI := Lib.hid (show taskIn M (-1) = false from rfl)
              go_upto_region 8 with (go_at_call 121; refine (iLane_any _ _ _).mono ?_; rintro e w5 ⟨rfl, hb5⟩)
              refine gen1 (p := fun W => Code.wp _ _ _ _ W) ?_
              intro W6 b6 s6 kx
              have b6' := hb5.andThen b6
              have z0 := (b6'.cell (p := ⟨wr.heap.size, 0, none⟩) hyl).trans y0
              have z1 := (b6'.cell (p := ⟨wr.heap.size, 1, none⟩) hyl).trans y1
              have pw6 := pw4.keep b6'
              clear y0 y1 y2 kx s6
              go_wp2_with (go_at_call 127; refine (iTaskThere_any p _ cc ta tc ga gc gh M _ pw6 htm _).mono ?_; rintro e w' ⟨rfl, rfl⟩; rw [TI.out])
              go_ret
              exact ⟨ret_bool (by rw [cpusI, all_of hlt CF.out]), b4.andThen b6'⟩
          · have hc2 : (x.cur == -1) = false := by simpa using hc1
            clear hc1
            go_upto_region 8 with (go_at_call 121; refine (iLane_any _ _ _).mono ?_; rintro e w5 ⟨rfl, hb5⟩)
            refine gen1 (p := fun W => Code.wp _ _ _ _ W) ?_
            intro W6 b6 s6 kx
            have p0 := kx.cell 0
            have p1 := kx.cell 1
            simp at p0 p1
            have hpl := kx.lt
            have b6' := hb5.andThen b6
            have z0 := (b6'.cell (p := ⟨wr.heap.size, 0, none⟩) hyl).trans y0
            have z1 := (b6'.cell (p := ⟨wr.heap.size, 1, none⟩) hyl).trans y1
            have z2 := (b6'.cell (p := ⟨wr.heap.size, 2, none⟩) hyl).trans y2
            have hzl := Nat.lt_of_lt_of_le hyl b6'.size
            have pw6 := pw4.keep b6'
            have b7 := b4.andThen b6'
            clear y0 y1 y2 kx s6 pw4 hyl
            cases hup : x.up with
            | false =>
              have CF := Lib.hid (show cpuI M k = false by rw [CN2.out, hup]; rfl)
              rw [hup] at z0
              clear hup
              go_wp2
              go_ret
              exact ⟨ret_bool (by rw [cpusI, all_of hlt CF.out]), b7⟩
            | true =>
              have HUP := Lib.hid hup
              rw [hup] at z0
              clear hup
              by_cases f2 : taskIn M x.cur = true
              · have F2 := Lib.hid f2
                clear f2
                have hcu : 0 ≤ x.cur ∧ x.cur ≤ (M.tasks.length : Int) - 1 := by
                  have h := F2.out
                  simp only [taskIn, Bool.and_eq_true, inR_iff] at h
                  exact h.1
                obtain ⟨t, ht⟩ : ∃ t : Nat, x.cur = t := ⟨x.cur.toNat, by omega⟩
                have htl : t < M.tasks.length := by omega
                have HTE := Lib.hid ht
                have F2' := Lib.hid (show taskIn M t = true by rw [← ht]; exact F2.out)
                have CN3 := Lib.hid (show cpuI M k = (lineI M t k && inR x.ran 1 149 && stayB M k) by rw [CN2.out, HUP.out, F2.out, HTE.out]; rfl)
                rw [ht] at z1
                clear hcu ht hc2
                by_cases f3 : lineI M t k = true
                · have F3 := Lib.hid f3
                  clear f3
                  by_cases f4 : inR x.ran 1 149 = true
                  · have F4 := Lib.hid f4
                    clear f4
                    go_upto_region 10 with (first | (go_at_call 127; refine (iTaskThere_any p _ cc ta tc ga gc gh M _ pw6 htm _).mono ?_; rintro e w' ⟨rfl, rfl⟩; rw [F2'.out]) | (go_at_call 128; refine (iInLine_any p _ cc ta tc ga gc gh M _ pw6 hT (fun k hk hu => hG.she k hk hu) t k htl hlt (hE.gr t htl)).mono ?_; rintro e w8 ⟨rfl, hb8⟩; rw [F3.out]; have v2 := (hb8.cell (p := ⟨wr.heap.size, 2, none⟩) hzl).trans z2) | (go_at_call 108; refine (iInRange_any _ _ _ _).mono ?_; rintro e w' ⟨rfl, rfl⟩; rw [F4.out]))
                    have v1 := (hb8.cell (p := ⟨wr.heap.size, 1, none⟩) hzl).trans z1
                    have v2 := (hb8.cell (p := ⟨wr.heap.size, 2, none⟩) hzl).trans z2
                    have hvl := Nat.lt_of_lt_of_le hzl hb8.size
                    have w0 := (hb8.cell (p := ⟨w5.heap.size, 0, none⟩) hpl).trans p0
                    have w1 := (hb8.cell (p := ⟨w5.heap.size, 1, none⟩) hpl).trans p1
                    have hwl := Nat.lt_of_lt_of_le hpl hb8.size
                    have pw8 := pw6.keep hb8
                    have b8 := b7.andThen hb8
                    have CN4 := Lib.hid (show cpuI M k = stayB M k by rw [CN3.out, F3.out, F4.out]; rfl)
                    have hst1 : (tsk M t).st = 1 := by
                      have h := F3.out
                      simp only [lineI, Bool.and_eq_true, beq_iff_eq] at h
                      exact h.1.1
                    obtain ⟨g, hg, hg8, hgu⟩ := hE.gr t htl hst1
                    obtain ⟨hv1, hv2⟩ := hE.v t htl
                    have hsg : k < (grp M g).shelves.length := by rw [hG.she g hg8 hgu]; exact hlt
                    obtain ⟨hf1, hf2⟩ := hE.sf g k hg8 hsg
                    have hlg : g < M.groups.length := by have := HL.out; omega
                    have HGU := Lib.hid hgu
                    have HGR := Lib.hid hg
                    clear z0 z1 z2 hzl p0 p1 hpl pw6 hb8 hst1 hgu
                    have pw9 := pw8
                    obtain ⟨q0, q1, q2, q3, q4, q5⟩ := pw9
                    obtain ⟨b9, o9, rfl, hB9, d0, d1, d2, d3, d4, d5, d6, d7, d8⟩ := q5.task_ htl
                    rw [hg] at d1
                    obtain ⟨bs, os, es, hBs, f0, e1, e2, e3, e4⟩ := q5.shelf_ hlg hsg
                    have ES := Lib.hid es
                    obtain ⟨y, hY⟩ : ∃ y, tsk M t = y := ⟨_, rfl⟩
                    rw [hY] at d0 d2 d3 d4 d5 d6 d7 d8 hv1 hv2
                    have HY := Lib.hid hY
                    obtain ⟨s, hS⟩ : ∃ s, she M g k = s := ⟨_, rfl⟩
                    rw [hS] at f0 hf1 hf2
                    have HS := Lib.hid hS
                    clear hY hS hg es e1 e2 e3 e4 q0 q1 q2 q4 q5
                    have ht0 : (0 : Int) ≤ (t : Int) := by omega
                    have ht1 : (t : Int) < (M.tasks.length : Int) := by omega
                    have bd : Below w8.heap.size w8 w8.drew := ⟨rfl, rfl, rfl, Nat.le_refl _, fun _ _ => rfl⟩
                    have q_q3 := fun d os => cell_regrown q3 d os
                    have q_v1 := fun d os => cell_regrown v1 d os
                    have q_d0 := fun d os => cell_regrown d0 d os
                    have q_d1 := fun d os => cell_regrown d1 d os
                    have q_d2 := fun d os => cell_regrown d2 d os
                    have q_d3 := fun d os => cell_regrown d3 d os
                    have q_d4 := fun d os => cell_regrown d4 d os
                    have q_d5 := fun d os => cell_regrown d5 d os
                    have q_d6 := fun d os => cell_regrown d6 d os
                    have q_d7 := fun d os => cell_regrown d7 d os
                    have q_d8 := fun d os => cell_regrown d8 d os
                    refine region_by [false, false, false, false, false, false, false, false, true, true] (by kernel_rfl) (by kernel_rfl) (by kernel_rfl) ?_
                    repeat (first | (refine wpR_skip (by rfl) ?_; simp only [Act.put, List.setIfInBounds_toArray, List.set_cons_zero, List.set_cons_succ]) | (refine wpR_det (by rfl) (fun K hK => ?_); go_big_quiet_op; refine hK _ ?_; clear hK K))
                    refine wpR_bar (by rfl) (fun K hK => ?_)
                    go_big_op
                    refine hK _ _ (regrown_of_below (bd.andThen ((Below.refl _ _).alloc (Nat.le_refl _) _))) ?_
                    clear hK K
                    refine wpR_bar (by rfl) (fun K hK => ?_)
                    go_big_op
                    refine hK _ _ (regrown_of_below (((Below.refl _ _).alloc (Nat.le_refl _) _).drew)) ?_
                    clear hK K
                    refine wpR_nil ?_
                    go_upto_region 11 with (fail)
                    refine gen1d (p := fun W => Code.wp _ _ _ _ W) ?_
                    intro W9 b9' s9 kx
                    have n1 := kx.cell 1
                    have n3 := kx.cell 3
                    have n5 := kx.cell 5
                    simp at n1 n3 n5
                    have hnl := kx.lt
                    have pw9 := pw8.keep b9'
                    have b10 := b8.andThen b9'
                    have m0 := (b9'.cell (p := ⟨w5.heap.size, 0, none⟩) hwl).trans w0
                    have m1 := (b9'.cell (p := ⟨w5.heap.size, 1, none⟩) hwl).trans w1
                    have hml := Nat.lt_of_lt_of_le hwl b9'.size
                    have l2 := (b9'.cell (p := ⟨wr.heap.size, 2, none⟩) hvl).trans v2
                    have hll := Nat.lt_of_lt_of_le hvl b9'.size
                    have sf := (b9'.cell (p := ⟨bs, os + k * 5, none⟩) hBs).trans f0
                    have hBs2 := Nat.lt_of_lt_of_le hBs b9'.size
                    clear kx s9 bd q_q3 q_v1 q_d0 q_d1 q_d2 q_d3 q_d4 q_d5 q_d6 q_d7 q_d8 d0 d1 d2 d3 d4 d5 d6 d7 d8 q3 v1 v2 f0 w0 w1 hvl hwl hBs pw8 hB9 b9'
                    have bd : Below W9.heap.size W9 W9.drew := ⟨rfl, rfl, rfl, Nat.le_refl _, fun _ _ => rfl⟩
                    have hwrap : IntKind.i64.wrap (y.v - s.floor) = y.v - s.floor := IntWalk.i64_in _ (by omega)
                    have q_n1 := fun d os => cell_regrown n1 d os
                    have q_n3 := fun d os => cell_regrown n3 d os
                    have q_n5 := fun d os => cell_regrown n5 d os
                    have q_m0 := fun d os => cell_regrown m0 d os
                    have q_m1 := fun d os => cell_regrown m1 d os
                    have q_l2 := fun d os => cell_regrown l2 d os
                    have q_sf := fun d os => cell_regrown sf d os
                    have SN := Lib.hid (show stayB M k = (decide (y.v - s.floor ≤ vstep x.ran (wof y.nice)) && (ch M g).all (stayG M k)) by rw [stayB, HX.out, HTE.out, Int.toNat_natCast, stayT, HY.out, show y.gr = (g : Int) by rw [← HY.out]; exact HGR.out, Int.toNat_natCast, HS.out, HX.out])
                    refine region_or [false, false, false, false, false, false, false, false, false, true, false, false, false, false, true, true, false] [0, 1, 2, 3, 4, 10, 11, 12, 13, 5, 6, 7, 8, 9, 14, 15, 16] (by kernel_rfl) (by kernel_rfl) rfl (by kernel_rfl) (by kernel_rfl) ?_
                    simp only [permL, List.getElem?_cons_zero, List.getElem?_cons_succ, Option.toList_some, List.cons_append, List.nil_append]
                    repeat (first | (refine wpR_skip (by rfl) ?_; simp only [Act.put, List.setIfInBounds_toArray, List.set_cons_zero, List.set_cons_succ]) | (refine wpR_det (by rfl) (fun K hK => ?_); go_big_quiet_op; refine hK _ ?_; clear hK K))
                    refine wpR_bar (by rfl) (fun K hK => ?_)
                    go_big_op
                    go_at_call 122
                    refine (iShelf_any p _ cc _ tc _ gc gh M _ (pw9.keep bd) g k bs os ES.out hlg hsg).mono ?_
                    rintro e w10 ⟨rfl, hb10⟩
                    refine hK _ _ (regrown_of_below (bd.andThen hb10)) ?_
                    clear hK K
                    repeat (first | (refine wpR_skip (by rfl) ?_; simp only [Act.put, List.setIfInBounds_toArray, List.set_cons_zero, List.set_cons_succ]) | (refine wpR_det (by rfl) (fun K hK => ?_); go_big_quiet_op; refine hK _ ?_; clear hK K))
                    refine wpR_bar (by rfl) (fun K hK => ?_)
                    go_big_op
                    go_at_call 124
                    refine (iWeightOf_any _ _).mono ?_
                    rintro e w' ⟨rfl, rfl⟩
                    refine hK _ _ (regrown_of_below (bd.andThen hb10)) ?_
                    clear hK K
                    refine wpR_bar (by rfl) (fun K hK => ?_)
                    go_big_op
                    go_at_call 129
                    refine (iVirtualStep_any _ _ _).mono ?_
                    rintro e w11 ⟨rfl, hb11⟩
                    refine hK _ _ (regrown_of_below ((bd.andThen hb10).andThen hb11)) ?_
                    clear hK K
                    repeat (first | (refine wpR_skip (by rfl) ?_; simp only [Act.put, List.setIfInBounds_toArray, List.set_cons_zero, List.set_cons_succ]) | (refine wpR_det (by rfl) (fun K hK => ?_); go_big_quiet_op; refine hK _ ?_; clear hK K))
                    refine wpR_nil ?_
                    by_cases hS1 : y.v - s.floor ≤ vstep x.ran (wof y.nice)
                    · have SN2 := Lib.hid (show cpuI M k = (ch M g).all (stayG M k) by rw [CN4.out, SN.out, decide_eq_true hS1]; rfl)
                      have b11' : Below W9.heap.size W9 w11 := (bd.andThen hb10).andThen hb11
                      have o1 := (b11'.cell (p := ⟨w8.heap.size, 1, none⟩) hnl).trans n1
                      have o2 := (b11'.cell (p := ⟨wr.heap.size, 2, none⟩) hll).trans l2
                      have hol := Nat.lt_of_lt_of_le hll b11'.size
                      have o3 := (b11'.cell (p := ⟨w5.heap.size, 0, none⟩) hml).trans m0
                      have o4 := (b11'.cell (p := ⟨w5.heap.size, 1, none⟩) hml).trans m1
                      have hol2 := Nat.lt_of_lt_of_le hml b11'.size
                      have pw11 := pw9.keep b11'
                      have b12 := b10.andThen b11'
                      clear bd hb10 hb11 b11' n1 n3 n5 m0 m1 l2 sf q_n1 q_n3 q_n5 q_m0 q_m1 q_l2 q_sf hml hll hnl hwrap pw9 hBs2
                      generalize wr.heap.size = N0 at *
                      go_wp2
                      obtain ⟨wo, hwo⟩ : ∃ wo : World, wo = w11 := ⟨_, rfl⟩
                      subst hwo
                      go_loopw [7, 8] (fun i _ wr => ∃ h : Nat, h < 8 ∧ (grp M h).used = true ∧ i = .int .i64 h ∧ (ch M g).all (stayG M k) = (ch M h).all (stayG M k) ∧ Below wo.heap.size wo wr) (fun i _ _ => dp M (intOf i).toNat)
                      case atStart => exact ⟨g, hg8, HGU.out, rfl, rfl, Below.refl _ _⟩
                      case round =>
                        obtain ⟨h, hh, huh, rfl, hon, hbh⟩ := hrel
                        have HUH := Lib.hid huh
                        have HO := Lib.hid hon
                        have u2 := (hbh.cell (p := ⟨N0, 2, none⟩) hol).trans o2
                        have u3 := (hbh.cell (p := ⟨w5.heap.size, 0, none⟩) hol2).trans o3
                        have u4 := (hbh.cell (p := ⟨w5.heap.size, 1, none⟩) hol2).trans o4
                        have hul := Nat.lt_of_lt_of_le hol2 hbh.size
                        have hul2 := Nat.lt_of_lt_of_le hol hbh.size
                        have pw12 := pw11.keep hbh
                        by_cases h0 : h = 0
                        · subst h0
                          have CT := Lib.hid (show cpuI M k = true by rw [SN2.out, HO.out, ch_zero]; rfl)
                          clear hon huh
                          go_wp2
                          go_roundw
                          case rel => exact ⟨k + 1, by omega, by go_num, by rw [all_succ, HA.out, CT.out]; rfl, b12.andThen hbh⟩
                          case measure => simp [intOf]; omega
                        · obtain ⟨hp1, hp2, hp3, hp4⟩ := hT.up h hh huh h0
                          have hstp := Lib.hid (hT.ch_step hh huh h0)
                          have hlh : h < M.groups.length := by have := HL.out; omega
                          have hch : k < (grp M h).shelves.length := by rw [hG.she h hh huh]; exact hlt
                          have hlp : par M h < M.groups.length := by have := HL.out; omega
                          have hcp : k < (grp M (par M h)).shelves.length := by rw [hG.she _ hp2 hp3]; exact hlt
                          obtain ⟨hf1, hf2⟩ := hE.sf _ k hp2 hcp
                          obtain ⟨hg1, hg2⟩ := hE.sv h k hh hch
                          have hne2 : ((h : Int) != 0) = true := by simpa using h0
                          have pw13 := pw12
                          obtain ⟨q0, q1, q2, q3, q4, q5⟩ := pw13
                          obtain ⟨b9, o9, e9, hB9, k0, k1, k2, k3, k4⟩ := q5.shelf_ hlh hch
                          have E9 := Lib.hid e9
                          obtain ⟨ba, oa, ea, hBa, d0, d1, d2, d3, d4⟩ := q5.shelf_ hlp hcp
                          have EA := Lib.hid ea
                          obtain ⟨bg, og, rfl, hBg, c0, c1, c2, c3, c4, c5, c6, c7, c8, c9, c10, c11, c12, c13⟩ := q5.group_ hlh
                          rw [hp1] at c1
                          have HP3 := Lib.hid hp3
                          have HP4 := Lib.hid hp4
                          obtain ⟨s2, hS2⟩ : ∃ s2, she M h k = s2 := ⟨_, rfl⟩
                          rw [hS2] at k2 k3 hg1 hg2
                          have HS2 := Lib.hid hS2
                          obtain ⟨s3, hS3⟩ : ∃ s3, she M (par M h) k = s3 := ⟨_, rfl⟩
                          rw [hS3] at d0 hf1 hf2
                          have HS3 := Lib.hid hS3
                          clear hS2 hS3 e9 ea hp1 hp3 hp4 hon huh k0 k1 k4 d1 d2 d3 d4 c0 c2 c3 c4 c5 c6 c7 c8 c9 c10 c11 c12 c13 q1 q2 q3 q5
                          have HN0 := Lib.hid (show (h == 0) = false by simpa using h0)
                          clear h0
                          go_upto_region 17 with (go_at_call 122; refine (iShelf_any p _ cc _ tc _ gc gh M _ pw12 h k b9 o9 E9.out hlh hch).mono ?_; rintro e w13 ⟨rfl, hb13⟩)
                          have t2 := (hb13.cell (p := ⟨b9, o9 + k * 5 + 2, none⟩) hB9).trans k2
                          have t3 := (hb13.cell (p := ⟨b9, o9 + k * 5 + 3, none⟩) hB9).trans k3
                          have t0 := (hb13.cell (p := ⟨ba, oa + k * 5, none⟩) hBa).trans d0
                          have t1 := (hb13.cell (p := ⟨bg, og + h * 14 + 1, none⟩) hBg).trans c1
                          have tg := (hb13.cell (p := ⟨p, 3, none⟩) q0).trans q4
                          have tr := (hb13.cell (p := ⟨N0, 2, none⟩) hul2).trans u2
                          have ta := (hb13.cell (p := ⟨w5.heap.size, 0, none⟩) hul).trans u3
                          have tb := (hb13.cell (p := ⟨w5.heap.size, 1, none⟩) hul).trans u4
                          have pw14 := pw12.keep hb13
                          clear k2 k3 d0 c1 q4 u2 u3 u4 pw12 hB9
                          have hi0 : (0 : Int) ≤ (h : Int) := by omega
                          have hi1 : (h : Int) < (M.groups.length : Int) := by omega
                          have hwrap : IntKind.i64.wrap (s2.v - s3.floor) = s2.v - s3.floor := IntWalk.i64_in _ (by omega)
                          have bd : Below w13.heap.size w13 w13.drew := ⟨rfl, rfl, rfl, Nat.le_refl _, fun _ _ => rfl⟩
                          have q_t0 := fun d os => cell_regrown t0 d os
                          have q_t1 := fun d os => cell_regrown t1 d os
                          have q_t2 := fun d os => cell_regrown t2 d os
                          have q_t3 := fun d os => cell_regrown t3 d os
                          have q_tg := fun d os => cell_regrown tg d os
                          have q_tr := fun d os => cell_regrown tr d os
                          have q_ta := fun d os => cell_regrown ta d os
                          have q_tb := fun d os => cell_regrown tb d os
                          refine region_or [false, false, false, false, false, false, false, false, false, false, false, false, false, false, false, false, false, false, false, true, false, false, false, false, true, false] [0, 1, 2, 3, 4, 5, 6, 7, 8, 9, 10, 11, 12, 18, 19, 20, 21, 22, 23, 13, 14, 15, 16, 17, 24, 25] (by kernel_rfl) (by kernel_rfl) rfl (by kernel_rfl) (by kernel_rfl) ?_
                          simp only [permL, List.getElem?_cons_zero, List.getElem?_cons_succ, Option.toList_some, List.cons_append, List.nil_append]
                          repeat (first | (refine wpR_skip (by rfl) ?_; simp only [Act.put, List.setIfInBounds_toArray, List.set_cons_zero, List.set_cons_succ]) | (refine wpR_det (by rfl) (fun K hK => ?_); go_big_quiet_op; refine hK _ ?_; clear hK K))
                          refine wpR_bar (by rfl) (fun K hK => ?_)
                          go_big_op
                          go_at_call 122
                          refine (iShelf_any p _ cc _ tc _ gc gh M _ (pw14.keep bd) (par M h) k ba oa EA.out hlp hcp).mono ?_
                          rintro e w14 ⟨rfl, hb14⟩
                          refine hK _ _ (regrown_of_below (bd.andThen hb14)) ?_
                          clear hK K
                          repeat (first | (refine wpR_skip (by rfl) ?_; simp only [Act.put, List.setIfInBounds_toArray, List.set_cons_zero, List.set_cons_succ]) | (refine wpR_det (by rfl) (fun K hK => ?_); go_big_quiet_op; refine hK _ ?_; clear hK K))
                          refine wpR_bar (by rfl) (fun K hK => ?_)
                          go_big_op
                          go_at_call 129
                          refine (iVirtualStep_any _ _ _).mono ?_
                          rintro e w15 ⟨rfl, hb15⟩
                          refine hK _ _ (regrown_of_below ((bd.andThen hb14).andThen hb15)) ?_
                          clear hK K
                          repeat (first | (refine wpR_skip (by rfl) ?_; simp only [Act.put, List.setIfInBounds_toArray, List.set_cons_zero, List.set_cons_succ]) | (refine wpR_det (by rfl) (fun K hK => ?_); go_big_quiet_op; refine hK _ ?_; clear hK K))
                          refine wpR_nil ?_
                          have SG := Lib.hid (show stayG M k h = decide (s2.v - s3.floor ≤ vstep x.ran s2.w) by rw [stayG, HN0.out, HS2.out, HS3.out, HX.out]; rfl)
                          by_cases hS1 : s2.v - s3.floor ≤ vstep x.ran s2.w
                          · have SG2 := Lib.hid (show stayG M k h = true by rw [SG.out, decide_eq_true hS1])
                            clear hwrap q_t0 q_t2 q_t3 q_tg q_tr q_ta q_tb
                            have bl := (hbh.andThen hb13).andThen (((bd.andThen hb14).andThen hb15))
                            have g0 : w15.cell? ⟨p, 3, none⟩ = some (.slice (some ⟨bg, og, none⟩) M.groups.length gc) := ((((bd.andThen hb14).andThen hb15)).cell (p := ⟨p, 3, none⟩) (Nat.lt_of_lt_of_le q0 hb13.size)).trans tg
                            have g1 : w15.cell? ⟨bg, og + h * 14 + 1, none⟩ = some (.int .i64 (par M h)) := ((((bd.andThen hb14).andThen hb15)).cell (p := ⟨bg, og + h * 14 + 1, none⟩) (Nat.lt_of_lt_of_le hBg hb13.size)).trans t1
                            clear t0 t1 t2 t3 tg tr ta tb q_t1 bd hb14 hb15 hb13
                            go_wp2
                            go_roundw
                            case rel => exact ⟨par M h, hp2, HP3.out, rfl, by rw [HO.out, hstp.out, List.all_cons, SG2.out]; rfl, bl⟩
                            case measure => simp [intOf]; have := HP4.out; omega
                          · have CF := Lib.hid (show cpuI M k = false by rw [SN2.out, HO.out, hstp.out, List.all_cons, SG.out, decide_eq_false hS1]; rfl)
                            have hS4 : vstep x.ran s2.w < s2.v - s3.floor := by omega
                            clear hS1 hwrap
                            go_wp2
                            go_ret
                            exact ⟨ret_bool (by rw [cpusI, all_of hlt CF.out]), b12.andThen (hbh.andThen (hb13.andThen (((bd.andThen hb14).andThen hb15))))⟩
                    · have CF := Lib.hid (show cpuI M k = false by rw [CN4.out, SN.out, decide_eq_false hS1]; rfl)
                      have hS2 : vstep x.ran (wof y.nice) < y.v - s.floor := by omega
                      clear hS1 hwrap
                      go_wp2
                      go_ret
                      exact ⟨ret_bool (by rw [cpusI, all_of hlt CF.out]), b10.andThen ((bd.andThen hb10).andThen hb11)⟩
                  · have F4 := Lib.hid (show inR x.ran 1 149 = false by simpa using f4)
                    have CF := Lib.hid (show cpuI M k = false by rw [CN3.out, F3.out, F4.out]; rfl)
                    clear f4
                    go_wp2_with (first | (go_at_call 127; refine (iTaskThere_any p _ cc ta tc ga gc gh M _ pw6 htm _).mono ?_; rintro e w' ⟨rfl, rfl⟩; rw [F2'.out]) | (go_at_call 128; refine (iInLine_any p _ cc ta tc ga gc gh M _ pw6 hT (fun k hk hu => hG.she k hk hu) t k htl hlt (hE.gr t htl)).mono ?_; rintro e w8 ⟨rfl, hb8⟩; rw [F3.out]; have v2 := (hb8.cell (p := ⟨wr.heap.size, 2, none⟩) hzl).trans z2) | (go_at_call 108; refine (iInRange_any _ _ _ _).mono ?_; rintro e w' ⟨rfl, rfl⟩; rw [F4.out]))
                    go_ret
                    exact ⟨ret_bool (by rw [cpusI, all_of hlt CF.out]), b7.andThen hb8⟩
                · have F3 := Lib.hid (show lineI M t k = false by simpa using f3)
                  have CF := Lib.hid (show cpuI M k = false by rw [CN3.out, F3.out]; rfl)
                  clear f3
                  go_wp2_with (first | (go_at_call 127; refine (iTaskThere_any p _ cc ta tc ga gc gh M _ pw6 htm _).mono ?_; rintro e w' ⟨rfl, rfl⟩; rw [F2'.out]) | (go_at_call 128; refine (iInLine_any p _ cc ta tc ga gc gh M _ pw6 hT (fun k hk hu => hG.she k hk hu) t k htl hlt (hE.gr t htl)).mono ?_; rintro e w8 ⟨rfl, hb8⟩; rw [F3.out]))
                  go_ret
                  exact ⟨ret_bool (by rw [cpusI, all_of hlt CF.out]), b7.andThen hb8⟩
              · have F2 := Lib.hid (show taskIn M x.cur = false by simpa using f2)
                have CF := Lib.hid (show cpuI M k = false by rw [CN2.out, F2.out]; simp)
                clear f2
                go_wp2_with (go_at_call 127; refine (iTaskThere_any p _ cc ta tc ga gc gh M _ pw6 htm _).mono ?_; rintro e w' ⟨rfl, rfl⟩; rw [F2.out])
                go_ret
                exact ⟨ret_bool (by rw [cpusI, all_of hlt CF.out]), b7⟩
      · have F1 := Lib.hid (show [x.busy, x.idle].all timeB = false by simpa only [Bool.not_eq_true] using f1)
        have CF := Lib.hid (show cpuI M k = false by rw [cpuI, HX.out, F1.out]; rfl)
        clear f1
        go_wp2_with (go_at_call 109; refine (iTimeN [x.busy, x.idle] 2 _ _ (IntS.new _ _ _ rfl W) rfl).mono ?_; rintro e w4 ⟨rfl, hb4⟩; rw [F1.out])
        go_ret
        exact ⟨ret_bool (by rw [cpusI, all_of hlt CF.out]), b3.andThen (((Below.refl W.heap.size W).alloc (Nat.le_refl _) _).andThen hb4)⟩
    · have hkl : k = M.cpus.length := by omega
      have HGA := Lib.hid (show cpusI M = true by rw [cpusI, ← hkl]; exact HA.out)
      clear hkl pw2
      go_wp2
      go_ret
      exact ⟨ret_bool HGA.out.symm, hb⟩
end
end Go.Proofs.YtomllcclallcdaaGreatDoor
namespace Go.Proofs.YtomllcclallcdaaGreatDoor
section
open Go.RowKit Go.Sort
theorem decode_far (s : ByteArray) (k : Nat) (h : k < s.size) (h2 : 128 ≤ (s[k]'h).toNat) : 128 ≤ (Utf8.decode s k).1 := by
  have e : (s.get! (k + 0)).toNat = (s[k]'h).toNat := by
    have : s.get! (k + 0) = s[k]'h := by
      show s.get! k = _
      simp [ByteArray.get!, getElem!_pos, h]
      rfl
    rw [this]
  unfold Utf8.decode
  simp only [e, Utf8.runeError]
  repeat' split
  all_goals first | omega | (simp only [Bool.and_eq_true, decide_eq_true_eq, ge_iff_le] at *; omega)
theorem run_next_any {P : Program} (w : World) (s : ByteArray) (pos : Nat) (ty : TypeId) (h : pos < s.size) :
    (Instr.next (.pointer (some ⟨w.heap.size, 0, none⟩)) true ty).run P (w.iter s pos) =
      .ok (.tuple #[.bool true, .int .i64 pos, .int .i32 (Utf8.decode s pos).1]) (w.iter s (pos + (Utf8.decode s pos).2)) := by
  simp only [Instr.next, getObj, setObj, Sem.run_bind, Sem.run, World.iter_heap, Result.andThen, h, if_true, World.iter_set]
  simp [goInt]
theorem iterPos_iter2 (w : World) (s : ByteArray) (k : Nat) : (w.iter s k).iterPos w.heap.size = k := iterPos_of (World.iter_heap w s k)
set_option maxRecDepth 100000 in
set_option maxHeartbeats 2000000 in
theorem iNameOk_loop (s : ByteArray) (w : World) (hm : s.size ≤ 1048576) (e1 : (s.toList == [119, 101, 105, 103, 104, 116]) = false) (e2 : (s.toList == [109, 97, 120]) = false) (e3 : (s.toList == [99, 112, 117, 115]) = false) (e4 : (s.toList == [112, 114, 111, 99, 115]) = false) (e5 : (s.toList == [115, 116, 97, 116]) = false) :
    Calls Tryz.prog 164 #[.string s] w fun e w' => e = .returned (.bool (nameB s)) ∧ Below w.heap.size w w' := by
  by_cases h1 : inR s.size 1 8 = true
  · have NN := Lib.hid (show nameB s = s.data.toList.all charB by rw [nameB, h1, show fileB s = false by rw [fileB, e1, e2, e3, e4, e5]; rfl]; rfl)
    go_enter Tryz.func164, Tryz.ntmps164
    go_wp2_with (go_at_call 108; refine (iInRange_any _ _ _ _).mono ?_; rintro e w' ⟨rfl, rfl⟩; rw [h1])
    go_loopw [4] (fun _ wr => ∃ k : Nat, k ≤ s.size ∧ wr = w.iter s k ∧ (s.data.toList.take k).all charB = true) (fun _ wr => s.size - wr.iterPos w.heap.size)
    case atStart => exact ⟨0, by omega, rfl, by simp⟩
    case round =>
      obtain ⟨k, hk, rfl, hall⟩ := hrel
      have HA := Lib.hid hall
      clear hall e1 e2 e3 e4 e5
      have hbw : ∀ j, Below w.heap.size w (w.iter s j) := fun j => (Below.refl _ _).alloc (Nat.le_refl _) _
      have HBW := Lib.hid hbw
      clear hbw
      by_cases hlt : k < s.size
      · have hlt' : k < s.data.toList.length := by simpa using hlt
        have hsk : s.data.toList[k] = s[k] := by simp [ByteArray.getElem_eq_getElem_data]
        have HSK := Lib.hid hsk
        clear hsk
        by_cases ha : s[k].toNat < 128
        · have hnx := fun ty => run_next_ascii (P := Tryz.prog) w s k ty hlt ha
          by_cases hz : 97 ≤ (s[k].toNat : Int) ∧ (s[k].toNat : Int) ≤ 122
          · have HCB := Lib.hid (show charB s[k] = true by simp only [charB, inR, Bool.or_eq_true, Bool.and_eq_true, decide_eq_true_eq]; omega)
            obtain ⟨z1, z2⟩ := hz
            clear ha
            go_wp2
            go_roundw
            case rel => exact ⟨k + 1, by omega, rfl, all_snoc hlt' HA.out (by rw [HSK.out]; exact HCB.out)⟩
            case measure => rw [iterPos_iter2, iterPos_iter2]; omega
          · by_cases hd : 48 ≤ (s[k].toNat : Int) ∧ (s[k].toNat : Int) ≤ 57
            · have HCB := Lib.hid (show charB s[k] = true by simp only [charB, inR, Bool.or_eq_true, Bool.and_eq_true, decide_eq_true_eq]; omega)
              obtain ⟨z1, z2⟩ := hd
              have z3 : (s[k].toNat : Int) < 97 := by omega
              clear hz ha
              go_wp2
              go_roundw
              case rel => exact ⟨k + 1, by omega, rfl, all_snoc hlt' HA.out (by rw [HSK.out]; exact HCB.out)⟩
              case measure => rw [iterPos_iter2, iterPos_iter2]; omega
            · have HCB := Lib.hid (show charB s[k] = false by simp only [charB, inR, Bool.or_eq_false_iff, Bool.and_eq_false_iff, decide_eq_false_iff_not]; omega)
              by_cases h3 : (s[k].toNat : Int) < 48
              · have h4 : (s[k].toNat : Int) < 97 := by omega
                clear hz hd ha
                go_wp2
                go_ret
                exact ⟨ret_bool (by rw [NN.out, all_not hlt' (by rw [HSK.out]; exact HCB.out)]), HBW.out _⟩
              · have h6 : 48 ≤ (s[k].toNat : Int) := by omega
                have h5 : 57 < (s[k].toNat : Int) := by omega
                have h9 : decide ((s[k].toNat : Int) ≤ 57) = false := decide_eq_false (by omega)
                by_cases h4 : (s[k].toNat : Int) < 97
                · clear hz hd ha h3
                  go_wp2
                  go_ret
                  exact ⟨ret_bool (by rw [NN.out, all_not hlt' (by rw [HSK.out]; exact HCB.out)]), HBW.out _⟩
                · have h10 : decide ((s[k].toNat : Int) ≤ 122) = false := decide_eq_false (by omega)
                  have h11 : 122 < (s[k].toNat : Int) := by omega
                  have h12 : 97 ≤ (s[k].toNat : Int) := by omega
                  clear hz hd ha h3 h4
                  go_wp2
                  go_ret
                  exact ⟨ret_bool (by rw [NN.out, all_not hlt' (by rw [HSK.out]; exact HCB.out)]), HBW.out _⟩
        · have hfar := decode_far s k hlt (by omega)
          have hnx := fun ty => run_next_any (P := Tryz.prog) w s k ty hlt
          have HCB := Lib.hid (show charB s[k] = false by simp only [charB, inR, Bool.or_eq_false_iff, Bool.and_eq_false_iff, decide_eq_false_iff_not]; omega)
          generalize (Utf8.decode s k).1 = r at *
          generalize (Utf8.decode s k).2 = sz at *
          have h9 : decide ((r : Int) ≤ 57) = false := decide_eq_false (by omega)
          have h10 : decide ((r : Int) ≤ 122) = false := decide_eq_false (by omega)
          have h11 : 122 < (r : Int) := by omega
          have h12 : 97 ≤ (r : Int) := by omega
          have h13 : 57 < (r : Int) := by omega
          have h14 : 48 ≤ (r : Int) := by omega
          clear ha hfar
          go_wp2
          go_ret
          exact ⟨ret_bool (by rw [NN.out, all_not hlt' (by rw [HSK.out]; exact HCB.out)]), HBW.out _⟩
      · have hnx := fun ty => run_next_end (P := Tryz.prog) w s k ty hlt
        have hkl : s.data.toList.take k = s.data.toList := List.take_of_length_le (by simp; omega)
        have HA2 := Lib.hid (show s.data.toList.all charB = true by rw [← hkl]; exact HA.out)
        clear hkl
        go_wp2
        go_ret
        exact ⟨ret_bool (by rw [NN.out, HA2.out]), HBW.out _⟩
  · have h1' : inR s.size 1 8 = false := by simpa using h1
    have NN := Lib.hid (show nameB s = false by rw [nameB, h1']; rfl)
    go_enter Tryz.func164, Tryz.ntmps164
    go_wp2_with (go_at_call 108; refine (iInRange_any _ _ _ _).mono ?_; rintro e w' ⟨rfl, rfl⟩; rw [h1'])
    go_ret
    exact ⟨ret_bool NN.out.symm, Below.refl _ _⟩
set_option maxHeartbeats 1000000 in
theorem iNameOk_any (s : ByteArray) (w : World) (hm : s.size ≤ 1048576) :
    Calls Tryz.prog 164 #[.string s] w fun e w' => e = .returned (.bool (nameB s)) ∧ Below w.heap.size w w' := by
  by_cases e1 : (s.toList == [119, 101, 105, 103, 104, 116]) = true
  · have NN := Lib.hid (show nameB s = false by rw [nameB, show fileB s = true by simp [fileB, e1]]; simp)
    go_enter Tryz.func164, Tryz.ntmps164
    go_wp2
    all_goals go_ret
    all_goals exact ⟨ret_bool NN.out.symm, Below.refl _ _⟩
  · have e1 : (s.toList == [119, 101, 105, 103, 104, 116]) = false := by simpa only [Bool.not_eq_true] using e1
    by_cases e2 : (s.toList == [109, 97, 120]) = true
    · have NN := Lib.hid (show nameB s = false by rw [nameB, show fileB s = true by simp [fileB, e2]]; simp)
      go_enter Tryz.func164, Tryz.ntmps164
      go_wp2
      all_goals go_ret
      all_goals exact ⟨ret_bool NN.out.symm, Below.refl _ _⟩
    · have e2 : (s.toList == [109, 97, 120]) = false := by simpa only [Bool.not_eq_true] using e2
      by_cases e3 : (s.toList == [99, 112, 117, 115]) = true
      · have NN := Lib.hid (show nameB s = false by rw [nameB, show fileB s = true by simp [fileB, e3]]; simp)
        go_enter Tryz.func164, Tryz.ntmps164
        go_wp2
        all_goals go_ret
        all_goals exact ⟨ret_bool NN.out.symm, Below.refl _ _⟩
      · have e3 : (s.toList == [99, 112, 117, 115]) = false := by simpa only [Bool.not_eq_true] using e3
        by_cases e4 : (s.toList == [112, 114, 111, 99, 115]) = true
        · have NN := Lib.hid (show nameB s = false by rw [nameB, show fileB s = true by simp [fileB, e4]]; simp)
          go_enter Tryz.func164, Tryz.ntmps164
          go_wp2
          all_goals go_ret
          all_goals exact ⟨ret_bool NN.out.symm, Below.refl _ _⟩
        · have e4 : (s.toList == [112, 114, 111, 99, 115]) = false := by simpa only [Bool.not_eq_true] using e4
          by_cases e5 : (s.toList == [115, 116, 97, 116]) = true
          · have NN := Lib.hid (show nameB s = false by rw [nameB, show fileB s = true by simp [fileB, e5]]; simp)
            go_enter Tryz.func164, Tryz.ntmps164
            go_wp2
            all_goals go_ret
            all_goals exact ⟨ret_bool NN.out.symm, Below.refl _ _⟩
          · have e5 : (s.toList == [115, 116, 97, 116]) = false := by simpa only [Bool.not_eq_true] using e5
            exact iNameOk_loop s w hm e1 e2 e3 e4 e5
structure NodesAt (w : World) (M : WorldM) (nb : Nat → Nat) : Prop where
  slot : ∀ g, g < 8 → (grp M g).used = true → w.cell? ⟨nb g, 0, none⟩ = some (.int .i64 g)
  name : ∀ g, g < 8 → (grp M g).used = true → w.cell? ⟨nb g, 1, none⟩ = some (.string (grp M g).name)
  root : w.cell? ⟨nb 0, 2, none⟩ = some (.pointer none)
  up : ∀ g, g < 8 → g ≠ 0 → (grp M g).used = true → w.cell? ⟨nb g, 2, none⟩ = some (.pointer (some ⟨nb (par M g), 0, none⟩)) ∧ par M g < 8 ∧ (grp M (par M g)).used = true
def depP (M : WorldM) : Nat → Nat → Nat → Int
  | 0, _, _ => -1
  | r + 1, n, g => if g = 0 then n else depP M r (n + 1) (par M g)
set_option maxHeartbeats 1000000 in
theorem iDepth_any (M : WorldM) (nb : Nat → Nat) (g : Nat) (hg : g < 8) (hu : (grp M g).used = true) (w : World) (hN : NodesAt w M nb) :
    Calls Tryz.prog 165 #[.pointer (some ⟨nb g, 0, none⟩)] w fun e w' => e = .returned (.int .i64 (depP M 4 0 g)) ∧ w = w' := by
  have HN := Lib.hid hN
  clear hN
  go_enter Tryz.func165, Tryz.ntmps165
  go_wp2
  go_loop [0, 3] (fun n i => ∃ (k h : Nat), k ≤ 4 ∧ i = .int .i64 k ∧ h < 8 ∧ (grp M h).used = true ∧ n = .pointer (some ⟨nb h, 0, none⟩) ∧ depP M 4 0 g = depP M (4 - k) k h) (fun _ i => 4 - (intOf i).toNat)
  case atStart => exact ⟨0, g, by omega, rfl, hg, hu, rfl, rfl⟩
  case round =>
    obtain ⟨k, h, hk, rfl, hh, huh, rfl, hd⟩ := hrel
    have HD := Lib.hid hd
    clear hd
    by_cases hk4 : k < 4
    · have c0 := HN.out.slot h hh huh
      obtain ⟨j, hj⟩ : ∃ j, 4 - k = j + 1 := ⟨3 - k, by omega⟩
      have HJ := Lib.hid hj
      clear hj
      by_cases h0 : h = 0
      · subst h0
        clear huh
        go_wp2
        go_ret
        exact ⟨ret_int (by rw [HD.out, HJ.out]; rfl), rfl⟩
      · obtain ⟨c2, hp, hpu⟩ := HN.out.up h hh h0 huh
        have hne : ((h : Int) == 0) = false := by simpa using h0
        have HST := Lib.hid (show depP M (j + 1) k h = depP M j (k + 1) (par M h) by simp only [depP, if_neg h0])
        have HPU := Lib.hid hpu
        clear h0 huh hpu
        go_wp2
        go_round
        case rel => exact ⟨k + 1, par M h, by omega, by go_num, hp, HPU.out, rfl, by rw [HD.out, HJ.out, HST.out, show 4 - (k + 1) = j by have := HJ.out; omega]⟩
        case measure => simp [intOf]; omega
    · have hk5 : k = 4 := by omega
      subst hk5
      have HE := Lib.hid (show depP M 4 0 g = -1 by rw [HD.out]; rfl)
      clear huh
      go_wp2
      go_ret
      exact ⟨ret_int HE.out.symm, rfl⟩
end
end Go.Proofs.YtomllcclallcdaaGreatDoor
namespace Go.Proofs.YtomllcclallcdaaGreatDoor
section
open Go.RowKit
def arrN (M : WorldM) (nb : Nat → Nat) (k : Nat) : Array Value := ((List.range 8).map fun i => if i < k ∧ (grp M i).used = true then Value.pointer (some ⟨nb i, 0, none⟩) else .pointer none).toArray
theorem arrN_size (M : WorldM) (nb : Nat → Nat) (k : Nat) : (arrN M nb k).size = 8 := by simp [arrN]
theorem arrN_at (M : WorldM) (nb : Nat → Nat) (k i : Nat) (h : i < 8) : (arrN M nb k)[i]? = some (if i < k ∧ (grp M i).used = true then Value.pointer (some ⟨nb i, 0, none⟩) else .pointer none) := by
  simp [arrN, h]
theorem arrN_zero (M : WorldM) (nb : Nat → Nat) : arrN M nb 0 = #[.pointer none, .pointer none, .pointer none, .pointer none, .pointer none, .pointer none, .pointer none, .pointer none] := by
  simp [arrN, List.range_succ]
theorem arrN_skip (M : WorldM) (nb : Nat → Nat) (k : Nat) (hu : (grp M k).used = false) : arrN M nb (k + 1) = arrN M nb k := by
  apply Array.ext_getElem?
  intro i
  by_cases hi : i < 8
  · rw [arrN_at M nb _ i hi, arrN_at M nb _ i hi]
    by_cases hik : i = k
    · subst hik; simp [hu]
    · by_cases h : i < k
      · simp [h, show i < k + 1 by omega]
      · simp [h, show ¬ i < k + 1 by omega]
  · rw [Array.getElem?_eq_none (by rw [arrN_size]; omega), Array.getElem?_eq_none (by rw [arrN_size]; omega)]
theorem arrN_put (M : WorldM) (nb : Nat → Nat) (k n : Nat) (hk : k < 8) (hu : (grp M k).used = true) : (arrN M nb k).setIfInBounds k (.pointer (some ⟨n, 0, none⟩)) = arrN M (fun i => if i = k then n else nb i) (k + 1) := by
  apply Array.ext_getElem?
  intro i
  by_cases hi : i < 8
  · rw [arrN_at M _ _ i hi]
    by_cases hik : i = k
    · subst hik; simp [arrN_size, hi, hu]
    · rw [Array.getElem?_setIfInBounds_ne (Ne.symm hik), arrN_at M _ _ i hi]
      by_cases h : i < k
      · simp [h, show i < k + 1 by omega, hik]
      · simp [h, show ¬ i < k + 1 by omega]
  · rw [Array.getElem?_eq_none (by simp [arrN_size]; omega), Array.getElem?_eq_none (by rw [arrN_size]; omega)]
structure Nd1 (w wr : World) (M : WorldM) (a k : Nat) (nb : Nat → Nat) : Prop where
  blk : Blk wr a 162 (arrN M nb k)
  node : ∀ i, i < k → (grp M i).used = true → Blk wr (nb i) 164 #[.int .i64 i, .string (grp M i).name, .pointer none] ∧ a < nb i
  lt : ∀ i j, i < j → j < k → (grp M i).used = true → (grp M j).used = true → nb i < nb j
  bel : Below w.heap.size w wr
  ha : w.heap.size ≤ a
theorem Nd1.skip {w wr : World} {M : WorldM} {a k : Nat} {nb : Nat → Nat} (h : Nd1 w wr M a k nb) (hu : (grp M k).used = false) : Nd1 w wr M a (k + 1) nb :=
  ⟨by rw [arrN_skip M nb k hu]; exact h.blk, fun i hi hui => h.node i (by rcases Nat.lt_or_ge i k with h' | h'; exact h'; exact absurd hui (by rw [show i = k by omega, hu]; decide)) hui,
   fun i j hij hj hi' hj' => h.lt i j hij (by rcases Nat.lt_or_ge j k with h' | h'; exact h'; exact absurd hj' (by rw [show j = k by omega, hu]; decide)) hi' hj', h.bel, h.ha⟩
theorem Nd1.put {w wr : World} {M : WorldM} {a k : Nat} {nb : Nat → Nat} (h : Nd1 w wr M a k nb) (hk : k < 8) (hu : (grp M k).used = true) :
    Nd1 w ((wr.alloc (.cells #[.int .i64 k, .string (grp M k).name, .pointer none] 164)).setCell ⟨a, k, none⟩ (.pointer (some ⟨wr.heap.size, 0, none⟩))) M a (k + 1) (fun i => if i = k then wr.heap.size else nb i) := by
  have hal := h.blk.lt
  refine ⟨?_, ?_, ?_, ?_, h.ha⟩
  · rw [← arrN_put M nb k wr.heap.size hk hu]
    exact (h.blk.alloc _).set_ k _
  · intro i hi hui
    by_cases hik : i = k
    · subst hik
      simp only [if_true]
      exact ⟨(Blk.new wr _ _).far (by show wr.heap.size ≠ a; omega) _, hal⟩
    · simp only [if_neg hik]
      obtain ⟨h1, h2⟩ := h.node i (by omega) hui
      exact ⟨(h1.alloc _).far (by show nb i ≠ a; omega) _, h2⟩
  · intro i j hij hj hui huj
    have hik : i ≠ k := by omega
    simp only [if_neg hik]
    by_cases hjk : j = k
    · simp only [if_pos hjk]; exact (h.node i (by omega) hui).1.lt
    · simp only [if_neg hjk]; exact h.lt i j hij (by omega) hui huj
  · exact (h.bel.alloc h.bel.size _).setCell h.ha _
def keysTo (M : WorldM) (g : Nat) : List (Int × ByteArray) := ((List.range g).filter fun h => h != 0 && (grp M h).used).map fun h => ((grp M h).parent, (grp M h).name)
theorem keysTo_one (M : WorldM) : keysTo M 1 = [] := rfl
theorem keysTo_skip (M : WorldM) (g : Nat) (hu : (grp M g).used = false) : keysTo M (g + 1) = keysTo M g := by
  simp [keysTo, List.range_succ, List.filter_append, hu]
theorem keysTo_put (M : WorldM) (g : Nat) (h0 : g ≠ 0) (hu : (grp M g).used = true) : keysTo M (g + 1) = keysTo M g ++ [((grp M g).parent, (grp M g).name)] := by
  simp [keysTo, List.range_succ, List.filter_append, hu, h0]
def upv (M : WorldM) (nb : Nat → Nat) (g i : Nat) : Value := if 1 ≤ i ∧ i < g then .pointer (some ⟨nb (par M i), 0, none⟩) else .pointer none
structure Nd2 (w wr : World) (M : WorldM) (a r g : Nat) (nb : Nat → Nat) : Prop where
  blk : Blk wr a 162 (arrN M nb 8)
  node : ∀ i, i < 8 → (grp M i).used = true → Blk wr (nb i) 164 #[.int .i64 i, .string (grp M i).name, upv M nb g i] ∧ a < nb i ∧ nb i < r
  lt : ∀ i j, i < j → j < 8 → (grp M i).used = true → (grp M j).used = true → nb i < nb j
  bel : Below w.heap.size w wr
  ha : w.heap.size ≤ a
  har : a < r
  map : KvAt wr r (keysTo M g)
theorem Nd1.on {w wr : World} {M : WorldM} {a : Nat} {nb : Nat → Nat} (h : Nd1 w wr M a 8 nb) : Nd2 w (wr.alloc (.map #[] 0)) M a wr.heap.size 1 nb := by
  refine ⟨h.blk.alloc _, fun i hi hu => ?_, h.lt, h.bel.alloc h.bel.size _, h.ha, h.blk.lt, ?_⟩
  · obtain ⟨h1, h2⟩ := h.node i hi hu
    have : upv M nb 1 i = .pointer none := by rw [upv, if_neg (by omega)]
    rw [this]
    exact ⟨h1.alloc _, h2, h1.lt⟩
  · exact ⟨#[], 0, by show (wr.heap.push _)[wr.heap.size]? = _; simp, by rw [keysTo_one]; rfl⟩
theorem upv_skip (M : WorldM) (nb : Nat → Nat) (g i : Nat) (h : i ≠ g) : upv M nb (g + 1) i = upv M nb g i := by
  unfold upv
  by_cases hi : 1 ≤ i ∧ i < g
  · rw [if_pos hi, if_pos (by omega)]
  · rw [if_neg hi, if_neg (by omega)]
theorem Nd2.below {w wr w1 : World} {M : WorldM} {a r g : Nat} {nb : Nat → Nat} (h : Nd2 w wr M a r g nb) (hb : Below wr.heap.size wr w1) : Nd2 w w1 M a r g nb :=
  ⟨h.blk.below hb h.blk.lt, fun i hi hu => ⟨(h.node i hi hu).1.below hb (h.node i hi hu).1.lt, (h.node i hi hu).2⟩, h.lt, h.bel.andThen hb, h.ha, h.har, h.map.below hb h.map.lt⟩
theorem Nd2.skip {w wr : World} {M : WorldM} {a r g : Nat} {nb : Nat → Nat} (h : Nd2 w wr M a r g nb) (hu : (grp M g).used = false) : Nd2 w wr M a r (g + 1) nb :=
  ⟨h.blk, fun i hi hui => by
    have hig : i ≠ g := fun e => by rw [e, hu] at hui; cases hui
    rw [upv_skip M nb g i hig]; exact h.node i hi hui, h.lt, h.bel, h.ha, h.har, by rw [keysTo_skip M g hu]; exact h.map⟩
theorem Nd2.link {w wr : World} {M : WorldM} {a r g : Nat} {nb : Nat → Nat} (h : Nd2 w wr M a r g nb) (h1 : 1 ≤ g) (hg : g < 8) (hu : (grp M g).used = true) :
    let W := wr.setCell ⟨nb g, 2, none⟩ (.pointer (some ⟨nb (par M g), 0, none⟩))
    (∀ i, i < 8 → (grp M i).used = true → Blk W (nb i) 164 #[.int .i64 i, .string (grp M i).name, upv M nb (g + 1) i] ∧ a < nb i ∧ nb i < r) ∧ Blk W a 162 (arrN M nb 8) ∧ KvAt W r (keysTo M g) ∧ Below w.heap.size w W := by
  obtain ⟨g1, g2, g3⟩ := h.node g hg hu
  refine ⟨fun i hi hui => ?_, h.blk.far (by show a ≠ nb g; omega) _, h.map.but (But.set_ _ _ _ _) (by omega), h.bel.setCell (by have := h.ha; show w.heap.size ≤ nb g; omega) _⟩
  obtain ⟨i1, i2, i3⟩ := h.node i hi hui
  by_cases hig : i = g
  · subst hig
    have e : upv M nb (i + 1) i = .pointer (some ⟨nb (par M i), 0, none⟩) := by rw [upv, if_pos (by omega)]
    rw [e]
    refine ⟨?_, i2, i3⟩
    have := i1.set_ 2 (.pointer (some ⟨nb (par M i), 0, none⟩))
    simpa using this
  · rw [upv_skip M nb g i hig]
    refine ⟨i1.far ?_ _, i2, i3⟩
    show nb i ≠ nb g
    rcases Nat.lt_or_ge i g with h' | h'
    · have := h.lt i g h' hg hui hu; omega
    · have := h.lt g i (by omega) hi hu hui; omega
theorem Nd2.at_ {w wr : World} {M : WorldM} {a r : Nat} {nb : Nat → Nat} (h : Nd2 w wr M a r 8 nb) (h0 : (grp M 0).used = true) (hp : ∀ g, 1 ≤ g → g < 8 → (grp M g).used = true → par M g < 8 ∧ (grp M (par M g)).used = true) : NodesAt wr M nb := by
  refine ⟨fun g hg hu => ?_, fun g hg hu => ?_, ?_, fun g hg h1 hu => ?_⟩
  · rw [(h.node g hg hu).1.cell]; rfl
  · rw [(h.node g hg hu).1.cell]; rfl
  · rw [(h.node 0 (by decide) h0).1.cell]; rfl
  · refine ⟨?_, hp g (by omega) hg hu⟩
    rw [(h.node g hg hu).1.cell]
    have e : upv M nb 8 g = .pointer (some ⟨nb (par M g), 0, none⟩) := by rw [upv, if_pos (by omega)]
    rw [e]; rfl
structure Nd3 (w wr : World) (M : WorldM) (a r g : Nat) (nb : Nat → Nat) : Prop where
  blk : Blk wr a 162 (arrN M nb 8)
  node : ∀ i, i < 8 → (grp M i).used = true → Blk wr (nb i) 164 #[.int .i64 i, .string (grp M i).name, upv M nb (g + 1) i] ∧ a < nb i ∧ nb i < r
  lt : ∀ i j, i < j → j < 8 → (grp M i).used = true → (grp M j).used = true → nb i < nb j
  bel : Below w.heap.size w wr
  ha : w.heap.size ≤ a
  har : a < r
  map : KvAt wr r (keysTo M g)
theorem Nd2.link3 {w wr : World} {M : WorldM} {a r g q : Nat} {nb : Nat → Nat} (h : Nd2 w wr M a r g nb) (h1 : 1 ≤ g) (hg : g < 8) (hu : (grp M g).used = true) (hq : par M g = q) :
    Nd3 w (wr.setCell ⟨nb g, 2, none⟩ (.pointer (some ⟨nb q, 0, none⟩))).drew M a r g nb := by
  subst hq
  obtain ⟨l1, l2, l3, l4⟩ := h.link h1 hg hu
  exact ⟨l2, l1, h.lt, l4.drew, h.ha, h.har, ⟨l3.at_⟩⟩
theorem Nd3.below {w wr w1 : World} {M : WorldM} {a r g : Nat} {nb : Nat → Nat} (h : Nd3 w wr M a r g nb) (hb : Below wr.heap.size wr w1) : Nd3 w w1 M a r g nb :=
  ⟨h.blk.below hb h.blk.lt, fun i hi hu => ⟨(h.node i hi hu).1.below hb (h.node i hi hu).1.lt, (h.node i hi hu).2⟩, h.lt, h.bel.andThen hb, h.ha, h.har, h.map.below hb h.map.lt⟩
theorem Nd3.done {w wr w1 : World} {M : WorldM} {a r g : Nat} {nb : Nat → Nat} (h : Nd3 w wr M a r g nb) (hb : But r wr w1) (h0 : g ≠ 0) (hu : (grp M g).used = true)
    (hm : KvAt w1 r (keysTo M g ++ [((grp M g).parent, (grp M g).name)])) : Nd2 w w1 M a r (g + 1) nb :=
  ⟨hb.blk h.blk (by have := h.har; omega), fun i hi hui => ⟨hb.blk (h.node i hi hui).1 (by have := (h.node i hi hui).2.2; omega), (h.node i hi hui).2⟩, h.lt,
   h.bel.trans (hb.below (by have := h.ha; have := h.har; omega)), h.ha, h.har, by rw [keysTo_put M g h0 hu]; exact hm⟩
end
end Go.Proofs.YtomllcclallcdaaGreatDoor
namespace Go.Proofs.YtomllcclallcdaaGreatDoor
section
open Go.RowKit Go.Sort
attribute [local go_sem ↓] Go.wp_at_zero Go.wp_at_succ
def nodesH (M : WorldM) : Bool := (M.groups.length == 8) && (grp M 0).used && ((grp M 0).parent == -1) && (grp M 0).name.toList.isEmpty
def nodeI (M : WorldM) (g : Nat) : Bool := (g == 0) || !(grp M g).used || (nameB (grp M g).name && usedI M (grp M g).parent && !kvHas (keysTo M g) (grp M g).parent (grp M g).name)
def depI (M : WorldM) (g : Nat) : Bool := !(grp M g).used || decide (0 ≤ depP M 4 0 g)
def nodesB (M : WorldM) : Bool := nodesH M && ((List.range 8).all (nodeI M) && (List.range 8).all (depI M))
def NodesOut (M : WorldM) (W : World) (e : Ending) (w' : World) : Prop :=
  ∃ v, e = .returned (.tuple #[v, .bool (nodesB M)]) ∧ Below W.heap.size W w' ∧ (nodesB M = true → ∃ a nb, v = .slice (some ⟨a, 0, none⟩) 8 8 ∧ Blk w' a 162 (arrN M nb 8) ∧ NodesAt w' M nb)
theorem nodesB_of {M : WorldM} (h : nodesH M = true) : nodesB M = ((List.range 8).all (nodeI M) && (List.range 8).all (depI M)) := by rw [nodesB, h]; rfl
theorem out_no {M : WorldM} {W w' : World} (h : nodesB M = false) (hb : Below W.heap.size W w') : NodesOut M W (.returned (.tuple #[.slice none 0 0, .bool false])) w' :=
  ⟨_, by rw [h], hb, fun h' => by rw [h] at h'; cases h'⟩
set_option maxRecDepth 100000 in
set_option maxHeartbeats 4000000 in
theorem iNodes_any (ca ta ga : Option Addr) (gc : Nat) (gh : Nat → GH) (M : WorldM) (w : World) (hs : WA w ca ta ga gh M) (hgm : M.groups.length ≤ 1048576) (hnm : ∀ k, k < M.groups.length → (grp M k).name.size ≤ 1048576) :
    Calls Tryz.prog 149 #[.slice ga M.groups.length gc] w (NodesOut M w) := by
  by_cases hh : nodesH M = true
  · have NB := Lib.hid (nodesB_of hh)
    simp only [nodesH, Bool.and_eq_true, beq_iff_eq, List.isEmpty_iff] at hh
    obtain ⟨⟨⟨hl, hu0⟩, hp0⟩, hn0⟩ := hh
    have HS := Lib.hid hs
    have HU0 := Lib.hid hu0
    have HL := Lib.hid hl
    have HNM := Lib.hid hnm
    obtain ⟨b, o, rfl, hB, c0, c1, c2, c3, c4, c5, c6, c7, c8, c9, c10, c11, c12, c13⟩ := hs.group_ (k := 0) (by omega)
    simp only [Nat.zero_mul, Nat.add_zero] at c0 c1 c2
    rw [hu0] at c0
    rw [hp0] at c1
    have hl0 : ((M.groups.length : Int) != 8) = false := by rw [hl]; rfl
    have hl1 : (0 : Int) < (M.groups.length : Int) := by omega
    have hl2 : M.groups.length ≤ 8 := by omega
    have hn1 : ((grp M 0).name.toList != []) = false := by rw [hn0]; rfl
    have hn2 : (grp M 0).name.toList.isEmpty = true := by rw [hn0]; rfl
    have hmk : ∀ w, (Instr.makeSlice 144 (.int .i64 8) (.int .i64 8)).run Tryz.prog w = .ok (.slice (some ⟨w.heap.size, 0, none⟩) 8 8) (w.alloc (.cells #[.pointer none, .pointer none, .pointer none, .pointer none, .pointer none, .pointer none, .pointer none, .pointer none] 162)) := fun _ => by kernel_rfl
    clear hl hu0 hp0 hn0 hnm hs c3 c4 c5 c6 c7 c8 c9 c10 c11 c12 c13
    go_enter Tryz.func149, Tryz.ntmps149
    have hmm := @run_makeMap Tryz.prog
    go_wp2
    clear c0 c1 c2 hn1 hn2 hl0 hB hmk
    go_loopw [5, 40] (fun _ i wr => ∃ (k : Nat) (nb : Nat → Nat), k ≤ 8 ∧ i = .int .i64 k ∧ Nd1 w wr M w.heap.size k nb) (fun _ i _ => 8 - (intOf i).toNat)
    case atStart => exact ⟨0, fun _ => 0, by omega, rfl, ⟨by rw [arrN_zero]; exact Blk.new _ _ _, fun i hi => by omega, fun i j _ hj => by omega, (Below.refl _ _).alloc (Nat.le_refl _) _, Nat.le_refl _⟩⟩
    case round =>
      obtain ⟨k, nb, hk, rfl, hN⟩ := hrel
      have HN := Lib.hid hN
      have hs := HS.out.keep hN.bel
      clear hN
      by_cases hlt : k < 8
      · have hlg : k < M.groups.length := by have := HL.out; omega
        obtain ⟨b2, o2, e2, hB, c0, c1, c2, c3, c4, c5, c6, c7, c8, c9, c10, c11, c12, c13⟩ := hs.group_ hlg
        obtain ⟨rfl, rfl⟩ : b = b2 ∧ o = o2 := by injection e2 with e2; injection e2 with e2 e3; exact ⟨e2, e3⟩
        clear hs c1 c3 c4 c5 c6 c7 c8 c9 c10 c11 c12 c13 e2
        have hkI : (k : Int) < (M.groups.length : Int) := by omega
        by_cases hu : (grp M k).used = true
        · have HU := Lib.hid hu
          rw [hu] at c0
          have d0 : wr.cell? ⟨w.heap.size, k, none⟩ = some (.pointer none) := by rw [HN.out.blk.cell, arrN_at M nb k k hlt, if_neg (by omega)]
          have d1 : wr.frozen? ⟨w.heap.size, k, none⟩ = false := HN.out.blk.frozen k
          have d2 := HN.out.blk.lt
          have hk8 : (k : Int) < 8 := by omega
          clear hu
          go_wp2
          go_roundw
          case rel => exact ⟨k + 1, _, by omega, by go_num, by rw [← World.setCell_alloc_past _ _ _ _ HN.out.blk.lt]; exact HN.out.put hlt HU.out⟩
          case measure => simp [intOf]; omega
        · have hu' : (grp M k).used = false := by simpa using hu
          have HU := Lib.hid hu'
          rw [hu'] at c0
          clear hu hu'
          go_wp2
          go_roundw
          case rel => exact ⟨k + 1, nb, by omega, by go_num, HN.out.skip HU.out⟩
          case measure => simp [intOf]; omega
      · have hk8 : k = 8 := by omega
        have HN1 : Nd1 w wr M w.heap.size 8 nb := by rw [← hk8]; exact HN.out
        have HN2 := Lib.hid HN1.on
        clear HN1
        have hge : M.groups.length ≤ k := by omega
        have hdec : decide (k < M.groups.length) = false := decide_eq_false (by omega)
        clear hk8
        go_wp2
        have hrg : wr.heap.size < (wr.alloc (.map #[] 0)).heap.size := by simp
        obtain ⟨r, hr⟩ : ∃ r, wr.heap.size = r := ⟨_, rfl⟩
        rw [hr] at HN2 ⊢
        generalize wr.alloc (.map #[] 0) = W0 at *
        clear HN hs hr hrg hmm
        go_loopw [7, 8, 9, 10] (fun i _ _ _ wr => ∃ g : Nat, 1 ≤ g ∧ g ≤ 8 ∧ i = .int .i64 g ∧ (List.range g).all (nodeI M) = true ∧ Nd2 w wr M w.heap.size r g nb) (fun i _ _ _ _ => 8 - (intOf i).toNat)
        case atStart => exact ⟨1, by omega, by omega, rfl, rfl, HN2.out⟩
        case round =>
          obtain ⟨g, hg1, hg8, rfl, hall, hN⟩ := hrel
          have HA := Lib.hid hall
          have HN := Lib.hid hN
          have hs := HS.out.keep hN.bel
          clear hN hall
          by_cases hlt : g < 8
          · have hlg : g < M.groups.length := by have := HL.out; omega
            have hs2 := Lib.hid hs
            obtain ⟨b2, o2, e2, hB, c0, c1, c2, c3, c4, c5, c6, c7, c8, c9, c10, c11, c12, c13⟩ := hs.group_ hlg
            obtain ⟨rfl, rfl⟩ : b = b2 ∧ o = o2 := by injection e2 with e2; injection e2 with e2 e3; exact ⟨e2, e3⟩
            have hgI : (g : Int) < (M.groups.length : Int) := by omega
            have hg0 : (0 : Int) ≤ (g : Int) := by omega
            have hgJ : (g : Int) < 8 := by omega
            have d0 : wr.cell? ⟨w.heap.size, g, none⟩ = some (if g < 8 ∧ (grp M g).used = true then .pointer (some ⟨nb g, 0, none⟩) else .pointer none) := by rw [HN.out.blk.cell, arrN_at M nb 8 g hlt]
            clear hs c0 c3 c4 c5 c6 c7 c8 c9 c10 c11 c12 c13 e2
            by_cases hu : (grp M g).used = true
            · have HU := Lib.hid hu
              rw [if_pos ⟨hlt, hu⟩] at d0
              have hnl := HNM.out g hlg
              clear hu
              by_cases f1 : nameB (grp M g).name = true
              · have F1 := Lib.hid f1
                clear f1
                by_cases f2 : usedI M (grp M g).parent = true
                · have F2 := Lib.hid f2
                  clear f2
                  obtain ⟨q, hq⟩ : ∃ q : Nat, (grp M g).parent = q := by
                    have h := F2.out
                    simp only [usedI, Bool.and_eq_true, decide_eq_true_eq] at h
                    exact ⟨(grp M g).parent.toNat, by omega⟩
                  have hpq : par M g = q := by rw [par, hq]; rfl
                  have hqu : q < 8 ∧ (grp M q).used = true := by
                    have h := F2.out
                    rw [hq] at h
                    have := HL.out
                    simp only [usedI, Bool.and_eq_true, decide_eq_true_eq, Int.toNat_natCast] at h
                    exact ⟨by omega, h.2⟩
                  obtain ⟨hq8, hqu⟩ := hqu
                  have HQU := Lib.hid hqu
                  have HQ := Lib.hid hq
                  have HPQ := Lib.hid hpq
                  have F2' := Lib.hid (show usedI M (q : Int) = true by rw [← hq]; exact F2.out)
                  rw [hq] at c1
                  clear hq hpq hqu
                  go_upto_region 17 with (first | (go_at_call 164; refine (iNameOk_any _ _ hnl).mono ?_; rintro e w4 ⟨rfl, hb4⟩; rw [F1.out]; have c1' := (hb4.cell (p := ⟨b, o + g * 14 + 1, none⟩) hB).trans c1) | (go_at_call 116; refine (iGroupUsed_any ca _ _ gc gh M _ (hs2.out.keep hb4) hgm _).mono ?_; rintro e w' ⟨rfl, rfl⟩; rw [F2'.out]))
                  have HN4 := Lib.hid (HN.out.below hb4)
                  have c2' := (hb4.cell (p := ⟨b, o + g * 14 + 2, none⟩) hB).trans c2
                  have hqJ : (q : Int) < 8 := by omega
                  have e0 : w4.cell? ⟨w.heap.size, g, none⟩ = some (.pointer (some ⟨nb g, 0, none⟩)) := by rw [HN4.out.blk.cell, arrN_at M nb 8 g hlt, if_pos ⟨hlt, HU.out⟩]
                  have e1 : w4.cell? ⟨w.heap.size, q, none⟩ = some (.pointer (some ⟨nb q, 0, none⟩)) := by rw [HN4.out.blk.cell, arrN_at M nb 8 q hq8, if_pos ⟨hq8, HQU.out⟩]
                  have e2 : w4.cell? ⟨nb g, 2, none⟩ = some (upv M nb g g) := by rw [(HN4.out.node g hlt HU.out).1.cell]; rfl
                  have e3 : w4.frozen? ⟨nb g, 2, none⟩ = false := (HN4.out.node g hlt HU.out).1.frozen 2
                  clear c1 c2 d0
                  go_still_tail 14, (by kernel_rfl)
                  change wpList _ _ _ _ _ w4.drew
                  have N3 := Lib.hid (HN4.out.link3 hg1 hlt HU.out HPQ.out)
                  go_upto_region 18 with (fail)
                  have hb5 := N3.out.bel
                  obtain ⟨W5, hW5⟩ : ∃ W5, (w4.setCell ⟨nb g, 2, none⟩ (.pointer (some ⟨nb q, 0, none⟩))).drew = W5 := ⟨_, rfl⟩
                  rw [hW5] at N3 hb5 ⊢
                  have hs5 := HS.out.keep hb5
                  obtain ⟨b5, o5, e5, hB5, k0, k1, k2, k3, k4, k5, k6, k7, k8, k9, k10, k11, k12, k13⟩ := hs5.group_ hlg
                  obtain ⟨rfl, rfl⟩ : b = b5 ∧ o = o5 := by injection e5 with e5; injection e5 with e5 e6; exact ⟨e5, e6⟩
                  rw [HQ.out] at k1
                  clear hW5 c1' c2' e0 e1 e2 e3 hs5 e5 k0 k3 k4 k5 k6 k7 k8 k9 k10 k11 k12 k13 hB hb4 HN4
                  have q1 := fun d os => cell_regrown k1 d os
                  have q2 := fun d os => cell_regrown k2 d os
                  have bd : Below W5.heap.size W5 W5.drew := ⟨rfl, rfl, rfl, Nat.le_refl _, fun _ _ => rfl⟩
                  refine region_by [false, false, false, false, false, false, false, false, false, false, false, true, true] (by kernel_rfl) (by kernel_rfl) (by kernel_rfl) ?_
                  repeat (first | (refine wpR_skip (by rfl) ?_; simp only [Act.put, List.setIfInBounds_toArray, List.set_cons_zero, List.set_cons_succ]) | (refine wpR_det (by rfl) (fun K hK => ?_); go_big_quiet_op; refine hK _ ?_; clear hK K))
                  refine wpR_bar (by rfl) (fun K hK => ?_)
                  go_big_op
                  refine hK _ _ (regrown_of_below (bd.andThen ((Below.refl _ _).alloc (Nat.le_refl _) _))) ?_
                  clear hK K
                  refine wpR_bar (by rfl) (fun K hK => ?_)
                  go_big_op
                  refine hK _ _ (regrown_of_below (((Below.refl _ _).alloc (Nat.le_refl _) _).drew)) ?_
                  clear hK K
                  refine wpR_nil ?_
                  go_upto_region 19 with (fail)
                  refine gen1d (p := fun W => Code.wp _ _ _ _ W) ?_
                  intro W6 b6 s6 kx
                  have x0 := kx.cell 0
                  have x1 := kx.cell 1
                  simp at x0 x1
                  clear kx s6 q1 q2 k1 k2 bd hb5
                  have N6 := Lib.hid (N3.out.below b6)
                  have KH := Lib.hid (show nodeI M g = !kvHas (keysTo M g) q (grp M g).name by rw [nodeI, HU.out, F1.out, F2.out, HQ.out, show (g == 0) = false by simp; omega]; rfl)
                  by_cases hk : kvHas (keysTo M g) q (grp M g).name = true
                  · obtain ⟨v, hlk⟩ := N6.out.map.found _ _ hk
                    have NO := Lib.hid (show nodesB M = false by rw [NB.out, all_of hlt (by rw [KH.out, hk]; rfl)]; rfl)
                    clear hk
                    go_wp2
                    go_ret2
                    exact out_no NO.out N6.out.bel
                  · have hk' : kvHas (keysTo M g) q (grp M g).name = false := by simpa using hk
                    have hlk := N6.out.map.look _ _ hk'
                    obtain ⟨W7, hup, hbut, hmap⟩ := N6.out.map.put _ _ (.int .i64 g) hk'
                    have HM := Lib.hid hmap
                    have HBU := Lib.hid hbut
                    have NY := Lib.hid (show nodeI M g = true by rw [KH.out, hk']; rfl)
                    clear hk hk' hbut hmap
                    go_wp2
                    go_roundw
                    case rel => exact ⟨g + 1, by omega, by omega, by go_num, by rw [all_succ, HA.out, NY.out]; rfl, N6.out.done HBU.out (by omega) HU.out (by rw [HQ.out]; exact HM.out)⟩
                    case measure => simp [intOf]; omega
                · have F2 := Lib.hid (show usedI M (grp M g).parent = false by simpa using f2)
                  have NO := Lib.hid (show nodesB M = false by rw [NB.out, all_of hlt (show nodeI M g = false by rw [nodeI, HU.out, F2.out, show (g == 0) = false by simp; omega]; simp)]; rfl)
                  clear f2
                  go_wp2_with (first | (go_at_call 164; refine (iNameOk_any _ _ hnl).mono ?_; rintro e w4 ⟨rfl, hb4⟩; rw [F1.out]; have c1' := (hb4.cell (p := ⟨b, o + g * 14 + 1, none⟩) hB).trans c1) | (go_at_call 116; refine (iGroupUsed_any ca _ _ gc gh M _ (hs2.out.keep hb4) hgm _).mono ?_; rintro e w' ⟨rfl, rfl⟩; rw [F2.out]))
                  go_ret2
                  exact out_no NO.out (HN.out.bel.andThen hb4)
              · have F1 := Lib.hid (show nameB (grp M g).name = false by simpa using f1)
                have NO := Lib.hid (show nodesB M = false by rw [NB.out, all_of hlt (show nodeI M g = false by rw [nodeI, HU.out, F1.out, show (g == 0) = false by simp; omega]; simp)]; rfl)
                clear f1
                go_wp2_with (go_at_call 164; refine (iNameOk_any _ _ hnl).mono ?_; rintro e w4 ⟨rfl, hb4⟩; rw [F1.out])
                go_ret2
                exact out_no NO.out (HN.out.bel.andThen hb4)
            · have hu' : (grp M g).used = false := by simpa using hu
              have HU := Lib.hid hu'
              rw [if_neg (by rw [hu']; simp)] at d0
              clear hu hu'
              go_wp2
              go_roundw
              case rel => exact ⟨g + 1, by omega, by omega, by go_num, by rw [all_succ, HA.out, nodeI, HU.out]; simp, HN.out.skip HU.out⟩
              case measure => simp [intOf]; omega
          · have hg88 : g = 8 := by omega
            have HN8 := Lib.hid (show Nd2 w wr M w.heap.size r 8 nb by rw [← hg88]; exact HN.out)
            have HA8 := Lib.hid (show (List.range 8).all (nodeI M) = true by rw [← hg88]; exact HA.out)
            clear hg88 HN HA
            have HN := HN8
            have HA := HA8
            have HAA := Lib.hid (show (List.range 8).all (nodeI M) = true from HA.out)
            have hp : ∀ g, 1 ≤ g → g < 8 → (grp M g).used = true → par M g < 8 ∧ (grp M (par M g)).used = true := by
              intro g h1 h8 hu
              have h := List.all_eq_true.1 HAA.out g (List.mem_range.2 h8)
              simp only [nodeI, hu, show (g == 0) = false by simp; omega, Bool.not_true, Bool.false_or, Bool.and_eq_true, usedI, decide_eq_true_eq] at h
              have := HL.out
              exact ⟨by unfold par; omega, h.1.2.2⟩
            have NA := Lib.hid (HN.out.at_ HU0.out hp)
            clear hp hs
            go_wp2
            go_loop [12, 124] (fun _ i => ∃ k : Nat, k ≤ 8 ∧ i = .int .i64 k ∧ (List.range k).all (depI M) = true) (fun _ i => 8 - (intOf i).toNat)
            case atStart => exact ⟨0, by omega, rfl, rfl⟩
            case round =>
              obtain ⟨k, hk, rfl, hall⟩ := hrel
              have HD := Lib.hid hall
              clear hall
              by_cases hlt : k < 8
              · have d0 : wr.cell? ⟨w.heap.size, k, none⟩ = some (if k < 8 ∧ (grp M k).used = true then .pointer (some ⟨nb k, 0, none⟩) else .pointer none) := by rw [HN.out.blk.cell, arrN_at M nb 8 k hlt]
                have hkJ : (k : Int) < 8 := by omega
                by_cases hu : (grp M k).used = true
                · have HU := Lib.hid hu
                  rw [if_pos ⟨hlt, hu⟩] at d0
                  clear hu
                  by_cases hd : 0 ≤ depP M 4 0 k
                  · have DY := Lib.hid (show depI M k = true by rw [depI, decide_eq_true hd]; simp)
                    go_wp2_with (go_at_call 165; refine (iDepth_any M nb k hlt HU.out _ NA.out).mono ?_; rintro e w' ⟨rfl, rfl⟩)
                    go_round
                    case rel => exact ⟨k + 1, by omega, by go_num, by rw [all_succ, HD.out, DY.out]; rfl⟩
                    case measure => simp [intOf]; omega
                  · have DN := Lib.hid (show nodesB M = false by rw [NB.out, all_of hlt (show depI M k = false by rw [depI, HU.out, decide_eq_false hd]; rfl)]; simp)
                    have hd2 : depP M 4 0 k < 0 := by omega
                    clear hd
                    go_wp2_with (go_at_call 165; refine (iDepth_any M nb k hlt HU.out _ NA.out).mono ?_; rintro e w' ⟨rfl, rfl⟩)
                    go_ret2
                    exact out_no DN.out HN.out.bel
                · have hu' : (grp M k).used = false := by simpa using hu
                  have DY := Lib.hid (show depI M k = true by rw [depI, hu']; rfl)
                  rw [if_neg (by rw [hu']; simp)] at d0
                  clear hu hu'
                  go_wp2
                  go_round
                  case rel => exact ⟨k + 1, by omega, by go_num, by rw [all_succ, HD.out, DY.out]; rfl⟩
                  case measure => simp [intOf]; omega
              · have hk8 : k = 8 := by omega
                have HDD := Lib.hid (show (List.range 8).all (depI M) = true by rw [← hk8]; exact HD.out)
                clear hk8
                go_wp2
                go_ret2
                exact ⟨_, by rw [NB.out, HAA.out, HDD.out]; rfl, HN.out.bel, fun _ => ⟨_, nb, rfl, HN.out.blk, NA.out⟩⟩
  · skip
    have NH := Lib.hid (show nodesB M = false by rw [nodesB, show nodesH M = false by simpa using hh]; rfl)
    by_cases hl : M.groups.length = 8
    · have hl0 : ((M.groups.length : Int) != 8) = false := by rw [hl]; rfl
      have hl1 : (0 : Int) < (M.groups.length : Int) := by omega
      obtain ⟨b, o, rfl, hB, c0, c1, c2, c3, c4, c5, c6, c7, c8, c9, c10, c11, c12, c13⟩ := hs.group_ (k := 0) (by omega)
      simp only [Nat.zero_mul, Nat.add_zero] at c0 c1 c2
      have HLL := Lib.hid hl
      clear hl hs c3 c4 c5 c6 c7 c8 c9 c10 c11 c12 c13 hnm
      by_cases hu0 : (grp M 0).used = true
      · rw [hu0] at c0
        by_cases hp0 : (grp M 0).parent = -1
        · rw [hp0] at c1
          by_cases hn0 : (grp M 0).name.toList = []
          · exact absurd (show nodesH M = true by rw [nodesH, HLL.out, hu0, hp0, hn0]; rfl) hh
          · have hn1 : ((grp M 0).name.toList != []) = true := by simpa using hn0
            have hn2 : (grp M 0).name.toList.isEmpty = false := by simpa using hn0
            clear hu0 hp0 hn0 hh
            go_enter Tryz.func149, Tryz.ntmps149
            go_wp2
            go_ret2
            exact out_no NH.out (Below.refl _ _)
        · have hp1 : ((grp M 0).parent != -1) = true := by simpa using hp0
          clear hu0 hp0 hh
          go_enter Tryz.func149, Tryz.ntmps149
          go_wp2
          go_ret2
          exact out_no NH.out (Below.refl _ _)
      · rw [show (grp M 0).used = false by simpa using hu0] at c0
        clear hu0 hh
        go_enter Tryz.func149, Tryz.ntmps149
        go_wp2
        go_ret2
        exact out_no NH.out (Below.refl _ _)
    · have hl0 : ((M.groups.length : Int) != 8) = true := by simp; omega
      clear hl hh
      go_enter Tryz.func149, Tryz.ntmps149
      go_wp2
      go_ret2
      exact out_no NH.out (Below.refl _ _)
set_option maxHeartbeats 1000000 in
theorem iTreeOk_any (ca ta ga : Option Addr) (gc : Nat) (gh : Nat → GH) (M : WorldM) (w : World) (hs : WA w ca ta ga gh M) (hgm : M.groups.length ≤ 1048576) (hnm : ∀ k, k < M.groups.length → (grp M k).name.size ≤ 1048576) :
    Calls Tryz.prog 111 #[.slice ga M.groups.length gc] w fun e w' => e = .returned (.bool (nodesB M)) ∧ Below w.heap.size w w' := by
  go_enter Tryz.func111, Tryz.ntmps111
  go_wp2_with (go_at_call 149; refine (iNodes_any ca ta ga gc gh M _ hs hgm hnm).mono ?_; rintro e w2 ⟨v, rfl, hb2, _⟩)
  go_ret
  exact ⟨rfl, hb2⟩
end
end Go.Proofs.YtomllcclallcdaaGreatDoor
namespace Go.Proofs.YtomllcclallcdaaGreatDoor
section
open Go.RowKit
theorem kvHas_keys (M : WorldM) (g : Nat) : kvHas (keysTo M g) (grp M g).parent (grp M g).name = (List.range g).any fun h => h != 0 && sameB M g h := by
  rw [Bool.eq_iff_iff]
  simp only [kvHas, keysTo, List.any_map, List.any_filter, List.any_eq_true, List.mem_range, Function.comp, sameB, Bool.and_eq_true, bne_iff_ne, beq_iff_eq]
  constructor
  · rintro ⟨h, h1, ⟨h2, h3⟩, h4, h5⟩
    exact ⟨h, h1, h2, ⟨h3, h4.symm⟩, h5.symm⟩
  · rintro ⟨h, h1, h2, ⟨h3, h4⟩, h5⟩
    exact ⟨h, h1, ⟨h2, h3⟩, h4.symm, h5.symm⟩
theorem depP_bd (M : WorldM) : ∀ (r n g : Nat), 0 ≤ depP M r n g → (n : Int) ≤ depP M r n g ∧ depP M r n g < n + r ∧ (g ≠ 0 → (n : Int) + 1 ≤ depP M r n g)
  | 0, n, g, h => by simp [depP] at h
  | r + 1, n, g, h => by
    by_cases h0 : g = 0
    · simp only [depP, if_pos h0] at h ⊢
      exact ⟨Int.le_refl _, by omega, fun h1 => absurd h0 h1⟩
    · simp only [depP, if_neg h0] at h ⊢
      obtain ⟨h1, h2, _⟩ := depP_bd M r (n + 1) (par M g) h
      exact ⟨by omega, by omega, fun _ => by omega⟩
theorem depL_of (M : WorldM) (h0 : (grp M 0).used = true) (hl : M.groups.length = 8) (hp : ∀ g, g < 8 → g ≠ 0 → (grp M g).used = true → usedI M (grp M g).parent = true) :
    ∀ (r r' n g : Nat), r ≤ r' → g < 8 → (grp M g).used = true → 0 ≤ depP M r n g → depL M r' n g = depP M r n g
  | 0, _, n, g, _, _, _, h => by simp [depP] at h
  | r + 1, 0, n, g, hr, _, _, _ => by omega
  | r + 1, r' + 1, n, g, hr, hg, hu, h => by
    have hui : usedI M (g : Int) = true := by simp [usedI, hl, hu]; omega
    by_cases hz : g = 0
    · subst hz
      simp only [depP, depL, if_pos hui]
      simp
    · have hpu := hp g hg hz hu
      obtain ⟨q, hq⟩ : ∃ q : Nat, (grp M g).parent = q := by
        simp only [usedI, Bool.and_eq_true, decide_eq_true_eq] at hpu
        exact ⟨(grp M g).parent.toNat, by omega⟩
      have hpq : par M g = q := by rw [par, hq]; rfl
      have hq8 : q < 8 ∧ (grp M q).used = true := by
        rw [hq] at hpu
        simp only [usedI, Bool.and_eq_true, decide_eq_true_eq, Int.toNat_natCast] at hpu
        exact ⟨by omega, hpu.2⟩
      simp only [depP, if_neg hz, hpq] at h ⊢
      have ih := depL_of M h0 hl hp r r' (n + 1) q (by omega) hq8.1 hq8.2 h
      rw [depL, if_pos hui, if_neg (by omega), Int.toNat_natCast, hq]
      exact ih
theorem depP_of (M : WorldM) : ∀ (r n g d : Nat), d < r → (∀ f, d ≤ f → dpF M f g = d) → depP M r n g = n + d
  | 0, n, g, d, h, _ => by omega
  | r + 1, n, g, d, h, hd => by
    by_cases h0 : g = 0
    · have := hd (d + 1) (by omega)
      simp only [dpF, if_pos h0] at this
      simp only [depP, if_pos h0]
      omega
    · have h1 := hd (d + 1) (by omega)
      simp only [dpF, if_neg h0] at h1
      obtain ⟨d', rfl⟩ : ∃ d', d = d' + 1 := ⟨d - 1, by omega⟩
      have ih := depP_of M r (n + 1) (par M g) d' (by omega) fun f hf => by
        have h2 := hd (f + 1) (by omega)
        simp only [dpF, if_neg h0] at h2
        omega
      simp only [depP, if_neg h0, ih]
      omega
theorem nodes_tree (M : WorldM) : nodesB M = treeB M := by
  by_cases hh : nodesH M = true
  · rw [nodesB_of hh]
    have hh2 := hh
    simp only [nodesH, Bool.and_eq_true, beq_iff_eq, List.isEmpty_iff] at hh2
    obtain ⟨⟨⟨hl, hu0⟩, hp0⟩, hn0⟩ := hh2
    have e : treeB M = (List.range 8).all fun g => g == 0 || nodeB M g := by
      rw [treeB, show ((M.groups.length == 8) && (grp M 0).used && ((grp M 0).parent == -1) && (grp M 0).name.toList.isEmpty) = true from hh]; rfl
    rw [e, Bool.eq_iff_iff]
    simp only [Bool.and_eq_true, List.all_eq_true, List.mem_range]
    constructor
    · rintro ⟨h1, h2⟩ g hg
      by_cases h0 : g = 0
      · simp [h0]
      by_cases hu : (grp M g).used = true
      · have a1 := h1 g hg
        have a2 := h2 g hg
        simp only [nodeI, hu, show (g == 0) = false by simpa using h0, Bool.not_true, Bool.false_or, Bool.and_eq_true, Bool.not_eq_true'] at a1
        simp only [depI, hu, Bool.not_true, Bool.false_or, decide_eq_true_eq] at a2
        have hb := depP_bd M 4 0 g a2
        have hp : ∀ g, g < 8 → g ≠ 0 → (grp M g).used = true → usedI M (grp M g).parent = true := fun k hk hk0 hku => by
          have := h1 k hk
          simp only [nodeI, hku, show (k == 0) = false by simpa using hk0, Bool.not_true, Bool.false_or, Bool.and_eq_true] at this
          exact this.1.2
        have hd := depL_of M hu0 hl hp 4 9 0 g (by omega) hg hu a2
        have h3 := hb.2.2 h0
        simp only [nodeB, hu, show (g == 0) = false by simpa using h0, Bool.not_true, Bool.false_or, Bool.and_eq_true, Bool.not_eq_true', ← kvHas_keys, inR_iff]
        have hd' : depL M 9 0 (g : Int) = depP M 4 0 g := hd
        exact ⟨⟨a1.1.1, by rw [hd']; omega⟩, a1.2⟩
      · simp [nodeB, show (grp M g).used = false by simpa using hu]
    · intro h
      have key : ∀ g, g < 8 → g ≠ 0 → (grp M g).used = true → nameB (grp M g).name = true ∧ (1 ≤ depL M 9 0 g ∧ depL M 9 0 g ≤ 3) ∧ kvHas (keysTo M g) (grp M g).parent (grp M g).name = false := fun g hg h0 hu => by
        have := h g hg
        simp only [nodeB, hu, show (g == 0) = false by simpa using h0, Bool.not_true, Bool.false_or, Bool.and_eq_true, Bool.not_eq_true', ← kvHas_keys, inR_iff] at this
        exact ⟨this.1.1, this.1.2, this.2⟩
      refine ⟨fun g hg => ?_, fun g hg => ?_⟩
      · by_cases h0 : g = 0
        · simp [nodeI, h0]
        by_cases hu : (grp M g).used = true
        · obtain ⟨k1, k2, k3⟩ := key g hg h0 hu
          obtain ⟨d, e1, _, _, e4⟩ := depL_spec M 9 0 g (by omega)
          obtain ⟨d', _, hpu, _⟩ := e4 (by omega)
          rw [Int.toNat_natCast] at hpu
          simp [nodeI, k1, k3, hpu]
        · simp [nodeI, show (grp M g).used = false by simpa using hu]
      · by_cases hu : (grp M g).used = true
        · by_cases h0 : g = 0
          · subst h0
            simp [depI, depP]
          · obtain ⟨k1, k2, k3⟩ := key g hg h0 hu
            obtain ⟨d, e1, _, e3, _⟩ := depL_spec M 9 0 g (by omega)
            rw [Int.toNat_natCast] at e3
            have := depP_of M 4 0 g d (by omega) e3
            simp [depI, this]
        · simp [depI, show (grp M g).used = false by simpa using hu]
  · have hh' : nodesH M = false := by simpa using hh
    rw [nodesB, hh', treeB, show ((M.groups.length == 8) && (grp M 0).used && ((grp M 0).parent == -1) && (grp M 0).name.toList.isEmpty) = false from hh']
    rfl
def NextOk (M : WorldM) : Prop := ∀ k, k < 8 → (grp M k).next ≤ 9223372036854775807
theorem quota_same (M : WorldM) (k : Nat) (hn : 0 ≤ M.now ∧ M.now ≤ 100000000000000000) (hx : (grp M k).next ≤ 9223372036854775807) : quotaI M (grp M k) = grpQ M (grp M k) := by
  generalize grp M k = x at *
  unfold quotaI grpQ
  by_cases hq : x.band.quota = 0
  · rw [if_pos hq]
    by_cases hb : noBand x.band = true
    · rw [if_pos hb, hb]; rfl
    · rw [if_neg hb, show noBand x.band = false by simpa using hb]
      simp [bandB, bandHead, inR, hq]
  · rw [if_neg hq, if_neg (by simp [noBand, hq])]
    by_cases hp : inR x.period 1 1000 = true
    · rw [inR_iff] at hp
      have e : inR x.next (M.now + 1) (M.now + x.period) = (decide (M.now < x.next) && decide (wrap64 (x.next - M.now) ≤ x.period)) := by
        by_cases hlt : M.now < x.next
        · have hw : wrap64 (x.next - M.now) = x.next - M.now := IntWalk.wrap64_in _ ⟨by omega, by omega⟩
          rw [hw, Bool.eq_iff_iff]
          simp only [inR_iff, Bool.and_eq_true, decide_eq_true_eq]
          omega
        · rw [Bool.eq_iff_iff]
          simp only [inR_iff, Bool.and_eq_true, decide_eq_true_eq]
          omega
      rw [e]
      simp only [Bool.and_assoc]
    · rw [show inR x.period 1 1000 = false by simpa using hp]
      simp
theorem groups_same (M : WorldM) (hl : M.groups.length = 8) (h0 : (grp M 0).used = true) (hn : 0 ≤ M.now ∧ M.now ≤ 100000000000000000) (hx : NextOk M) : groupsI M = (List.range 8).all (groupB M) := by
  have e : ∀ k, k < 8 → groupB M k = (groupI M (grp M k) && (decide (k ≠ 0) || grpR (grp M k) || !(grp M k).used)) := by
    intro k hk
    unfold groupB groupI
    by_cases hu : (grp M k).used = true
    · rw [if_pos hu, if_pos hu, quota_same M k hn (hx k hk), hu]
      simp only [grpU, Bool.not_true, Bool.or_false]
      cases inR (grp M k).weight 1 20 <;> cases inR (grp M k).cpus 0 15 <;> cases ((grp M k).cpus == 0) <;> cases timeB (grp M k).sum <;> cases (((grp M k).shelves.length : Int) == M.cpus.length) <;> cases grpQ M (grp M k) <;> cases (decide (k ≠ 0) || grpR (grp M k)) <;> rfl
    · rw [if_neg hu, if_neg hu, show (grp M k).used = false by simpa using hu]
      simp
  rw [groupsI, hl, Bool.eq_iff_iff]
  simp only [Bool.and_eq_true, List.all_eq_true, List.mem_range]
  constructor
  · rintro ⟨h1, h2⟩ k hk
    rw [e k hk, h1 k hk]
    by_cases hz : k = 0
    · subst hz; simp [h2]
    · simp [hz]
  · intro h
    refine ⟨fun k hk => ?_, ?_⟩
    · have := h k hk
      rw [e k hk, Bool.and_eq_true] at this
      exact this.1
    · have := h 0 (by decide)
      rw [e 0 (by decide), Bool.and_eq_true] at this
      simpa [h0] using this.2
theorem all3 (p : Int → Bool) (a b c : Int) : [a, b, c].all p = (p a && p b && p c) := by simp [Bool.and_assoc]
theorem all2 (p : Int → Bool) (a b : Int) : [a, b].all p = (p a && p b) := by simp
theorem wof_zero (n : Int) : (wof n == 0) = !inR n (-10) 9 := by
  unfold wof
  by_cases h : inR n (-10) 9 = true
  · rw [if_pos h, h]
    rw [inR_iff] at h
    simp; omega
  · rw [if_neg h, show inR n (-10) 9 = false by simpa using h]; rfl
theorem task_same (M : WorldM) (t : Nat) (hf : (tsk M t).st = 1 → taskB1 M (tsk M t) = true → taskB2 M (tsk M t) = true → timeB (she M (tsk M t).gr.toNat (tsk M t).cpu.toNat).floor = true) : taskI M t = taskB M t := by
  unfold taskI taskB
  generalize tsk M t = x at *
  by_cases h0 : x.st = 0
  · rw [if_pos h0]
    simp [h0]
  · rw [if_neg h0, show zeroT x = false by simp [zeroT, h0], Bool.false_or]
    have e1 : (((x.st == 1) || (x.st == 2)) && taskI1 M x) = taskB1 M x := by
      simp only [taskI1, taskB1, wof_zero, Bool.not_not]
      cases ((x.st == 1) || (x.st == 2)) <;> cases usedI M x.gr <;> cases inR x.nice (-10) 9 <;> simp
    have e2 : taskI2 M x = taskB2 M x := by simp only [taskI2, taskB2, all3]
    rw [e1, e2]
    by_cases hb : (taskB1 M x && taskB2 M x) = true
    · have hb2 := hb
      simp only [Bool.and_eq_true] at hb2
      have hst : x.st = 1 ∨ x.st = 2 := by
        have := hb2.1
        simp only [taskB1, Bool.and_eq_true, Bool.or_eq_true, beq_iff_eq] at this
        exact this.1.1.1.1
      rw [hb]
      rcases hst with h1 | h2
      · have := hf h1 hb2.1 hb2.2
        simp [taskI3, taskB3, h1, this]
      · simp [taskI3, taskB3, h2]
    · rw [show (taskB1 M x && taskB2 M x) = false by simpa only [Bool.not_eq_true] using hb]
      rfl
theorem shelves_same (M : WorldM) (hT : Tree M) (hG : GOk M) (hZ : ∀ k, k < 8 → (grp M k).used = false → (grp M k).shelves.length = 0) : shelvesI M = shelvesB M := by
  rw [Bool.eq_iff_iff]
  simp only [shelvesI, shelvesB, hT.len, Bool.and_eq_true, List.all_eq_true, List.mem_range]
  have e1 : ∀ x, shelfI1 x = shelfB1 x := fun x => by simp only [shelfI1, shelfB1, all3]
  constructor
  · rintro ⟨h1, h2⟩ g hg c hc
    by_cases hu : (grp M g).used = true
    · have hcl : c < M.cpus.length := by rw [← hG.she g hg hu]; exact hc
      have a1 := h1 g hg c hc
      have a2 := h2 c hcl
      simp only [laneI, Bool.and_eq_true, List.all_eq_true, List.mem_range] at a2
      rw [shelfB, ← e1, a1, Bool.true_and]
      by_cases h0 : g = 0
      · subst h0; rw [if_pos rfl]; exact a2.1
      · have a3 := a2.2 g hg
        rw [if_neg h0]
        simpa [shelfI2, h0, hu] using a3
    · rw [hZ g hg (by simpa using hu)] at hc; omega
  · intro h
    refine ⟨fun g hg c hc => ?_, fun c hc => ?_⟩
    · have := h g hg c hc
      rw [shelfB, Bool.and_eq_true] at this
      rw [e1]; exact this.1
    · simp only [laneI, Bool.and_eq_true, List.all_eq_true, List.mem_range]
      constructor
      · have := h 0 (by decide) c (by rw [hG.she 0 (by decide) hT.root]; exact hc)
        rw [shelfB, if_pos rfl, Bool.and_eq_true] at this
        exact this.2
      · intro g hg
        by_cases h0 : g = 0
        · simp [shelfI2, h0]
        by_cases hu : (grp M g).used = true
        · have := h g hg c (by rw [hG.she g hg hu]; exact hc)
          rw [shelfB, if_neg h0, Bool.and_eq_true] at this
          simpa [shelfI2, h0, hu] using this.2
        · simp [shelfI2, show (grp M g).used = false by simpa using hu]
theorem cpu_same (M : WorldM) (c : Nat) : cpuI M c = cpuB M c := by
  unfold cpuI cpuB cpuHead
  generalize cpo M c = x
  rw [all2]
  by_cases hn : x.cur < 0
  · rw [if_pos hn]
    by_cases h1 : x.cur = -1
    · have e : inR x.cur (-1) ((M.tasks.length : Int) - 1) = true := by rw [inR_iff]; omega
      have e2 : taskIn M x.cur = false := by rw [h1]; rfl
      rw [e, e2, h1]
      simp
    · have e : inR x.cur (-1) ((M.tasks.length : Int) - 1) = false := by
        rw [← Bool.not_eq_true, inR_iff]; omega
      have e2 : taskIn M x.cur = false := by
        rw [taskIn, show inR x.cur 0 ((M.tasks.length : Int) - 1) = false by rw [← Bool.not_eq_true, inR_iff]; omega]; rfl
      rw [e, e2, show (x.cur == -1) = false by simpa using h1]
      simp
  · rw [if_neg hn, show (x.cur == -1) = false by simp; omega, Bool.false_and, Bool.false_or]
    obtain ⟨t, ht⟩ : ∃ t : Nat, x.cur = t := ⟨x.cur.toNat, by omega⟩
    rw [ht, Int.toNat_natCast]
    by_cases hl : t < M.tasks.length
    · have e : inR (t : Int) (-1) ((M.tasks.length : Int) - 1) = true := by rw [inR_iff]; omega
      have e2 : inR (t : Int) 0 ((M.tasks.length : Int) - 1) = true := by rw [inR_iff]; omega
      rw [e, taskIn, e2, Int.toNat_natCast]
      unfold lineI lineM
      by_cases h1 : (tsk M t).st = 1
      · by_cases h2 : (tsk M t).cpu = (c : Int)
        · rw [h1, h2, Int.toNat_natCast]
          simp only [show ((1 : Int) == 0) = false from rfl, show ((1 : Int) == 1) = true from rfl, beq_self_eq_true, Bool.not_false, Bool.and_true, Bool.true_and]
          cases timeB x.busy <;> cases timeB x.idle <;> cases x.up <;> cases inR x.ran 1 149 <;> cases onL M c (ch M (tsk M t).gr.toNat) <;> rfl
        · rw [show ((tsk M t).cpu == (c : Int)) = false by simpa using h2]
          simp
      · rw [show ((tsk M t).st == 1) = false by simpa using h1]
        simp
    · have e : inR (t : Int) (-1) ((M.tasks.length : Int) - 1) = false := by rw [← Bool.not_eq_true, inR_iff]; omega
      have e2 : inR (t : Int) 0 ((M.tasks.length : Int) - 1) = false := by rw [← Bool.not_eq_true, inR_iff]; omega
      rw [e, taskIn, e2]
      simp
theorem floor_ok {M : WorldM} (hT : Tree M) (hG : GOk M) (hc : M.cpus.length ≤ 4) (hS : shelvesB M = true) (x : TaskM) (h1 : taskB1 M x = true) (h2 : taskB2 M x = true) : timeB (she M x.gr.toNat x.cpu.toNat).floor = true := by
  simp only [taskB1, taskB2, Bool.and_eq_true, usedI, decide_eq_true_eq] at h1 h2
  obtain ⟨hcl, hcu⟩ := where_has hc h2.2
  have hg8 : x.gr.toNat < 8 := by have := hT.len; omega
  have hu : (grp M x.gr.toNat).used = true := h1.1.1.1.2.2
  simp only [shelvesB, List.all_eq_true, List.mem_range] at hS
  have := hS x.gr.toNat hg8 x.cpu.toNat (by rw [hG.she _ hg8 hu]; omega)
  simp only [shelfB, shelfB1, Bool.and_eq_true] at this
  exact this.1.1.1.1
theorem rest_same {M : WorldM} (hT : Tree M) (hG : GOk M) (hZ : ∀ k, k < 8 → (grp M k).used = false → (grp M k).shelves.length = 0) (hc : M.cpus.length ≤ 4) :
    (tasksI M && (shelvesI M && cpusI M)) = ((List.range M.tasks.length).all (taskB M) && (shelvesB M && cpusB M)) := by
  have e3 : cpusI M = cpusB M := by rw [cpusI, cpusB]; congr 1; funext c; exact cpu_same M c
  rw [shelves_same M hT hG hZ, e3]
  by_cases hS : shelvesB M = true
  · have e : tasksI M = (List.range M.tasks.length).all (taskB M) := by
      rw [tasksI]; congr 1; funext t
      exact task_same M t fun _ h1 h2 => floor_ok hT hG hc hS _ h1 h2
    rw [e]
  · rw [show shelvesB M = false by simpa using hS]
    simp
def shapeI (M : WorldM) : Bool := [M.now].all timeB && inR M.cpus.length 1 4 && !(ups M == 0) && ((M.tasks.length : Int) == 12) && nodesB M
theorem shape_same (M : WorldM) : shapeI M = worldH M := by
  rw [shapeI, worldH, nodes_tree]
  have e : ((M.tasks.length : Int) == 12) = (M.tasks.length == 12) := by
    rw [Bool.eq_iff_iff]; simp; omega
  rw [e, show [M.now].all timeB = inR M.now 0 100000000000000000 by simp [timeB]]
  cases inR M.now 0 100000000000000000 <;> cases inR (M.cpus.length : Int) 1 4 <;> cases (ups M == 0) <;> cases (M.tasks.length == 12) <;> cases treeB M <;> rfl
theorem world_same (M : WorldM) (hx : NextOk M) : worldB M = (shapeI M && (groupsI M && (tasksI M && (shelvesI M && cpusI M)))) := by
  rw [worldB, worldL, shape_same]
  by_cases hh : worldH M = true
  · rw [hh, Bool.true_and, Bool.true_and]
    simp only [worldH, Bool.and_eq_true] at hh
    obtain ⟨⟨⟨⟨h1, h2⟩, h3⟩, h4⟩, h5⟩ := hh
    have hT := tree_of h4
    rw [groups_same M hT.len hT.root (inR_iff.1 h1) hx, Bool.and_assoc]
    by_cases hg : (List.range 8).all (groupB M) = true
    · rw [hg, Bool.true_and, Bool.true_and]
      exact (rest_same hT (gok_of hg) (gz_of hg) (by have := (inR_iff.1 h2).2; omega)).symm
    · rw [show (List.range 8).all (groupB M) = false by simpa only [Bool.not_eq_true] using hg]
      rfl
  · rw [show worldH M = false by simpa using hh]
    rfl
theorem ear_of {M : WorldM} (hT : Tree M) (hI : tasksI M = true) (hS : shelvesI M = true) : Ear M := by
  simp only [tasksI, shelvesI, hT.len, Bool.and_eq_true, List.all_eq_true, List.mem_range] at hI hS
  have htb : ∀ {n : Int}, timeB n = true → 0 ≤ n ∧ n ≤ 100000000000000000 := fun h => inR_iff.1 h
  refine ⟨fun t ht h1 => ?_, fun t ht => ?_, fun g c hg hc => ?_, fun g c hg hc => ?_⟩
  · have := hI t ht
    simp only [taskI, Bool.or_eq_true, Bool.and_eq_true, taskI1] at this
    rcases this with h | h
    · simp [zeroT, h1] at h
    · have hu := h.1.1.2.1.1
      simp only [usedI, Bool.and_eq_true, decide_eq_true_eq] at hu
      exact ⟨(tsk M t).gr.toNat, by omega, by have := hT.len; omega, hu.2⟩
  · have := hI t ht
    simp only [taskI, Bool.or_eq_true, Bool.and_eq_true, taskI2, all3] at this
    rcases this with h | h
    · simp only [zeroT, Bool.and_eq_true, beq_iff_eq] at h
      rw [h.1.1.1.2]; omega
    · exact htb h.1.2.1.1.1.1
  · have := hS.1 g hg c hc
    simp only [shelfI1, all3, Bool.and_eq_true] at this
    exact htb this.1.1.2
  · have := hS.1 g hg c hc
    simp only [shelfI1, all3, Bool.and_eq_true] at this
    exact htb this.1.1.1
end
end Go.Proofs.YtomllcclallcdaaGreatDoor
namespace Go.Proofs.YtomllcclallcdaaGreatDoor
section
structure Facts (M : WorldM) : Prop where
  tree : Tree M
  gok : GOk M
  ear : Ear M
  c4 : M.cpus.length ≤ 4
  c1 : 1 ≤ M.cpus.length
  t12 : M.tasks.length = 12
  tk : ∀ t, t < 12 → (tsk M t).st ≠ 0 → ∃ g c : Nat, (tsk M t).gr = g ∧ g < 8 ∧ (grp M g).used = true ∧ (tsk M t).cpu = c ∧ c < M.cpus.length
  band : ∀ g, g < 8 → (grp M g).used = true → (grp M g).band.quota ≠ 0 → bandB (grp M g).band = true
theorem facts_of {M : WorldM} (h : worldB M = true) : Facts M := by
  simp only [worldB, worldH, worldL, Bool.and_eq_true, beq_iff_eq] at h
  obtain ⟨⟨⟨⟨⟨h1, h2⟩, h3⟩, h4⟩, h5⟩, ⟨h6, h7⟩, h8, h9⟩ := h
  have hT := tree_of h4
  have hG := gok_of h6
  rw [inR_iff] at h2
  have hc : M.cpus.length ≤ 4 := by omega
  have hr := rest_same hT hG (gz_of h6) hc
  rw [h7, h8, h9] at hr
  simp only [Bool.and_true, Bool.and_eq_true] at hr
  refine ⟨hT, hG, ear_of hT hr.1 hr.2.1, hc, by omega, h3, fun t ht hst => ?_, fun g hg hu hq => ?_⟩
  · have := List.all_eq_true.1 h7 t (List.mem_range.2 (by omega))
    rw [taskB, if_neg hst, Bool.and_eq_true, Bool.and_eq_true] at this
    obtain ⟨⟨t1, t2⟩, _⟩ := this
    simp only [taskB1, Bool.and_eq_true, usedI, decide_eq_true_eq] at t1
    simp only [taskB2, Bool.and_eq_true] at t2
    obtain ⟨hcl, hcu⟩ := where_has hc t2.2
    have := hT.len
    exact ⟨(tsk M t).gr.toNat, (tsk M t).cpu.toNat, by omega, by omega, t1.1.1.1.2.2, by omega, by omega⟩
  · have := List.all_eq_true.1 h6 g (List.mem_range.2 hg)
    rw [groupB, if_pos hu] at this
    simp only [grpQ, if_neg hq, Bool.and_eq_true] at this
    exact this.2.1.1.1.1
end
end Go.Proofs.YtomllcclallcdaaGreatDoor
namespace Go.Proofs.YtomllcclallcdaaGreatDoor
section
open Go.RowKit Go.Sort
inductive Sk where
  | done : Sk
  | det (i : Nat) (t : Sk) : Sk
  | one (i : Nat) (t : Sk) : Sk
  | two (i : Nat) (ti : Sk) (j : Nat) (tj : Sk) : Sk
def Sk.len : Sk → Nat
  | .done => 0
  | .det _ t => t.len + 1
  | .one _ t => t.len + 1
  | .two _ ti _ _ => ti.len + 1
def plainOp2 (o : Oper) : Bool := plainOp o || match o.op with
  | .convert _ _ _ => true
  | _ => false
theorem plain_value2 {o : Oper} (hp : plainOp2 o = true) {P : Program} {ρ : Operand → Value} {w w' : World} {n : Next} (h : (execOp ρ o).run P w = .ok n w') : ∃ u, n = .value u := by
  rcases Bool.or_eq_true _ _ |>.mp hp with hp | hp
  · exact plain_value hp h
  · obtain ⟨dst, op, ty, pos, aft, gd⟩ := o
    cases op <;> simp only [Bool.false_eq_true] at hp
    exact ok_value (g := id) h
section
variable {P : Program} {l : List Oper} {C : World → Prop} {md : Region.Mode}
def barT (P : Program) (l : List Oper) (C : World → Prop) (i : Nat) (X : Act → World → Prop) (a : Act) (w : World) : Prop :=
  ∃ o, l[i]? = some o ∧ if Region.wanted o (yielded l.toArray a.tmps) = true then o.wp P a w (fun a' w' => C w' ∧ X a' w') (fun _ _ _ => False) else X (a.put o.dst undef) w
def wpT (P : Program) (l : List Oper) (C : World → Prop) (Q : Act → World → Prop) : Sk → Act → World → Prop
  | .done, a, w => Q a w
  | .det i t, a, w => ∃ o, l[i]? = some o ∧ if Region.wanted o (yielded l.toArray a.tmps) = true then o.quiet P a C (fun a' => wpT P l C Q t a' w) else wpT P l C Q t (a.put o.dst undef) w
  | .one i t, a, w => barT P l C i (wpT P l C Q t) a w
  | .two i ti j tj, a, w => barT P l C i (wpT P l C Q ti) a w ∧ barT P l C j (wpT P l C Q tj) a w
def ordT (md : Region.Mode) (ops : Array Oper) : Sk → Array Bool → Bool
  | .done, listed => (Region.ready md ops listed).isEmpty
  | .det i t, listed => ((Region.ready md ops listed).contains i && (Region.free md ops listed i && ((ops[i]?).map plainOp2).getD false)) && ordT md ops t (listed.setIfInBounds i true)
  | .one i t, listed => Region.ready md ops listed == [i] && ordT md ops t (listed.setIfInBounds i true)
  | .two i ti j tj, listed => Region.ready md ops listed == [i, j] && (ti.len == tj.len && (ordT md ops ti (listed.setIfInBounds i true) && ordT md ops tj (listed.setIfInBounds j true)))
theorem wpOp_of_barT {i : Nat} {X : Act → World → Prop} {a : Act} {w : World} {Q : Exit → Act → World → Prop} (hC : C w) (h : barT P l C i X a w) : wpOp P l.toArray Q i (fun a' w' => C w' ∧ X a' w') a w := by
  obtain ⟨o, ho, h⟩ := h
  have hi : l.toArray[i]? = some o := by simpa using ho
  unfold wpOp
  simp only [hi]
  split
  · rename_i hw
    simp only [hw, if_true] at h
    refine .inl ?_
    unfold Oper.wp at *
    generalize (execOp a.eval o).run P w = r at *
    cases r with
    | ok n w' =>
      cases n <;> simp only [Oper.upon] at h ⊢ <;> first
        | exact h
        | exact Calls.mono h fun e w'' he => by
            cases e with
            | returned v => exact he
            | panicked c => exact he.elim
            | outgrown => obtain ⟨_, _, q⟩ := he; exact q.elim
    | halt x w' => cases x <;> simp only [Oper.upon] at h ⊢ <;> exact h.elim
  · rename_i hw
    simp only [hw] at h
    exact ⟨hC, h⟩
theorem wpAnyH_of_T {K : Act → World → Prop} (hs : Region.noSelect l.toArray = true) : ∀ (t : Sk) (listed : Array Bool) (a : Act) (w : World), ordT md l.toArray t listed = true → C w → wpT P l C K t a w →
    wpAnyH P md l.toArray (fun e a w => e = .normal ∧ K a w) C t.len listed a w
  | .done, listed, a, w, ho, _, h => ⟨by simpa [ordT] using ho, rfl, h⟩
  | .det i t, listed, a, w, ho, hC, h => by
    simp only [ordT, Bool.and_eq_true] at ho
    obtain ⟨⟨hr, hf, hp⟩, ho2⟩ := ho
    obtain ⟨o, hio, h⟩ := h
    have hi : l.toArray[i]? = some o := by simpa using hio
    have hp' : plainOp2 o = true := by simpa [hi] using hp
    by_cases hw : Region.wanted o (yielded l.toArray a.tmps) = true
    · simp only [hw, if_true] at h
      obtain ⟨v, h1, h2⟩ := h
      refine wpAnyH_take hi hs hf hr (fun c a w q => by cases q.1) (.inl ⟨hw, fun w' hw' => ?_⟩) hC (wpAnyH_of_T hs t _ _ w ho2 hC h2)
      have h3 := h1 w' hw'
      unfold Oper.quietAt at h3
      generalize hx : (execOp a.eval o).run P w' = r at h3
      cases r with
      | ok n w'' =>
        obtain ⟨u, rfl⟩ := plain_value2 hp' hx
        simp only [Oper.quietUpon] at h3
        rw [h3.1, h3.2]
      | halt x w'' => exact h3.elim
    · have hw' : Region.wanted o (yielded l.toArray a.tmps) = false := by simpa using hw
      simp only [hw', Bool.false_eq_true, if_false] at h
      exact wpAnyH_take hi hs hf hr (fun c a w q => by cases q.1) (.inr ⟨hw', rfl⟩) hC (wpAnyH_of_T hs t _ _ w ho2 hC h)
  | .one i t, listed, a, w, ho, hC, h => by
    simp only [ordT, Bool.and_eq_true] at ho
    refine wpAnyH_all (by simpa using ho.1) (by simp) fun j hj => ?_
    obtain rfl : j = i := by simpa using hj
    exact wpOp_mono (fun a' w' hh => ⟨hh.1, wpAnyH_of_T hs t _ a' w' ho.2 hh.1 hh.2⟩) (wpOp_of_barT hC h)
  | .two i ti j tj, listed, a, w, ho, hC, h => by
    simp only [ordT, Bool.and_eq_true, beq_iff_eq] at ho
    obtain ⟨h1, h2, h3, h4⟩ := ho
    refine wpAnyH_all h1 (by simp) fun k hk => ?_
    have hk' : k = i ∨ k = j := by simpa using hk
    rcases hk' with rfl | rfl
    · exact wpOp_mono (fun a' w' hh => ⟨hh.1, wpAnyH_of_T hs ti _ a' w' h3 hh.1 hh.2⟩) (wpOp_of_barT hC h.1)
    · refine wpOp_mono (fun a' w' hh => ⟨hh.1, ?_⟩) (wpOp_of_barT hC h.2)
      have := wpAnyH_of_T hs tj _ a' w' h4 hh.1 hh.2
      rwa [← h2] at this
structure Rgt (P : Program) (l : List Oper) (C : World → Prop) (Q : Act → World → Prop) (t : Sk) (a : Act) (w : World) : Prop where
  out : wpT P l C Q t a w
theorem wpT_nil {Q : Act → World → Prop} {a : Act} {w : World} (h : Q a w) : Rgt P l C Q .done a w := ⟨h⟩
theorem wpT_det {Q : Act → World → Prop} {a : Act} {w : World} {i : Nat} {t : Sk} {o : Oper} (ho : l[i]? = some o) (hw : Region.wanted o (yielded l.toArray a.tmps) = true)
    (h : ∀ K : Act → Prop, (∀ a, Rgt P l C Q t a w → K a) → o.quiet P a C K) : Rgt P l C Q (.det i t) a w := ⟨⟨o, ho, by rw [if_pos hw]; exact h _ fun _ h => h.out⟩⟩
theorem wpT_one {Q : Act → World → Prop} {a : Act} {w : World} {i : Nat} {t : Sk} {o : Oper} (ho : l[i]? = some o) (hw : Region.wanted o (yielded l.toArray a.tmps) = true)
    (h : ∀ K : Act → World → Prop, (∀ a w', C w' → Rgt P l C Q t a w' → K a w') → o.wp P a w K (fun _ _ _ => False)) : Rgt P l C Q (.one i t) a w :=
  ⟨⟨o, ho, by rw [if_pos hw]; exact h _ fun _ _ h1 h2 => ⟨h1, h2.out⟩⟩⟩
theorem wpT_two {Q : Act → World → Prop} {a : Act} {w : World} {i j : Nat} {ti tj : Sk} {oi oj : Oper} (hoi : l[i]? = some oi) (hoj : l[j]? = some oj) (hwi : Region.wanted oi (yielded l.toArray a.tmps) = true) (hwj : Region.wanted oj (yielded l.toArray a.tmps) = true)
    (h1 : ∀ K : Act → World → Prop, (∀ a w', C w' → Rgt P l C Q ti a w' → K a w') → oi.wp P a w K (fun _ _ _ => False))
    (h2 : ∀ K : Act → World → Prop, (∀ a w', C w' → Rgt P l C Q tj a w' → K a w') → oj.wp P a w K (fun _ _ _ => False)) : Rgt P l C Q (.two i ti j tj) a w :=
  ⟨⟨oi, hoi, by rw [if_pos hwi]; exact h1 _ fun _ _ h1 h2 => ⟨h1, h2.out⟩⟩, ⟨oj, hoj, by rw [if_pos hwj]; exact h2 _ fun _ _ h1 h2 => ⟨h1, h2.out⟩⟩⟩
theorem region_T {id : Nat} {Q : Exit → Act → World → Prop} {a : Act} {w : World} (t : Sk) (hm : P.follows .mixedOrders = true) (hs : Region.noSelect l.toArray = true)
    (hn : t.len = l.length) (hB : ordT .any l.toArray t (Array.replicate l.length false) = true)
    (h : Rgt P l (fun w' => ∃ p : Regrown, w' = grow (redrawn w p.d) p.os) (fun a' w' => Q .normal a' w') t a w.drew) : (Code.region id l.toArray true).wp P Q a w := by
  refine Code.wp_mono (Q := fun e a w => e = .normal ∧ Q .normal a w) (fun e a w hh => by obtain ⟨rfl, hh⟩ := hh; exact hh) ?_
  refine wp_region_held (S := fun w' => ∃ p : Regrown, w' = grow (redrawn w p.d) p.os) hm ?_
  have := wpAnyH_of_T (md := .any) hs t (Array.replicate l.length false) a w.drew hB ⟨⟨w.drawn + 1, #[]⟩, by rw [grow_empty]; rfl⟩ h.out
  rw [hn] at this
  simpa using this
end
end
end Go.Proofs.YtomllcclallcdaaGreatDoor
namespace Go.Proofs.YtomllcclallcdaaGreatDoor
section
open Go.RowKit Go.Sort
def dgt (d : Nat) : UInt8 := UInt8.ofNat (48 + d)
def strB (l : List UInt8) : ByteArray := ⟨l.toArray⟩
theorem strB_append (a b : List UInt8) : strB a ++ strB b = strB (a ++ b) := ByteArray.mk_append_mk a b
theorem strB_size (a : List UInt8) : (strB a).size = a.length := by simp [strB, ByteArray.size]
theorem conv1 {w : World} {g : Nat} {d : Nat} (hc : w.cell? ⟨g, 0, none⟩ = some (.int .u8 (48 + (d : Int)))) : (convert 75 9 (.slice (some ⟨g, 0, none⟩) 1 1)).run Tryz.prog w = .ok (.string (strB [dgt d])) w := by
  have := run_convert_bytes_arg (P := Tryz.prog) w 75 5 Tryz.underlying75 Tryz.underlying5 g 0 1 1 [48 + (d : Int)] rfl (fun i hi => by
    obtain rfl : i = 0 := by omega
    exact hc) 9 Tryz.underlying9
  rw [this]
  have e : (48 + (d : Int)).toNat = 48 + d := by omega
  simp only [strOfNums, List.map_cons, List.map_nil, e]
  rfl
theorem wp_conv1 {o : Oper} {x : Operand} {a : Act} {w : World} {K : Act → World → Prop} {Q : Exit → Act → World → Prop} {g : Nat} {d : Nat} (ho : o.op = .convert 75 9 x) (hx : a.eval x = .slice (some ⟨g, 0, none⟩) 1 1)
    (hc : w.cell? ⟨g, 0, none⟩ = some (.int .u8 (48 + (d : Int)))) (hK : K (a.put o.dst (.string (strB [dgt d]))) w) : o.wp Tryz.prog a w K Q := by
  unfold Oper.wp
  simp only [execOp, ho, hx, Sem.run_bind, conv1 hc, Result.andThen_ok, Sem.run_pure]
  exact hK
theorem new_cell (w : World) (v : Value) (t : TypeId) : (w.alloc (.cells #[v] t)).cell? ⟨w.heap.size, 0, none⟩ = some v := by simp [World.cell?_alloc_at]
theorem dec_one {u : Nat} (h : u < 10) : Lib.decDigits u = [dgt u] := Lib.decDigits_one h
theorem dec_big {u : Nat} (h : ¬ u < 10) : Lib.decDigits u = Lib.decDigits (u / 10) ++ [dgt (u % 10)] := by rw [Lib.decDigits, dif_neg h]; rfl
theorem dec_len {u : Nat} (h : u ≤ 9223372036854775807) : (Lib.decDigits u).length ≤ 21 := by
  have := Lib.itoa_length_le (u : Int) (by omega) (by omega)
  rwa [Lib.itoa_nonneg] at this
theorem ret_str {a b : ByteArray} (h : a = b) : Ending.returned (.string a) = .returned (.string b) := by rw [h]
theorem str_eq {a b : ByteArray} (h : a = b) : Value.string a = .string b := by rw [h]
end
end Go.Proofs.YtomllcclallcdaaGreatDoor
