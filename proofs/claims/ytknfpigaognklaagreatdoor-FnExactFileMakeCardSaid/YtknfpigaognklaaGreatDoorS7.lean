/- The reference's walks over a processor of a world. -/
import Derived.Test.YtknfpigaognklaaGreatDoorS4
namespace Go.Proofs.YtknfpigaognklaaGreatDoor
open Go.RowKit Go.Sort
theorem timeB_bd {n : Int} (h : timeB n = true) : 0 ≤ n ∧ n ≤ 100000000000000000 := inR_iff.1 h
theorem taskB_bd {M : WorldM} {t : Nat} (h : taskB M t = true) (h0 : (tsk M t).st ≠ 0) : 0 ≤ (tsk M t).v ∧ (tsk M t).v ≤ 100000000000000000 ∧ 0 ≤ (tsk M t).sum ∧ (tsk M t).sum ≤ 100000000000000000 := by
  rw [taskB, if_neg h0] at h
  simp only [Bool.and_eq_true, taskB2] at h
  have h1 := timeB_bd h.1.2.1.1.1.1
  have h2 := timeB_bd h.1.2.1.1.1.2
  omega
theorem taskB_gr {M : WorldM} {t : Nat} (hT : Tree M) (hc : M.cpus.length ≤ 4) (h : taskB M t = true) (h0 : (tsk M t).st ≠ 0) :
    ∃ g c : Nat, (tsk M t).gr = g ∧ g < 8 ∧ (grp M g).used = true ∧ (tsk M t).cpu = c ∧ c < M.cpus.length := by
  rw [taskB, if_neg h0] at h
  simp only [Bool.and_eq_true, taskB1, taskB2, usedI, decide_eq_true_eq] at h
  obtain ⟨⟨⟨⟨⟨⟨_, ⟨u1, u2⟩, u3⟩, _⟩, _⟩, _⟩, _, hm⟩, _⟩ := h
  have hw := where_has hc hm
  have hl := hT.len
  exact ⟨(tsk M t).gr.toNat, (tsk M t).cpu.toNat, by omega, by omega, u3, by omega, by omega⟩
theorem shelfB_bd {M : WorldM} {k c : Nat} (h : shelfB M k c = true) : 0 ≤ (she M k c).floor ∧ (she M k c).floor ≤ 100000000000000000 ∧ 0 ≤ (she M k c).v ∧ (she M k c).v ≤ 100000000000000000 ∧ 1 ≤ (she M k c).w ∧ (she M k c).w ≤ 20 := by
  simp only [shelfB, Bool.and_eq_true, shelfB1, inR_iff] at h
  have h1 := timeB_bd h.1.1.1.1
  have h2 := timeB_bd h.1.1.1.2
  have h3 := h.1.2
  omega
set_option maxRecDepth 100000 in
set_option maxHeartbeats 2000000 in
theorem sl8Stayed_any (ca : Option Addr) (cc : Nat) (ta : Option Addr) (tc : Nat) (ga : Option Addr) (gc : Nat) (gh : Nat → GH) (M : WorldM) (w : World) (hs : WA w ca ta ga gh M) (hT : Tree M) (hG : GOk M) (hSh : ∀ k c, k < 8 → (grp M k).used = true → c < M.cpus.length → shelfB M k c = true) (c t g : Nat) (hc : c < M.cpus.length)
    (hcur : (cpo M c).cur = t) (ht : t < M.tasks.length) (hgr : (tsk M t).gr = g) (hg : g < 8) (hu : (grp M g).used = true) (hv0 : 0 ≤ (tsk M t).v) (hv1 : (tsk M t).v ≤ 100000000000000000) :
    Calls Tryz.prog 134 #[.agg #[.int .i64 M.now, .slice ca M.cpus.length cc, .slice ta M.tasks.length tc, .slice ga M.groups.length gc], .int .i64 c] w fun e w' => e = .returned (.bool (stayB M c)) ∧ Below w.heap.size w w' := by
  have SN := Lib.hid (show stayB M c = (stayT M c (tsk M t) && (ch M g).all (stayG M c)) by rw [stayB, hcur, Int.toNat_natCast, hgr, Int.toNat_natCast])
  have ST := Lib.hid (show stayT M c (tsk M t) = decide ((tsk M t).v - (she M g c).floor ≤ vstep (cpo M c).ran (wof (tsk M t).nice)) by rw [stayT, hgr, Int.toNat_natCast])
  have HL := Lib.hid hT.len
  have hlg : g < M.groups.length := by have := HL.out; omega
  have hcs : c < (grp M g).shelves.length := by rw [hG.she g hg hu]; exact hc
  have hsb := shelfB_bd (hSh g c hg hu hc)
  obtain ⟨b, o, rfl, hB, c0, c1, c2, c3, c4⟩ := hs.cpu_ hc
  obtain ⟨b2, o2, rfl, hB2, d0, d1, d2, d3, d4, d5, d6, d7, d8⟩ := hs.task_ ht
  rw [hcur] at c1
  rw [hgr] at d1
  have HU := Lib.hid hu
  have HSH := Lib.hid hSh
  clear hcur hgr hu hSh
  go_enter Tryz.func134, Tryz.ntmps134
  go_upto_region 3 with (fail)
  refine PA.gen (P := fun W => Code.wp _ _ _ _ ((W.alloc _).alloc _)) hs ?_
  intro W0 b1 s1 pw0
  refine gen2 (p := fun W => Code.wp _ _ _ _ W) ?_
  intro W bb2 s2 kc kt
  have pw := pw0.keep bb2
  obtain ⟨q0, q1, q2, q3, q4, q5⟩ := pw
  have b3 := b1.andThen bb2
  rw [s1] at kc kt
  have x2 := kc.cell 2
  have t1 := kt.cell 1
  have t3 := kt.cell 3
  have t5 := kt.cell 5
  simp at x2 t1 t3 t5
  have hxs := kt.lt
  have hys : w.heap.size + 1 < W.heap.size := by omega
  clear kc kt c0 c1 c2 c3 c4 d0 d1 d2 d3 d4 d5 d6 d7 d8
  obtain ⟨b4, o4, rfl, hB4, f0, f1, f2, f3, f4, f5, f6, f7, f8, f9, f10, f11, f12, f13⟩ := q5.group_ hlg
  obtain ⟨b5, o5, e5, hB5, k0, k1⟩ := q5.shelf_ hlg hcs
  rw [e5] at f13
  clear f0 f1 f2 f3 f4 f5 f6 f7 f8 f9 f10 f11 f12 e5 k1
  go_quiet (first | (go_at_call 128; exact quiet_left (sWeightOf_any _ _)) | (go_at_call 174; exact quiet_left (sVirtualStep_any _ _ _)))
  have hb6 : Below W.heap.size W (W.drewN nq) := (Below.refl _ _).drewN nq
  generalize W.drewN nq = W2 at *
  have y2 := (hb6.cell (p := ⟨w.heap.size + 1, 2, none⟩) hys).trans x2
  have y1 := (hb6.cell (p := ⟨w.heap.size + 1 + 1, 1, none⟩) hxs).trans t1
  have hys2 : w.heap.size + 1 < W2.heap.size := Nat.lt_of_lt_of_le hys hb6.size
  have pw2 : PA W2 w.heap.size (some ⟨b, o, none⟩) cc (some ⟨b2, o2, none⟩) tc (some ⟨b4, o4, none⟩) gc gh M := PA.keep ⟨q0, q1, q2, q3, q4, q5⟩ hb6
  have b7 := b3.andThen hb6
  clear q0 q1 q2 q3 q4 f13 k0
  by_cases hle : (tsk M t).v - (she M g c).floor ≤ vstep (cpo M c).ran (wof (tsk M t).nice)
  · have SN2 := Lib.hid (show stayB M c = (ch M g).all (stayG M c) by rw [SN.out, ST.out, decide_eq_true hle]; rfl)
    go_wp2
    go_loopw [4, 7, 8] (fun r i u wr => ∃ k : Nat, k < 8 ∧ (grp M k).used = true ∧ i = .int .i64 k ∧ r = .bool false ∧ (ch M k).all (stayG M c) = (ch M g).all (stayG M c) ∧ Below W2.heap.size W2 wr) (fun _ i _ _ => dp M (intOf i).toNat)
    case atStart => exact ⟨g, hg, HU.out, rfl, rfl, rfl, Below.refl _ _⟩
    case round =>
      obtain ⟨k, hk, huk, rfl, rfl, hon, hb⟩ := hrel
      have HUK := Lib.hid huk
      have HO := Lib.hid hon
      have z2 := (hb.cell (p := ⟨w.heap.size + 1, 2, none⟩) hys2).trans y2
      have pw3 := pw2.keep hb
      have hb8 := b7.andThen hb
      by_cases h0 : k = 0
      · subst h0
        clear hon huk
        go_wp2
        go_ret
        exact ⟨ret_bool (by rw [SN2.out, ← HO.out, ch_zero]; rfl), hb8⟩
      · obtain ⟨hp1, hp2, hp3, hp4⟩ := hT.up k hk huk h0
        have hst := Lib.hid (hT.ch_step hk huk h0)
        have hlk : k < M.groups.length := by have := HL.out; omega
        have hlp : par M k < M.groups.length := by have := HL.out; omega
        have hck : c < (grp M k).shelves.length := by rw [hG.she k hk huk]; exact hc
        have hcp : c < (grp M (par M k)).shelves.length := by rw [hG.she _ hp2 hp3]; exact hc
        have sb1 := shelfB_bd (HSH.out k c hk huk hc)
        have sb2 := shelfB_bd (HSH.out (par M k) c hp2 hp3 hc)
        have hne : ((k : Int) == 0) = false := by simpa using h0
        have hne2 : ((k : Int) != 0) = true := by simpa using h0
        obtain ⟨p0, p1, p2, p3, p4, p5⟩ := pw3
        obtain ⟨b8, o8, e8, hB8, f0, f1, f2, f3, f4, f5, f6, f7, f8, f9, f10, f11, f12, f13⟩ := p5.group_ hlk
        have e9 : b8 = b4 ∧ o8 = o4 := by simpa [eq_comm] using e8
        obtain ⟨rfl, rfl⟩ := e9
        obtain ⟨b9, o9, e10, hB9, k0, k1, k2, k3, k4⟩ := p5.shelf_ hlk hck
        rw [e10] at f13
        rw [hp1] at f1
        obtain ⟨b11, o11, e11, hB11, g0, g1, g2, g3, g4, g5, g6, g7, g8, g9, g10, g11, g12, g13⟩ := p5.group_ hlp
        have e12 : b11 = b8 ∧ o11 = o8 := by simpa [eq_comm] using e11
        obtain ⟨rfl, rfl⟩ := e12
        obtain ⟨b13, o13, e13, hB13, l0, l1⟩ := p5.shelf_ hlp hcp
        rw [e13] at g13
        have HP3 := Lib.hid hp3
        have HP4 := Lib.hid hp4
        have SG := Lib.hid (show stayG M c k = decide ((she M k c).v - (she M (par M k) c).floor ≤ vstep (cpo M c).ran (she M k c).w) by rw [stayG, show (k == 0) = false by simpa using h0]; rfl)
        clear e8 e10 e11 e13 hp1 hp3 hp4 hon huk h0 f0 f2 f3 f4 f5 f6 f7 f8 f9 f10 f11 f12 g0 g1 g2 g3 g4 g5 g6 g7 g8 g9 g10 g11 g12 l1
        have hysr : w.heap.size + 1 < wr.heap.size := Nat.lt_of_lt_of_le hys2 hb.size
        go_wp2_with fail
        go_quiet ((go_at_call 174; exact quiet_left (sVirtualStep_any _ _ _)))
        by_cases hst2 : (she M k c).v - (she M (par M k) c).floor ≤ vstep (cpo M c).ran (she M k c).w
        · go_wp2
          go_roundw
          case rel => exact ⟨par M k, hp2, HP3.out, rfl, rfl, by rw [← HO.out, hst.out, List.all_cons, SG.out, decide_eq_true hst2]; rfl, (hb.alloc hb.size _).drewN _⟩
          case measure => simp [intOf]; have := HP4.out; omega
        · have hlt2 : vstep (cpo M c).ran (she M k c).w < (she M k c).v - (she M (par M k) c).floor := by omega
          have SF := Lib.hid (show stayB M c = false by rw [SN2.out, ← HO.out, hst.out, List.all_cons, SG.out, decide_eq_false hst2]; rfl)
          clear hst2
          go_wp2
          go_ret
          exact ⟨ret_bool SF.out.symm, b7.andThen ((hb.alloc hb.size _).drewN _)⟩
  · have SN2 := Lib.hid (show stayB M c = false by rw [SN.out, ST.out, decide_eq_false hle]; rfl)
    have hlt : vstep (cpo M c).ran (wof (tsk M t).nice) < (tsk M t).v - (she M g c).floor := by omega
    clear hle
    go_wp2
    go_ret
    exact ⟨ret_bool SN2.out.symm, b7⟩
set_option maxRecDepth 100000 in
set_option maxHeartbeats 2000000 in
theorem sl8CpuOk_any (ca : Option Addr) (cc : Nat) (ta : Option Addr) (tc : Nat) (ga : Option Addr) (gc : Nat) (gh : Nat → GH) (M : WorldM) (w : World) (hs : WA w ca ta ga gh M) (hT : Tree M) (hG : GOk M) (hc4 : M.cpus.length ≤ 4) (htm : M.tasks.length ≤ 1048576) (hTk : ∀ t, t < M.tasks.length → taskB M t = true)
    (hSh : ∀ k c, k < 8 → (grp M k).used = true → c < M.cpus.length → shelfB M k c = true) (c : Nat) (hc : c < M.cpus.length) :
    Calls Tryz.prog 70 #[.agg #[.int .i64 M.now, .slice ca M.cpus.length cc, .slice ta M.tasks.length tc, .slice ga M.groups.length gc], .int .i64 c] w fun e w' => e = .returned (.bool (cpuB M c)) ∧ Below w.heap.size w w' := by
  obtain ⟨b, o, rfl, hB, c0, c1, c2, c3, c4⟩ := hs.cpu_ hc
  go_enter Tryz.func70, Tryz.ntmps70
  go_upto_region 2 with (fail)
  refine PA.gen (P := fun W => Code.wp _ _ _ _ (W.alloc _)) hs ?_
  intro W0 b1 s1 pw0
  refine gen1 (p := fun W => Code.wp _ _ _ _ W) ?_
  intro W bb2 s2 kc
  have pw := pw0.keep bb2
  obtain ⟨q0, q1, q2, q3, q4, q5⟩ := pw
  have b3 := b1.andThen bb2
  rw [s1] at kc
  have x0 := kc.cell 0
  have x1 := kc.cell 1
  have x2 := kc.cell 2
  have x3 := kc.cell 3
  have x4 := kc.cell 4
  simp at x0 x1 x2 x3 x4
  have hxs := kc.lt
  clear kc c0 c1 c2 c3 c4
  have HTK := Lib.hid hTk
  have HSH := Lib.hid hSh
  clear hTk hSh
  by_cases hh : cpuHead M (cpo M c) = true
  · have f1 := hh
    simp only [cpuHead, Bool.and_eq_true] at f1
    obtain ⟨⟨f1, f2⟩, f3⟩ := f1
    obtain ⟨i1, i2⟩ := inR_iff.1 f3
    have HH := Lib.hid hh
    clear hh
    by_cases hneg : (cpo M c).cur < 0
    · have CN := Lib.hid (show cpuB M c = ((cpo M c).ran == 0) by rw [cpuB, HH.out, if_pos hneg]; rfl)
      go_wp2_with (first | (go_at_call 126; refine (sl4Time_any _ _).mono ?_; rintro e w' ⟨rfl, rfl⟩; first | rw [f1] | rw [f2]) | (go_at_call 64; refine (sl1In_any _ _ _ _).mono ?_; rintro e w' ⟨rfl, rfl⟩; rw [f3]))
      go_ret
      exact ⟨ret_bool CN.out.symm, b3⟩
    · obtain ⟨t, ht⟩ : ∃ t : Nat, (cpo M c).cur = t := ⟨(cpo M c).cur.toNat, by omega⟩
      have CN := Lib.hid (show cpuB M c = ((cpo M c).up && inR (cpo M c).ran 1 149 && ((tsk M t).cpu == c) && lineM M t && stayB M c) by rw [cpuB, HH.out, if_neg hneg, ht]; rfl)
      have htl : t < M.tasks.length := by omega
      have HT := Lib.hid ht
      rw [ht] at x1 f3
      clear ht hneg i1 i2
      obtain ⟨b5, o5, rfl, hB5, d0, d1, d2, d3⟩ := q5.task_ htl
      clear d0 d1 d3
      have HLP := Lib.hid (show (tsk M t).st = 1 → ∃ g cp : Nat, (tsk M t).gr = g ∧ g < 8 ∧ (grp M g).used = true ∧ (tsk M t).cpu = cp ∧ cp < M.cpus.length from fun h => taskB_gr hT hc4 (HTK.out t htl) (by rw [h]; decide))
      by_cases hA : ((cpo M c).up && inR (cpo M c).ran 1 149 && ((tsk M t).cpu == c)) = true
      · have a1 := hA
        simp only [Bool.and_eq_true] at a1
        obtain ⟨⟨a1, a2⟩, a3⟩ := a1
        rw [a1] at x0
        have CA := Lib.hid (show cpuB M c = (lineM M t && stayB M c) by rw [CN.out, hA]; rfl)
        have A3 := Lib.hid a3
        clear hA
        by_cases hln : lineM M t = true
        · have hst : (tsk M t).st = 1 := by
            simp only [lineM, Bool.and_eq_true, beq_iff_eq] at hln
            exact hln.1
          obtain ⟨g, cp, hgr, hg8, hgu, hcp, hcpl⟩ := HLP.out hst
          have CB := Lib.hid (show cpuB M c = stayB M c by rw [CA.out, hln]; rfl)
          have hbd := taskB_bd (HTK.out t htl) (by rw [hst]; decide)
          have HLN := Lib.hid hln
          clear hln
          have HHG := Lib.hid hgr
          have HST := Lib.hid hst
          have HCP := Lib.hid hcp
          have HGU := Lib.hid hgu
          clear hgr hst hcp hgu
          go_wp2_with (first | (go_at_call 126; refine (sl4Time_any _ _).mono ?_; rintro e w' ⟨rfl, rfl⟩; first | rw [f1] | rw [f2]) | (go_at_call 64; refine (sl1In_any _ _ _ _).mono ?_; rintro e w' ⟨rfl, rfl⟩; first | rw [a2] | rw [f3]) | (go_at_call 84; refine (sl8InLine_any _ cc _ tc ga gc gh M _ q5 hT hG t g cp htl (fun _ => ⟨HHG.out, hg8, HGU.out, HCP.out, hcpl⟩)).mono ?_; rintro e w3 ⟨rfl, hb3⟩; rw [HLN.out]; have r0 := (hb3.cell (p := ⟨w.heap.size, 0, none⟩) q0).trans q1; have r1 := (hb3.cell (p := ⟨w.heap.size, 1, none⟩) q0).trans q2; have r2 := (hb3.cell (p := ⟨w.heap.size, 2, none⟩) q0).trans q3; have r3 := (hb3.cell (p := ⟨w.heap.size, 3, none⟩) q0).trans q4) | (go_at_call 134; refine (sl8Stayed_any _ cc _ tc ga gc gh M _ (q5.keep hb3) hT hG HSH.out c t g hc HT.out htl HHG.out hg8 HGU.out hbd.1 hbd.2.1).mono ?_; rintro e w4 ⟨rfl, hb4⟩))
          go_ret
          exact ⟨ret_bool CB.out.symm, (b3.andThen hb3).andThen hb4⟩
        · have HLN := Lib.hid (show lineM M t = false by simpa using hln)
          have CB := Lib.hid (show cpuB M c = false by rw [CA.out, HLN.out]; rfl)
          clear hln
          by_cases hst : (tsk M t).st = 1
          · obtain ⟨g, cp, hgr, hg8, hgu, hcp, hcpl⟩ := HLP.out hst
            have HHG := Lib.hid hgr
            have HCP := Lib.hid hcp
            have HGU := Lib.hid hgu
            clear hgr hst hcp hgu
            go_wp2_with (first | (go_at_call 126; refine (sl4Time_any _ _).mono ?_; rintro e w' ⟨rfl, rfl⟩; first | rw [f1] | rw [f2]) | (go_at_call 64; refine (sl1In_any _ _ _ _).mono ?_; rintro e w' ⟨rfl, rfl⟩; first | rw [a2] | rw [f3]) | (go_at_call 84; refine (sl8InLine_any _ cc _ tc ga gc gh M _ q5 hT hG t g cp htl (fun _ => ⟨HHG.out, hg8, HGU.out, HCP.out, hcpl⟩)).mono ?_; rintro e w3 ⟨rfl, hb3⟩; rw [HLN.out]))
            go_ret
            exact ⟨ret_bool CB.out.symm, b3.andThen hb3⟩
          · have HST := Lib.hid hst
            clear hst
            go_wp2_with (first | (go_at_call 126; refine (sl4Time_any _ _).mono ?_; rintro e w' ⟨rfl, rfl⟩; first | rw [f1] | rw [f2]) | (go_at_call 64; refine (sl1In_any _ _ _ _).mono ?_; rintro e w' ⟨rfl, rfl⟩; first | rw [a2] | rw [f3]) | (go_at_call 84; refine (sl8InLine_any _ cc _ tc ga gc gh M _ q5 hT hG t 0 0 htl (fun h => absurd h HST.out)).mono ?_; rintro e w3 ⟨rfl, hb3⟩; rw [HLN.out]))
            go_ret
            exact ⟨ret_bool CB.out.symm, b3.andThen hb3⟩
      · have CF := Lib.hid (show cpuB M c = false by rw [CN.out]; simp only [Bool.not_eq_true] at hA; rw [hA]; rfl)
        have HA := Lib.hid hA
        clear hA
        go_wp2_with (first | (go_at_call 126; refine (sl4Time_any _ _).mono ?_; rintro e w' ⟨rfl, rfl⟩; first | rw [f1] | rw [f2]) | (go_at_call 64; refine (sl1In_any _ _ _ _).mono ?_; rintro e w' ⟨rfl, rfl⟩; try rw [f3]))
        all_goals first
          | (go_ret; exact ⟨ret_bool CF.out.symm, b3⟩)
          | exact absurd (by simp [*]) HA.out
  · have hh' : cpuHead M (cpo M c) = false := by simpa using hh
    have CN := Lib.hid (show cpuB M c = false by rw [cpuB, hh']; rfl)
    have HH := Lib.hid hh'
    clear hh hh'
    go_upto_region 4 with (first | (go_at_call 126; refine (sl4Time_any _ _).mono ?_; rintro e w' ⟨rfl, rfl⟩) | (go_at_call 64; refine (sl1In_any _ _ _ _).mono ?_; rintro e w' ⟨rfl, rfl⟩))
    all_goals first
      | (go_ret; exact ⟨ret_bool CN.out.symm, b3⟩)
      | exact absurd HH.out (by simp_all [cpuHead])
end Go.Proofs.YtknfpigaognklaaGreatDoor
