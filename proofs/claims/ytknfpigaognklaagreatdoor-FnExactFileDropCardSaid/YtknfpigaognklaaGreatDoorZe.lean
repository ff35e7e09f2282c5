/- The law that compares worlds behind FileDrop: its walk. The law that compares worlds behind FileDrop holds. No condition, but that the library's tables are as the program lays them. -/
import Derived.Test.YtknfpigaognklaaGreatDoorZc
import Derived.Test.YtknfpigaognklaaGreatDoorZo
import Derived.Test.YtknfpigaognklaaGreatDoorAl
import Derived.Test.YtknfpigaognklaaGreatDoorTie
import Derived.Test.YtknfpigaognklaaGreatDoorCards
import Derived.SevenTiedAt
import Derived.ProofKit
import Derived.LaidMore
import Derived.OpenShut
import Derived.Stop.Joined
import Derived.Lib.LaidTab
import Derived.Stop.LaidErr
import Derived.LaidHandle
import Derived.LaidLaws
namespace Go.Proofs.YtknfpigaognklaaGreatDoor
open Go.RowKit Go.Sort
set_option maxRecDepth 100000 in
set_option maxHeartbeats 4000000 in
theorem FnFileDrop_gen (h : WH) (M : WorldM) (q : ByteArray) (M' : WorldM) (c : Int) (w : World) (hs : WAt w h M) (hm : WMax M) (hx : NextOk M) (hE : ErrIs w) (hf2 : WFit M → WFit M')
    (hSC : WFit M → ∀ (h : WH) (W : World), WAt W h M → Calls Tryz.prog 14 #[.agg #[.int .i64 M.now, .slice h.ca M.cpus.length h.cc, .slice h.ta M.tasks.length h.tc, .slice h.ga M.groups.length h.gc], .string q] W (WPost M' c W))
    (hIC : WFit M → ∀ (h : WH) (W : World), WAt W h M → ErrIs W → Calls Tryz.prog 15 #[.agg #[.int .i64 M.now, .slice h.ca M.cpus.length h.cc, .slice h.ta M.tasks.length h.tc, .slice h.ga M.groups.length h.gc], .string q] W (WPost M' c W)) :
    Calls Tryz.prog 5 #[.agg #[.int .i64 M.now, .slice h.ca M.cpus.length h.cc, .slice h.ta M.tasks.length h.tc, .slice h.ga M.groups.length h.gc], .string q] w fun e w' => e = .returned (.bool true) ∧ Below w.heap.size w w' := by
  have HSC := Lib.hid hSC
  have HIC := Lib.hid hIC
  have HM := Lib.hid hm
  have HX := Lib.hid hx
  have HE := Lib.hid hE
  have HF2 := Lib.hid hf2
  clear hSC hIC hm hx hE hf2
  go_enter Tryz.func5, Tryz.ntmps5
  go_upto_region 1 with (fail)
  refine gen1 (p := fun W => Code.wp _ _ _ _ W) ?_
  intro W b1 s1 kA
  have KA := Lib.hid kA
  have HS := Lib.hid (hs.keep b1)
  have B1 := Lib.hid b1
  have HEW := Lib.hid (HE.out.keep b1)
  clear s1 hs kA b1 HE
  by_cases hq : (1048576 : Int) < (q.size : Int)
  · go_wp2
    go_ret
    exact ⟨rfl, B1.out⟩
  have q0 := KA.out.cell 0
  have q1 := KA.out.cell 1
  have q2 := KA.out.cell 2
  have q3 := KA.out.cell 3
  have qf := fun i => KA.out.frozen i
  simp at q0 q1 q2 q3
  go_upto_region 5 with (go_at_call 7; refine (szWorld_any h M _ HS.out HM.out).mono ?_; rintro e w2 ⟨r, rfl, hb2, hr1, hr2, hfit⟩)
  clear q0 q1 q2 q3 qf
  have B2 := Lib.hid hb2
  by_cases hr : r < 0
  · clear hfit hb2
    go_wp2
    go_ret
    exact ⟨rfl, B1.out.andThen B2.out⟩
  have HF := Lib.hid (hfit (by omega))
  have HN := Lib.hid (HF2.out HF.out)
  have SC := Lib.hid (HSC.out HF.out)
  have IC := Lib.hid (HIC.out HF.out)
  have hr0 : 0 ≤ r := by omega
  clear hr hfit hb2 HSC HIC HF2
  have k := Lib.hid (KA.out.below B2.out KA.out.lt)
  have q0 := k.out.cell 0
  have q1 := k.out.cell 1
  have q2 := k.out.cell 2
  have q3 := k.out.cell 3
  have qf := fun i => k.out.frozen i
  simp at q0 q1 q2 q3
  go_upto_region 8 with (first | (go_at_call 9; refine (toWorld_own h M _ (HS.out.keep B2.out) HF.out).mono ?_; rintro e w3 ⟨x3, rfl, hb3, ow3⟩) | (go_at_call 14; refine (SC.out x3 _ ow3.wat).mono ?_; rintro e w4 ⟨hw, rfl, hb4, ow4⟩))
  have OW := Lib.hid ow4
  have B4 := Lib.hid ((B2.out.andThen hb3).andThen hb4)
  clear q0 q1 q2 q3 qf
  clear hb3 hb4 ow3 ow4 k
  refine gen1 (p := fun W => Code.wp _ _ _ _ W) ?_
  intro W7 b7 s7 kw
  have KW := Lib.hid kw
  have HW := Lib.hid (OW.out.wat.keep b7)
  have B7 := Lib.hid (B4.out.andThen b7)
  have S7 := Lib.hid s7
  clear b7 kw s7 OW
  have k := Lib.hid (KA.out.below B7.out KA.out.lt)
  have q0 := k.out.cell 0
  have q1 := k.out.cell 1
  have q2 := k.out.cell 2
  have q3 := k.out.cell 3
  have qf := fun i => k.out.frozen i
  simp at q0 q1 q2 q3
  go_upto_region 9 with (go_at_call 9; refine (toWorld_own h M _ (HS.out.keep B7.out) HF.out).mono ?_; rintro e w5 ⟨hx, rfl, hb5, ox5⟩)
  clear q0 q1 q2 q3 qf
  have OX5 := Lib.hid ox5
  have B5 := Lib.hid hb5
  clear hb5 ox5 k
  refine gen1 (p := fun W => Code.wp _ _ _ _ W) ?_
  intro W8 b8 s8 kx
  have KX := Lib.hid kx
  have OX := Lib.hid (OX5.out.below b8)
  have C8 := Lib.hid (B5.out.andThen b8)
  have HXS := Lib.hid (show ∀ i, Has hx.ca hx.ta hx.ga hx.gh M.groups.length i → W7.heap.size ≤ i ∧ i < w5.heap.size from fun i hi => OX5.out.has hi)
  have S8 := Lib.hid s8
  clear b8 kx s8 OX5
  have q0 := KX.out.cell 0
  have q1 := KX.out.cell 1
  have q2 := KX.out.cell 2
  have q3 := KX.out.cell 3
  have qf := fun i => KX.out.frozen i
  simp at q0 q1 q2 q3
  go_upto_region 10 with (go_at_call 15; refine (IC.out hx _ OX.out.wat (HEW.out.keep (B7.out.andThen C8.out))).mono ?_; rintro e w6 ⟨hg, rfl, hb6, og6⟩)
  clear q0 q1 q2 q3 qf
  have OG6 := Lib.hid og6
  have B6 := Lib.hid hb6
  clear hb6 og6
  refine gen1 (p := fun W => Code.wp _ _ _ _ W) ?_
  intro W9 b9 s9 kg
  have KG := Lib.hid kg
  have OG := Lib.hid (OG6.out.below b9)
  have C9 := Lib.hid (B6.out.andThen b9)
  have HGS := Lib.hid (show ∀ i, Has hg.ca hg.ta hg.ga hg.gh M'.groups.length i → W8.heap.size ≤ i ∧ i < w6.heap.size from fun i hi => OG6.out.has hi)
  have S9 := Lib.hid s9
  have Z8 := Lib.hid C8.out.size
  have Z5 := Lib.hid B5.out.size
  have Z6 := Lib.hid B6.out.size
  clear b9 kg s9 OG6
  have D7 := Lib.hid (C8.out.andThen C9.out)
  have k := Lib.hid (KW.out.below D7.out KW.out.lt)
  have q0 := k.out.cell 0
  have q1 := k.out.cell 1
  have q2 := k.out.cell 2
  have q3 := k.out.cell 3
  have qf := fun i => k.out.frozen i
  simp at q0 q1 q2 q3
  have p0 := KG.out.cell 0
  have p1 := KG.out.cell 1
  have p2 := KG.out.cell 2
  have p3 := KG.out.cell 3
  have pf := fun i => KG.out.frozen i
  simp at p0 p1 p2 p3
  go_upto_region 12 with (go_at_call 11; refine (eqWorld_any hg hw M' _ HN.out OG.out.wat (HW.out.keep D7.out)).mono ?_; rintro e v1 ⟨rfl, hbv1⟩)
  clear q0 q1 q2 q3 qf p0 p1 p2 p3 pf
  clear k
  have E9 := Lib.hid hbv1
  clear hbv1
  have DX := Lib.hid (C9.out.andThen E9.out)
  have DA := Lib.hid ((B7.out.andThen C8.out).andThen DX.out)
  have k := Lib.hid (KA.out.below DA.out KA.out.lt)
  have k2 := Lib.hid (KX.out.below DX.out KX.out.lt)
  have q0 := k.out.cell 0
  have q1 := k.out.cell 1
  have q2 := k.out.cell 2
  have q3 := k.out.cell 3
  have qf := fun i => k.out.frozen i
  simp at q0 q1 q2 q3
  have p0 := k2.out.cell 0
  have p1 := k2.out.cell 1
  have p2 := k2.out.cell 2
  have p3 := k2.out.cell 3
  have pf := fun i => k2.out.frozen i
  simp at p0 p1 p2 p3
  have z_q0 := fun d os => cell_regrown q0 d os
  have z_q1 := fun d os => cell_regrown q1 d os
  have z_q2 := fun d os => cell_regrown q2 d os
  have z_q3 := fun d os => cell_regrown q3 d os
  have z_p0 := fun d os => cell_regrown p0 d os
  have z_p1 := fun d os => cell_regrown p1 d os
  have z_p2 := fun d os => cell_regrown p2 d os
  have z_p3 := fun d os => cell_regrown p3 d os
  have bd : Below v1.heap.size v1 v1.drew := ⟨rfl, rfl, rfl, Nat.le_refl _, fun _ _ => rfl⟩
  refine region_by [false, false, true, true, false] (by kernel_rfl) (by kernel_rfl) (by kernel_rfl) ?_
  repeat (first | (refine wpR_skip (by rfl) ?_; simp only [Act.put, List.setIfInBounds_toArray, List.set_cons_zero, List.set_cons_succ]) | (refine wpR_det (by rfl) (fun K hK => ?_); go_big_quiet_op; refine hK _ ?_; clear hK K))
  refine wpR_bar (by rfl) (fun K hK => ?_)
  go_big_op
  go_at_call 9
  refine (toWorld_any h M _ (HS.out.keep (DA.out.andThen bd)) HF.out).mono ?_
  rintro e v2 ⟨h8, rfl, hb8, hw8⟩
  refine hK _ _ (regrown_of_below (bd.andThen hb8)) ?_
  clear hK K
  refine wpR_bar (by rfl) (fun K hK => ?_)
  go_big_op
  go_at_call 11
  refine (eqWorld_any hx h8 M _ HF.out (OX.out.wat.keep (DX.out.andThen (bd.andThen hb8))) hw8).mono ?_
  rintro e v3 ⟨rfl, hbv3⟩
  refine hK _ _ (regrown_of_below ((bd.andThen hb8).andThen hbv3)) ?_
  clear hK K
  repeat (first | (refine wpR_skip (by rfl) ?_; simp only [Act.put, List.setIfInBounds_toArray, List.set_cons_zero, List.set_cons_succ]) | (refine wpR_det (by rfl) (fun K hK => ?_); go_big_quiet_op; refine hK _ ?_; clear hK K))
  refine wpR_nil ?_
  have E12 := Lib.hid (E9.out.andThen ((bd.andThen hb8).andThen hbv3))
  clear q0 q1 q2 q3 qf p0 p1 p2 p3 pf
  clear z_q0 z_q1 z_q2 z_q3 z_p0 z_p1 z_p2 z_p3
  clear hw8 hb8 hbv3 bd k k2 DX DA E9
  have DX := Lib.hid (C9.out.andThen E12.out)
  have k := Lib.hid (KX.out.below DX.out KX.out.lt)
  have q0 := k.out.cell 0
  have q1 := k.out.cell 1
  have q2 := k.out.cell 2
  have q3 := k.out.cell 3
  have qf := fun i => k.out.frozen i
  simp at q0 q1 q2 q3
  go_upto_region 16 with (go_at_call 16; refine (markWorld_any hx _ M _ HF.out (OX.out.below DX.out)).mono ?_; rintro e v4 ⟨rfl, km, _⟩)
  clear q0 q1 q2 q3 qf
  have eb := endW_pos HF.out
  have F7 := Lib.hid ((C8.out.andThen DX.out).trans (km.below (by have := (C8.out.andThen DX.out).size; exact this) fun i hi => (HXS.out i hi).1))
  have FA := Lib.hid ((B7.out.andThen (C8.out.andThen DX.out)).trans (km.below (Nat.le_trans B7.out.size ((C8.out.andThen DX.out).size)) fun i hi => Nat.le_trans B7.out.size (HXS.out i hi).1))
  have OG4 := Lib.hid ((OG.out.below E12.out).keep km fun i hi hj => by have := (HGS.out i hi).1; have := (HXS.out i hj).2; have := S8.out; omega)
  have KG4 := Lib.hid (km.blk (KG.out.below E12.out KG.out.lt) fun hj => by have := (HXS.out _ hj).2; have := S8.out; have := S9.out; have := Z6.out; omega)
  generalize endW M 1 = em at *
  clear km k DX E12 OG KG OX KX C9
  have k := Lib.hid (KW.out.below F7.out KW.out.lt)
  have q0 := k.out.cell 0
  have q1 := k.out.cell 1
  have q2 := k.out.cell 2
  have q3 := k.out.cell 3
  have qf := fun i => k.out.frozen i
  simp at q0 q1 q2 q3
  have p0 := KG4.out.cell 0
  have p1 := KG4.out.cell 1
  have p2 := KG4.out.cell 2
  have p3 := KG4.out.cell 3
  have pf := fun i => KG4.out.frozen i
  simp at p0 p1 p2 p3
  have h0 : (em < 0) = False := by simp; omega
  go_upto_region 18 with (go_at_call 11; refine (eqWorld_any hg hw M' _ HN.out OG4.out.wat (HW.out.keep F7.out)).mono ?_; rintro e v5 ⟨rfl, hbv5⟩)
  clear q0 q1 q2 q3 qf p0 p1 p2 p3 pf
  have G7 := Lib.hid (F7.out.andThen hbv5)
  have GA := Lib.hid (FA.out.andThen hbv5)
  have OG5 := Lib.hid (OG4.out.below hbv5)
  have KG5 := Lib.hid (KG4.out.below hbv5 KG4.out.lt)
  clear k hbv5 OG4 KG4 F7 FA h0 eb
  have q0 := KG5.out.cell 0
  have q1 := KG5.out.cell 1
  have q2 := KG5.out.cell 2
  have q3 := KG5.out.cell 3
  have qf := fun i => KG5.out.frozen i
  simp at q0 q1 q2 q3
  go_upto_region 20 with (go_at_call 16; refine (markWorld_any hg _ M' _ HN.out OG5.out).mono ?_; rintro e v6 ⟨rfl, km, om⟩)
  clear q0 q1 q2 q3 qf
  have eb := endW_pos HN.out
  have OM := Lib.hid om
  have F7 := Lib.hid (G7.out.trans (km.below G7.out.size fun i hi => Nat.le_trans Z8.out (HGS.out i hi).1))
  have FA := Lib.hid (GA.out.trans (km.below GA.out.size fun i hi => Nat.le_trans (Nat.le_trans B7.out.size Z8.out) (HGS.out i hi).1))
  have KG6 := Lib.hid (km.blk KG5.out fun hj => by have := (HGS.out _ hj).2; omega)
  clear km om OG5 KG5 G7 GA
  have q0 := KG6.out.cell 0
  have q1 := KG6.out.cell 1
  have q2 := KG6.out.cell 2
  have q3 := KG6.out.cell 3
  have qf := fun i => KG6.out.frozen i
  simp at q0 q1 q2 q3
  go_upto_region 26 with (go_at_call 17; refine (heldWorld_any hg M' _ HN.out OM.out.wa).mono ?_; rintro e v7 ⟨rfl, hbv7⟩)
  clear q0 q1 q2 q3 qf
  have G7 := Lib.hid (F7.out.andThen hbv7)
  have GA := Lib.hid (FA.out.andThen hbv7)
  have OM7 := Lib.hid (OM.out.below hbv7)
  have KG7 := Lib.hid (KG6.out.below hbv7 KG6.out.lt)
  clear hbv7 OM KG6 F7 FA
  have k := Lib.hid (KA.out.below GA.out KA.out.lt)
  have q0 := k.out.cell 0
  have q1 := k.out.cell 1
  have q2 := k.out.cell 2
  have q3 := k.out.cell 3
  have qf := fun i => k.out.frozen i
  simp at q0 q1 q2 q3
  go_upto_region 27 with (first | (go_at_call 9; refine (toWorld_own h M _ (HS.out.keep GA.out) HF.out).mono ?_; rintro e v8 ⟨x8, rfl, hb8, ow8⟩) | (go_at_call 15; refine (IC.out x8 _ ow8.wat (HEW.out.keep (GA.out.andThen hb8))).mono ?_; rintro e v9 ⟨hh, rfl, hb9, oh9⟩))
  clear q0 q1 q2 q3 qf
  have B9 := Lib.hid (hb8.andThen hb9)
  have OH9 := Lib.hid oh9
  clear hb8 hb9 oh9 ow8 k
  refine gen1 (p := fun W => Code.wp _ _ _ _ W) ?_
  intro W26 b26 s26 kh
  have KH := Lib.hid kh
  have OH := Lib.hid (OH9.out.below b26)
  have C26 := Lib.hid (B9.out.andThen b26)
  clear b26 s26 kh OH9
  have H7 := Lib.hid (G7.out.andThen C26.out)
  have k := Lib.hid (KW.out.below H7.out KW.out.lt)
  have q0 := k.out.cell 0
  have q1 := k.out.cell 1
  have q2 := k.out.cell 2
  have q3 := k.out.cell 3
  have qf := fun i => k.out.frozen i
  simp at q0 q1 q2 q3
  have p0 := KH.out.cell 0
  have p1 := KH.out.cell 1
  have p2 := KH.out.cell 2
  have p3 := KH.out.cell 3
  have pf := fun i => KH.out.frozen i
  simp at p0 p1 p2 p3
  go_upto_region 29 with (go_at_call 11; refine (eqWorld_any hh hw M' _ HN.out OH.out.wat (HW.out.keep H7.out)).mono ?_; rintro e u1 ⟨rfl, hbu1⟩)
  clear q0 q1 q2 q3 qf p0 p1 p2 p3 pf
  have D26 := Lib.hid (C26.out.andThen hbu1)
  clear k hbu1
  have k := Lib.hid (KG7.out.below D26.out KG7.out.lt)
  have q0 := k.out.cell 0
  have q1 := k.out.cell 1
  have q2 := k.out.cell 2
  have q3 := k.out.cell 3
  have qf := fun i => k.out.frozen i
  simp at q0 q1 q2 q3
  go_wp2_with (go_at_call 17; refine (heldWorld_any hg M' _ HN.out (OM7.out.below D26.out).wa).mono ?_; rintro e u2 ⟨rfl, hbu2⟩)
  go_ret
  exact ⟨rfl, B1.out.andThen ((GA.out.andThen D26.out).andThen hbu2)⟩
theorem fit_set {M : WorldM} (h : WFit M) (g : Nat) {y : GroupM} (hy : GFit y) : WFit (setG M g y) :=
  ⟨h.1, h.2.1, by simpa [setG] using h.2.2.1, fun k hk => by
    have hk' : k < M.groups.length := by simpa [setG] using hk
    have hh := h.2.2.2 k hk'
    simp only [setG, List.getElem_set]
    split
    · exact hy
    · exact hh⟩
theorem fit_w0 : WFit world0 := ⟨by decide, by decide, by decide, fun k hk => absurd hk (Nat.not_lt_zero _)⟩
theorem fit_g0 : GFit group0 := ⟨Nat.zero_le _, ⟨Nat.zero_le _, Nat.zero_le _⟩, Nat.zero_le _⟩
theorem fit_drop {M : WorldM} (h : WFit M) (q : ByteArray) : WFit (fdropW M q) := by
  unfold fdropW dropW
  repeat' split
  all_goals first | exact h | exact fit_w0 | exact fit_set h _ fit_g0
theorem FnFileDrop_any (h : WH) (M : WorldM) (q : ByteArray) (w : World) (hs : WAt w h M) (hm : WMax M) (hx : NextOk M) (hE : ErrIs w) :
    Calls Tryz.prog 5 #[.agg #[.int .i64 M.now, .slice h.ca M.cpus.length h.cc, .slice h.ta M.tasks.length h.tc, .slice h.ga M.groups.length h.gc], .string q] w fun e w' => e = .returned (.bool true) ∧ Below w.heap.size w w' :=
  FnFileDrop_gen h M q _ _ w hs hm hx hE (fun hf => fit_drop hf q)
    (fun hf x W hW => sFileDrop_any x.ca x.cc x.ta x.tc x.ga x.gc x.gh M W (WA.of hW) hf q hx)
    (fun hf x W hW hE => iFileDrop_any x M W hW hf hx q hE)
end Go.Proofs.YtknfpigaognklaaGreatDoor
namespace Go.Proofs.YtknfpigaognklaaGreatDoor
open Go.RowKit Go.Sort
open Go.ChangeShapes Go.WideShapes Go.ChangeAt Go.Deep
open Go.ChangeMaps (open_string shut_string)
theorem err_et : Tryz.prog.globalNamed "errors.errorType" = some 1 := by kernel_rfl
theorem err_rt : (Tryz.prog.cutTypes.find? (·.1 == "internal/reflectlite.rtype")).map (·.2) = some 205 := by kernel_rfl
theorem err_oneRow : ((List.range 247).filter fun t => Tryz.prog.rowNamed t [101, 114, 114, 111, 114]) = [67] := by kernel_rfl
theorem err_size : Tryz.prog.types.size = 247 := by kernel_rfl
theorem errIs_of_laid {W : World} (h : laidMetH Tryz.prog Rows.fnExactFileDropRow.laid W) : ErrIs W := by
  have h' : laidMet Tryz.prog [] W ∧ handlesMet Tryz.prog Rows.fnExactFileDropRow.laid W := h
  obtain ⟨name, u, ty, e1, e2, e3, e4, e5⟩ := h'.2 _ (List.mem_singleton.2 rfl)
  have en : name = [101, 114, 114, 111, 114] := (Option.some.inj e1).symm
  subst en
  obtain rfl := Option.some.inj (err_rt.symm.trans e2)
  have hm : ty ∈ (List.range 247).filter fun t => Tryz.prog.rowNamed t [101, 114, 114, 111, 114] := List.mem_filter.2 ⟨List.mem_range.2 (by rw [← err_size]; exact e3), e4⟩
  rw [err_oneRow] at hm
  obtain rfl := List.mem_singleton.1 hm
  have hh : typeHandle Tryz.prog 67 = .pointer (some ⟨5, 67, none⟩) := by kernel_rfl
  rw [hh] at e5
  unfold ErrIs
  simpa using World.var?_cell err_et e5 0
theorem FnFileDrop_door (os : Os) (args : Array Value) : laidMetH Tryz.prog Rows.fnExactFileDropRow.laid ((World.doorLaid Tryz.prog 31 os).forCall (fun _ _ => 0) ⟨#[], args, []⟩).memory :=
  laidMetH_of_parts3 (fuel := 8) (laidMet_nil _ _) (by kernel_rfl) (by kernel_rfl)
set_option maxRecDepth 100000 in
theorem FnFileDrop_lifted (os : Os) (started : os.Started) (H : Type) (enc : TypeId × Value → H) :
    ReturnsInHanded {} Tryz.checked os 5 .any (fun w args => (Rows.fnExactFileDropSpec.pre enc Tryz.prog Tryz.f5 [] false w args ∧ laidMetH Tryz.prog Rows.fnExactFileDropRow.laid w) ∧ sizedMet enc Tryz.prog Tryz.f5 (OpenSpec.ofChange Rows.fnExactFileDropSpec) false w args)
      (Rows.fnExactFileDropSpec.post enc Tryz.prog Tryz.f5 false true false false) := by
  refine returnsInHanded_of_change_and (C := Tryz.checked) (X := fun w _ => laidMetH Tryz.prog Rows.fnExactFileDropRow.laid w) (fun _ _ _ hh h => h.of_heap hh) own started (by kernel_rfl) Tryz.func5
    (ChangeSpec.witness_shaped (enc := enc) (C := Tryz.checked) (os := os) (X := fun w _ => laidMetH Tryz.prog Rows.fnExactFileDropRow.laid w) false (World.doorLaid Tryz.prog 31 os) #[.agg #[.int .i64 0, .slice none 0 0, .slice none 0 0, .slice none 0 0], .string ⟨#[]⟩] 8 rfl (World.shaped_of_RefB (by kernel_rfl) (by kernel_rfl)) (by kernel_rfl) (by kernel_rfl) (by kernel_rfl) (FnFileDrop_door os _)) ?_
  intro W base args ds gs before hval0 hW _ _ hL _
  have hval : ∀ (j : Nat) t v, Tryz.f5.params[j]? = some t → args[j]? = some v → Value.okWide Tryz.prog W .any base t v := hval0
  have hW' := hW
  obtain ⟨p, q, hA0, hV, rfl, hfz, hnd⟩ := hW
  have hA : DataW.TrodAll enc Tryz.prog W 0 (fun _ => true) true Tryz.f5.params.toList args.toList ds p := hA0
  have hA1 := hA
  rw [Tryz.params5] at hA1 hval
  obtain ⟨v0, v1, d0, d1, p0, p1, rfl, rfl, rfl, h0, h1⟩ := trodAll_two hA1
  obtain ⟨rfl, rfl⟩ := trodVars_none hV
  obtain ⟨cs0, rfl, hsz0⟩ := okWide_struct Tryz.underlying26 (hval 0 26 _ rfl rfl)
  obtain ⟨fuel, hf⟩ := h0
  obtain ⟨h, M, hcs, hwat, hmax, hnx⟩ := open_world hf
  obtain rfl : cs0 = #[.int .i64 M.now, .slice h.ca M.cpus.length h.cc, .slice h.ta M.tasks.length h.tc, .slice h.ga M.groups.length h.gc] := by
    apply Array.ext'
    simpa [Value.cells] using hcs
  obtain ⟨s, rfl, rfl, rfl, hss⟩ := open_string Tryz.underlying9 (hval 1 9 _ rfl rfl) h1
  clear hA0 hval0 hf h1
  simp only [List.append_nil] at hW' hA
  refine (FnFileDrop_any h M s W hwat hmax (nextOk_of hnx) (errIs_of_laid hL)).mono fun e W' ⟨he, hb⟩ => ?_
  subst he
  exact ⟨_, rfl, law_post laidOut (by rw [Tryz.params5]; decide +kernel) (by kernel_rfl) Tryz.underlying4 rfl hW' hA rfl hb⟩
theorem FnFileDrop_holds : Rows.FnExactFileDropSaid :=
  OpenClaim.holds_of_wide 5 Tryz.f5 rfl rfl rfl rfl rfl rfl rfl ⟨rfl, rfl, rfl, rfl, rfl⟩ rfl rfl rfl rfl rfl (by kernel_rfl) Tryz.func5 (by kernel_rfl)
    (of_decide_eq_true (by kernel_rfl)) (by unfold Func.isWrapper; first | (rw [if_pos (by decide +kernel)]; kernel_rfl) | (rw [if_neg (by decide +kernel)]; exact ⟨rfl, rfl⟩))
    (fun os started H enc _ => FnFileDrop_lifted os started H enc)
theorem FnFileDrop_card : Rows.FnExactFileDropCardSaid :=
  Claim7.holds_tied_plain_at .later [] [.handle] true _ true
    FnFileDrop_holds (fun _ h => by cases h) (by kernel_rfl) (fun _ h => by cases h) fnExactFileDrop_row_tie rfl ⟨rfl, rfl⟩ (by kernel_rfl) rfl
    (fun f fn hf hfn => by
      obtain rfl : f = 5 := Option.some.inj ((show Tryz.prog.funcNamed "loop.example/stint/laws.FnExactFileDrop" = some 5 by kernel_rfl).symm.trans hf) |>.symm
      obtain rfl : fn = Tryz.f5 := (Option.some.inj (Tryz.func5.symm.trans hfn)).symm
      exact ⟨by kernel_rfl, fun j t ht => by
        rw [Tryz.params5] at ht
        have hm : t ∈ [26, 9] := by simpa using Array.mem_of_getElem? ht
        have hall : ([26, 9].all fun u => !Tryz.prog.wantsStandIn u) = true := by kernel_rfl
        exact (show Tryz.prog.wantsStandIn t = false by simpa using List.all_eq_true.1 hall t hm)⟩)
    (by kernel_rfl)
end Go.Proofs.YtknfpigaognklaaGreatDoor
