/- The law that compares boards of worlds holds, whatever comes in. No condition, but that the library's tables are as the program lays them. -/
import Derived.Test.YtknfpigaognklaaGreatDoorZb
import Derived.Test.YtknfpigaognklaaGreatDoorAl
import Derived.Test.YtknfpigaognklaaGreatDoorTie
import Derived.Test.YtknfpigaognklaaGreatDoorCards
import Derived.SevenTiedAt
import Derived.ProofKit
import Derived.LaidMore
import Derived.OpenShut
import Derived.Stop.Joined
import Derived.Lib.LaidTab
import Derived.Stop.LaidErr
namespace Go.Proofs.YtknfpigaognklaaGreatDoor
open Go.RowKit Go.Sort
open Go.ChangeShapes Go.WideShapes Go.ChangeAt Go.Deep
set_option maxRecDepth 100000 in
set_option maxHeartbeats 4000000 in
theorem FnWorldBoard_any (h : WH) (M : WorldM) (w : World) (hs : WAt w h M) (hm : WMax M) (hx : NextOk M) (htab : Lib.TabIs Tryz.prog w "internal/strconv.uint64pow10" .u64 Lib.pow10Tab) :
    Calls Tryz.prog 4 #[.agg #[.int .i64 M.now, .slice h.ca M.cpus.length h.cc, .slice h.ta M.tasks.length h.tc, .slice h.ga M.groups.length h.gc]] w fun e w' => e = .returned (.bool true) ∧ Below w.heap.size w w' := by
  go_enter Tryz.func4, Tryz.ntmps4
  go_upto_region 1 with (fail)
  refine PA.gen (P := fun W => Code.wp _ _ _ _ W) (WA.of hs) ?_
  intro W b1 s1 pw
  have hs1 := hs.keep b1
  have PW := Lib.hid pw
  have HM := Lib.hid hm
  have HX := Lib.hid hx
  have HT := Lib.hid htab
  obtain ⟨q0, q1, q2, q3, q4, _⟩ := pw
  clear s1 hm hx htab
  go_upto_region 3 with (go_at_call 7; refine (szWorld_any h M _ hs1 HM.out).mono ?_; rintro e w2 ⟨r, rfl, hb2, hr1, hr2, hfit⟩)
  have pw2 := PW.out.keep hb2
  have PW2 := Lib.hid pw2
  obtain ⟨p0, p1, p2, p3, p4, _⟩ := pw2
  have hs2 := hs1.keep hb2
  have b2 := b1.andThen hb2
  clear q0 q1 q2 q3 q4
  by_cases hr : r < 0
  · clear hfit
    go_wp2
    go_ret
    exact ⟨rfl, b2⟩
  · have HFIT := Lib.hid (hfit (by omega))
    have HF := Lib.hid (fitG_of HFIT.out)
    clear hfit
    have hr0 : 0 ≤ r := by omega
    clear hr
    obtain ⟨V, hV⟩ : ∃ V, strB (boardM M) = V := ⟨_, rfl⟩
    have HV := Lib.hid hV
    clear hV
    go_upto_region 6 with (first | (go_at_call 9; refine (toWorld_any h M _ hs2 HFIT.out).mono ?_; rintro e w3 ⟨h3, rfl, hb3, hw3⟩) | (go_at_call 12; refine (sBoard_any h3.ca h3.cc h3.ta h3.tc h3.ga h3.gc h3.gh M _ (WA.of hw3) HF.out HX.out).mono ?_; rintro e w4 ⟨rfl, hb4⟩; rw [HV.out]))
    have b4 := hb3.andThen hb4
    have pw4 := PW2.out.keep b4
    have PW4 := Lib.hid pw4
    have hs4 := hs2.keep b4
    obtain ⟨r0, r1, r2, r3, r4, _⟩ := pw4
    clear p0 p1 p2 p3 p4
    go_upto_region 7 with (go_at_call 9; refine (toWorld_any h M _ hs4 HFIT.out).mono ?_; rintro e w5 ⟨h5, rfl, hb5, hw5⟩)
    refine PA.gen (P := fun W => Code.wp _ _ _ _ W) (WA.of hw5) ?_
    intro W6 b6' s6 px
    have b6 := hb5.andThen b6'
    have hw6 := hw5.keep b6'
    have PX := Lib.hid px
    obtain ⟨x0, x1, x2, x3, x4, _⟩ := px
    clear s6 r0 r1 r2 r3 r4
    have HT6 := Lib.hid (tab_keep HT.out (b2.andThen (b4.andThen b6)))
    go_upto_region 8 with (go_at_call 13; refine (iBoard_any h5.ca h5.cc h5.ta h5.tc h5.ga h5.gc h5.gh M _ (WA.of hw6) HF.out HX.out HT6.out).mono ?_; rintro e w7 ⟨rfl, hb7⟩; rw [HV.out])
    have b7 := b6.andThen hb7
    have pw7 := PW4.out.keep b7
    have px7 := PX.out.keep hb7
    have hs7 := hs4.keep b7
    have hw7 := hw6.keep hb7
    obtain ⟨y0, y1, y2, y3, y4, _⟩ := pw7
    obtain ⟨z0, z1, z2, z3, z4, _⟩ := px7
    clear x0 x1 x2 x3 x4
    go_upto_region 10 with (fail)
    have q_y1 := fun d os => cell_regrown y1 d os
    have q_y2 := fun d os => cell_regrown y2 d os
    have q_y3 := fun d os => cell_regrown y3 d os
    have q_y4 := fun d os => cell_regrown y4 d os
    have q_z1 := fun d os => cell_regrown z1 d os
    have q_z2 := fun d os => cell_regrown z2 d os
    have q_z3 := fun d os => cell_regrown z3 d os
    have q_z4 := fun d os => cell_regrown z4 d os
    have bd : Below w7.heap.size w7 w7.drew := ⟨rfl, rfl, rfl, Nat.le_refl _, fun _ _ => rfl⟩
    refine region_by [false, false, true, true, false] (by kernel_rfl) (by kernel_rfl) (by kernel_rfl) ?_
    repeat (first | (refine wpR_skip (by rfl) ?_; simp only [Act.put, List.setIfInBounds_toArray, List.set_cons_zero, List.set_cons_succ]) | (refine wpR_det (by rfl) (fun K hK => ?_); go_big_quiet_op; refine hK _ ?_; clear hK K))
    refine wpR_bar (by rfl) (fun K hK => ?_)
    go_big_op
    go_at_call 9
    refine (toWorld_any h M _ (hs7.keep bd) HFIT.out).mono ?_
    rintro e w8 ⟨h8, rfl, hb8, hw8⟩
    refine hK _ _ (regrown_of_below (bd.andThen hb8)) ?_
    clear hK K
    refine wpR_bar (by rfl) (fun K hK => ?_)
    go_big_op
    go_at_call 11
    refine (eqWorld_any h5 h8 M _ HFIT.out (hw7.keep (bd.andThen hb8)) hw8).mono ?_
    rintro e w9 ⟨rfl, hb9⟩
    refine hK _ _ (regrown_of_below ((bd.andThen hb8).andThen hb9)) ?_
    clear hK K
    repeat (first | (refine wpR_skip (by rfl) ?_; simp only [Act.put, List.setIfInBounds_toArray, List.set_cons_zero, List.set_cons_succ]) | (refine wpR_det (by rfl) (fun K hK => ?_); go_big_quiet_op; refine hK _ ?_; clear hK K))
    refine wpR_nil ?_
    go_wp2
    go_ret
    exact ⟨rfl, b2.andThen (b4.andThen (b7.andThen ((bd.andThen hb8).andThen hb9)))⟩
theorem FnWorldBoard_door (os : Os) (args : Array Value) : laidMetH Tryz.prog Rows.fnExactWorldBoardRow.laid ((World.doorLaid Tryz.prog 31 os).forCall (fun _ _ => 0) ⟨#[], args, []⟩).memory :=
  laidMetH_of_parts3 (fuel := 8) (laidMet_of_run' 8 (by kernel_rfl) (by kernel_rfl)) (by kernel_rfl) (by kernel_rfl)
set_option maxRecDepth 100000 in
theorem FnWorldBoard_tab {W : World} (h : laidMetH Tryz.prog Rows.fnExactWorldBoardRow.laid W) : Lib.TabIs Tryz.prog W "internal/strconv.uint64pow10" .u64 Lib.pow10Tab := by
  rw [MakeChecks.laidMetH_plain _ _ _ (by kernel_rfl)] at h
  have h2 : laidMet Tryz.prog [_, _, ("internal/strconv.uint64pow10", Lib.tabData .u64 Lib.pow10Tab)] W := h
  exact Lib.tabIs_of_head (t := 200) (e := 184) (n := 20) (show Tryz.prog.globalNamed "internal/strconv.uint64pow10" = some 2 by kernel_rfl) (by kernel_rfl) Tryz.underlying200 Tryz.underlying184 (by kernel_rfl) (by kernel_rfl) (laidMet.tail (laidMet.tail h2))
set_option maxRecDepth 100000 in
theorem FnWorldBoard_lifted (os : Os) (started : os.Started) (H : Type) (enc : TypeId × Value → H) :
    ReturnsInHanded {} Tryz.checked os 4 .any (fun w args => (Rows.fnExactWorldBoardSpec.pre enc Tryz.prog Tryz.f4 [] false w args ∧ laidMetH Tryz.prog Rows.fnExactWorldBoardRow.laid w) ∧ sizedMet enc Tryz.prog Tryz.f4 (OpenSpec.ofChange Rows.fnExactWorldBoardSpec) false w args)
      (Rows.fnExactWorldBoardSpec.post enc Tryz.prog Tryz.f4 false true false false) := by
  refine returnsInHanded_of_change_and (C := Tryz.checked) (X := fun w _ => laidMetH Tryz.prog Rows.fnExactWorldBoardRow.laid w) (fun _ _ _ hh h => h.of_heap hh) own started (by kernel_rfl) Tryz.func4
    (ChangeSpec.witness_shaped (enc := enc) (C := Tryz.checked) (os := os) (X := fun w _ => laidMetH Tryz.prog Rows.fnExactWorldBoardRow.laid w) false (World.doorLaid Tryz.prog 31 os) #[.agg #[.int .i64 0, .slice none 0 0, .slice none 0 0, .slice none 0 0]] 8 rfl (World.shaped_of_RefB (by kernel_rfl) (by kernel_rfl)) (by kernel_rfl) (by kernel_rfl) (by kernel_rfl) (FnWorldBoard_door os _)) ?_
  intro W base args ds gs before hval0 hW _ _ hL _
  have hval : ∀ (j : Nat) t v, Tryz.f4.params[j]? = some t → args[j]? = some v → Value.okWide Tryz.prog W .any base t v := hval0
  have hW' := hW
  obtain ⟨p, q, hA0, hV, rfl, hfz, hnd⟩ := hW
  have hA : DataW.TrodAll enc Tryz.prog W 0 (fun _ => true) true Tryz.f4.params.toList args.toList ds p := hA0
  have hA1 := hA
  rw [Tryz.params4] at hA1 hval
  obtain ⟨v0, d0, rfl, rfl, h0⟩ := trodAll_one hA1
  obtain ⟨rfl, rfl⟩ := trodVars_none hV
  obtain ⟨cs0, rfl, hsz0⟩ := okWide_struct Tryz.underlying26 (hval 0 26 _ rfl rfl)
  obtain ⟨fuel, hf⟩ := h0
  obtain ⟨h, M, hcs, hwat, hmax, hnx⟩ := open_world hf
  obtain rfl : cs0 = #[.int .i64 M.now, .slice h.ca M.cpus.length h.cc, .slice h.ta M.tasks.length h.tc, .slice h.ga M.groups.length h.gc] := by
    apply Array.ext'
    simpa [Value.cells] using hcs
  clear hA0 hval0 hf
  simp only [List.append_nil] at hW' hA
  refine (FnWorldBoard_any h M W hwat hmax (nextOk_of hnx) (FnWorldBoard_tab hL)).mono fun e W' ⟨he, hb⟩ => ?_
  subst he
  exact ⟨_, rfl, law_post laidOut (by rw [Tryz.params4]; decide +kernel) (by kernel_rfl) Tryz.underlying4 rfl hW' hA rfl hb⟩
theorem FnWorldBoard_holds : Rows.FnExactWorldBoardSaid :=
  OpenClaim.holds_of_wide 4 Tryz.f4 rfl rfl rfl rfl rfl rfl rfl ⟨rfl, rfl, rfl, rfl, rfl⟩ rfl rfl rfl rfl rfl (by kernel_rfl) Tryz.func4 (by kernel_rfl)
    (of_decide_eq_true (by kernel_rfl)) (by unfold Func.isWrapper; first | (rw [if_pos (by decide +kernel)]; kernel_rfl) | (rw [if_neg (by decide +kernel)]; exact ⟨rfl, rfl⟩))
    (fun os started H enc _ => FnWorldBoard_lifted os started H enc)
theorem FnWorldBoard_card : Rows.FnExactWorldBoardCardSaid :=
  Claim7.holds_tied_plain_at .later [] [.data, .data, .data] true _ true
    FnWorldBoard_holds (fun _ h => by cases h) (by kernel_rfl) (fun _ h => by cases h) fnExactWorldBoard_row_tie rfl ⟨rfl, rfl⟩ (by kernel_rfl) rfl
    (fun f fn hf hfn => by
      obtain rfl : f = 4 := Option.some.inj ((show Tryz.prog.funcNamed "loop.example/stint/laws.FnExactWorldBoard" = some 4 by kernel_rfl).symm.trans hf) |>.symm
      obtain rfl : fn = Tryz.f4 := (Option.some.inj (Tryz.func4.symm.trans hfn)).symm
      exact ⟨by kernel_rfl, fun j t ht => by
        rw [Tryz.params4] at ht
        have hm : t ∈ [26] := by simpa using Array.mem_of_getElem? ht
        have hall : ([26].all fun u => !Tryz.prog.wantsStandIn u) = true := by kernel_rfl
        exact (show Tryz.prog.wantsStandIn t = false by simpa using List.all_eq_true.1 hall t hm)⟩)
    (by kernel_rfl)
end Go.Proofs.YtknfpigaognklaaGreatDoor
