/- Laws that compare what is told of a world: they hold, whatever comes in. No condition. -/
import Derived.Test.YtccjanpdgdonmaaGreatT1
import Derived.Test.YtccjanpdgdonmaaGreatOw
import Derived.Test.YtccjanpdgdonmaaGreatLx
namespace Go.Proofs.YtccjanpdgdonmaaGreat
open Go.RowKit Go.Sort
open Go.ChangeShapes Go.WideShapes Go.ChangeAt Go.Deep
theorem fitG_of {M : WorldM} (h : WFit M) : FitG M := by
  obtain ⟨h1, h2, h3, h4⟩ := h
  refine ⟨h1, h2, h3, fun k hk => ?_, fun k hk => ?_, fun k hk => ?_, fun k hk => ?_⟩
  all_goals have := h4 k hk
  all_goals rw [grp_eq hk] at this
  · exact this.2.1.1
  · exact this.2.1.2
  · exact this.2.2
  · exact this.1
theorem nextOk_of {M : WorldM} (h : ∀ k (hk : k < M.groups.length), M.groups[k].next ≤ 9223372036854775807) : NextOk M := by
  intro k _
  by_cases hk : k < M.groups.length
  · rw [← grp_eq hk]; exact h k hk
  · rw [grp, List.getD_eq_getElem?_getD, List.getElem?_eq_none (by omega)]; decide
set_option maxRecDepth 100000 in
set_option maxHeartbeats 4000000 in
theorem FnGroupLag_any (h : WH) (M : WorldM) (w : World) (hs : WAt w h M) (hm : WMax M) (hx : NextOk M) (g c : Int) :
    Calls Tryz.prog 3 #[.agg #[.int .i64 M.now, .slice h.ca M.cpus.length h.cc, .slice h.ta M.tasks.length h.tc, .slice h.ga M.groups.length h.gc], .int .i64 g, .int .i64 c] w fun e w' => e = .returned (.bool true) ∧ Below w.heap.size w w' := by
  go_enter Tryz.func3, Tryz.ntmps3
  go_upto_region 1 with (fail)
  refine PA.gen (P := fun W => Code.wp _ _ _ _ W) (WA.of hs) ?_
  intro W b1 s1 pw
  have hs1 := hs.keep b1
  have PW := Lib.hid pw
  have HM := Lib.hid hm
  have HX := Lib.hid hx
  obtain ⟨q0, q1, q2, q3, q4, _⟩ := pw
  clear s1 hm hx
  go_upto_region 3 with (go_at_call 9; refine (szWorld_any h M _ hs1 HM.out).mono ?_; rintro e w2 ⟨r, rfl, hb2, hr1, hr2, hfit⟩)
  have pw2 := PW.out.keep hb2
  have PW2 := Lib.hid pw2
  obtain ⟨p0, p1, p2, p3, p4, _⟩ := pw2
  have hs2 := hs1.keep hb2
  have b2 := b1.andThen hb2
  clear q0 q1 q2 q3 q4
  by_cases hr : r < 0
  · clear hfit
    go_wp2
    go_ret
    exact ⟨rfl, b2⟩
  · have HFIT := Lib.hid (hfit (by omega))
    have HF := Lib.hid (fitG_of HFIT.out)
    clear hfit
    have hr0 : 0 ≤ r := by omega
    clear hr
    obtain ⟨V, hV⟩ : ∃ V, lagG M g c = V := ⟨_, rfl⟩
    have HV := Lib.hid hV
    clear hV
    go_upto_region 6 with (first | (go_at_call 11; refine (toWorld_any h M _ hs2 HFIT.out).mono ?_; rintro e w3 ⟨h3, rfl, hb3, hw3⟩) | (go_at_call 10; refine (sGroupLag_any h3.ca h3.cc h3.ta h3.tc h3.ga h3.gc h3.gh M _ (WA.of hw3) HF.out g c).mono ?_; rintro e w4 ⟨rfl, hb4⟩; rw [HV.out]))
    have b4 := hb3.andThen hb4
    have pw4 := PW2.out.keep b4
    have PW4 := Lib.hid pw4
    have hs4 := hs2.keep b4
    obtain ⟨r0, r1, r2, r3, r4, _⟩ := pw4
    clear p0 p1 p2 p3 p4
    go_upto_region 7 with (go_at_call 11; refine (toWorld_any h M _ hs4 HFIT.out).mono ?_; rintro e w5 ⟨h5, rfl, hb5, hw5⟩)
    refine PA.gen (P := fun W => Code.wp _ _ _ _ W) (WA.of hw5) ?_
    intro W6 b6' s6 px
    have b6 := hb5.andThen b6'
    have hw6 := hw5.keep b6'
    have PX := Lib.hid px
    obtain ⟨x0, x1, x2, x3, x4, _⟩ := px
    clear s6 r0 r1 r2 r3 r4
    go_upto_region 8 with (go_at_call 12; refine (iGroupLag_any h5.ca h5.cc h5.ta h5.tc h5.ga h5.gc h5.gh M _ (WA.of hw6) HF.out HX.out g c).mono ?_; rintro e w7 ⟨rfl, hb7⟩; rw [HV.out])
    have b7 := b6.andThen hb7
    have pw7 := PW4.out.keep b7
    have px7 := PX.out.keep hb7
    have hs7 := hs4.keep b7
    have hw7 := hw6.keep hb7
    obtain ⟨y0, y1, y2, y3, y4, _⟩ := pw7
    obtain ⟨z0, z1, z2, z3, z4, _⟩ := px7
    clear x0 x1 x2 x3 x4
    obtain ⟨v0, v1⟩ := V
    have hv0 : (v0 != v0) = false := by simp
    have hv1 : (v1 != v1) = false := by simp
    go_upto_region 10 with (fail)
    have q_y1 := fun d os => cell_regrown y1 d os
    have q_y2 := fun d os => cell_regrown y2 d os
    have q_y3 := fun d os => cell_regrown y3 d os
    have q_y4 := fun d os => cell_regrown y4 d os
    have q_z1 := fun d os => cell_regrown z1 d os
    have q_z2 := fun d os => cell_regrown z2 d os
    have q_z3 := fun d os => cell_regrown z3 d os
    have q_z4 := fun d os => cell_regrown z4 d os
    have bd : Below w7.heap.size w7 w7.drew := ⟨rfl, rfl, rfl, Nat.le_refl _, fun _ _ => rfl⟩
    refine region_by [false, false, true, true, false] (by kernel_rfl) (by kernel_rfl) (by kernel_rfl) ?_
    repeat (first | (refine wpR_skip (by rfl) ?_; simp only [Act.put, List.setIfInBounds_toArray, List.set_cons_zero, List.set_cons_succ]) | (refine wpR_det (by rfl) (fun K hK => ?_); go_big_quiet_op; refine hK _ ?_; clear hK K))
    refine wpR_bar (by rfl) (fun K hK => ?_)
    go_big_op
    go_at_call 11
    refine (toWorld_any h M _ (hs7.keep bd) HFIT.out).mono ?_
    rintro e w8 ⟨h8, rfl, hb8, hw8⟩
    refine hK _ _ (regrown_of_below (bd.andThen hb8)) ?_
    clear hK K
    refine wpR_bar (by rfl) (fun K hK => ?_)
    go_big_op
    go_at_call 13
    refine (eqWorld_any h5 h8 M _ HFIT.out (hw7.keep (bd.andThen hb8)) hw8).mono ?_
    rintro e w9 ⟨rfl, hb9⟩
    refine hK _ _ (regrown_of_below ((bd.andThen hb8).andThen hb9)) ?_
    clear hK K
    repeat (first | (refine wpR_skip (by rfl) ?_; simp only [Act.put, List.setIfInBounds_toArray, List.set_cons_zero, List.set_cons_succ]) | (refine wpR_det (by rfl) (fun K hK => ?_); go_big_quiet_op; refine hK _ ?_; clear hK K))
    refine wpR_nil ?_
    go_wp2
    go_ret
    exact ⟨rfl, b2.andThen (b4.andThen (b7.andThen ((bd.andThen hb8).andThen hb9)))⟩
set_option maxRecDepth 100000 in
theorem FnGroupLag_lifted (os : Os) (started : os.Started) (H : Type) (enc : TypeId × Value → H) :
    ReturnsInHanded {} Tryz.checked os 3 .any (Rows.fnExactGroupLagSpec.pre6 enc Tryz.prog Tryz.f3 Rows.fnExactGroupLagRow.domain false) (Rows.fnExactGroupLagSpec.post enc Tryz.prog Tryz.f3 false true false false) := by
  refine returnsInHanded_of_change (C := Tryz.checked) own started (by kernel_rfl) Tryz.func3
    (ChangeSpec.witness6 (enc := enc) (C := Tryz.checked) false ⟨#[], #[.agg #[.int .i64 0, .slice none 0 0, .slice none 0 0, .slice none 0 0], .int .i64 0, .int .i64 0], []⟩ 8 (by kernel_rfl) (by kernel_rfl) (by kernel_rfl) (by kernel_rfl)) ?_
  intro W base args ds gs before hval0 hW hcnd _
  have hval : ∀ (j : Nat) t v, Tryz.f3.params[j]? = some t → args[j]? = some v → Value.okWide Tryz.prog W .any base t v := hval0
  have hW' := hW
  obtain ⟨p, q, hA0, hV, rfl, hfz, hnd⟩ := hW
  have hA : DataW.TrodAll enc Tryz.prog W 0 (fun _ => true) true Tryz.f3.params.toList args.toList ds p := hA0
  have hA1 := hA
  rw [Tryz.params3] at hA1 hval
  obtain ⟨v0, v1, v2, d0, d1, d2, p0, p1, p2, rfl, rfl, rfl, h0, h1, h2⟩ := trodAll_three hA1
  obtain ⟨rfl, rfl⟩ := trodVars_none hV
  obtain ⟨cs0, rfl, hsz0⟩ := okWide_struct Tryz.underlying26 (hval 0 26 _ rfl rfl)
  obtain ⟨fuel, hf⟩ := h0
  obtain ⟨h, M, hcs, hwat, hmax, hnx⟩ := open_world hf
  obtain rfl : cs0 = #[.int .i64 M.now, .slice h.ca M.cpus.length h.cc, .slice h.ta M.tasks.length h.tc, .slice h.ga M.groups.length h.gc] := by
    apply Array.ext'
    simpa [Value.cells] using hcs
  obtain ⟨x1, rfl, rfl, rfl, wa1⟩ := open_int Tryz.underlying3 (hval 1 3 v1 rfl rfl) h1
  obtain ⟨x2, rfl, rfl, rfl, wa2⟩ := open_int Tryz.underlying3 (hval 2 3 v2 rfl rfl) h2
  clear hA0 hval0 hf
  simp only [List.append_nil] at hW' hA
  refine (FnGroupLag_any h M W hwat hmax (nextOk_of hnx) x1 x2).mono fun e W' ⟨he, hb⟩ => ?_
  subst he
  exact ⟨_, rfl, law_post laidOut (by rw [Tryz.params3]; decide +kernel) (by kernel_rfl) Tryz.underlying4 rfl hW' hA rfl hb⟩
theorem FnGroupLag_holds : Rows.FnExactGroupLagSaid :=
  OpenClaim.holds_of_wide 3 Tryz.f3 rfl rfl rfl rfl rfl rfl rfl ⟨rfl, rfl, rfl, rfl, rfl⟩ rfl rfl rfl rfl rfl (by kernel_rfl) Tryz.func3 (by kernel_rfl)
    (of_decide_eq_true (by kernel_rfl)) (by unfold Func.isWrapper; first | (rw [if_pos (by decide +kernel)]; kernel_rfl) | (rw [if_neg (by decide +kernel)]; exact ⟨rfl, rfl⟩))
    (fun os started H enc _ => FnGroupLag_lifted os started H enc)
end Go.Proofs.YtccjanpdgdonmaaGreat
