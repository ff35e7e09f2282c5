/- A group in writing: the program. A region that draws its order, with a call at its end that writes: walked once; the last operation need not keep the class of worlds. A world in writing: the program, whole. -/
import Derived.Test.YtknfpigaognklaaGreatDoorZs
import Derived.Test.YtknfpigaognklaaGreatDoorZr
namespace Go.Proofs.YtknfpigaognklaaGreatDoor
open Go.RowKit Go.Sort
attribute [local go_sem] strB_size
set_option maxHeartbeats 400000 in
theorem iBit_any (b : Bool) (w : World) : Calls Tryz.prog 33 #[.bool b] w fun e w' => e = .returned (.int .i64 (bitM b)) ∧ w = w' := by
  cases b
  all_goals
    go_enter Tryz.func33, Tryz.ntmps33
    go_wp2
    go_ret
    exact ⟨rfl, rfl⟩
set_option maxRecDepth 100000 in
set_option maxHeartbeats 8000000 in
theorem iGroup_any (ca : Option Addr) (ta : Option Addr) (ga : Option Addr) (gh : Nat → GH) (M : WorldM) (w : World) (hs : WA w ca ta ga gh M) (htab : Lib.TabIs Tryz.prog w "internal/strconv.uint64pow10" .u64 Lib.pow10Tab) (FA : Facts M) (NO : NumOk M) (k : Nat) (hk : k < 8) (hu : (grp M k).used = true) :
    Calls Tryz.prog 34 #[.int .i64 k, .agg #[.bool (grp M k).used, .int .i64 (grp M k).parent, .string (grp M k).name, .int .i64 (grp M k).weight, .int .i64 (grp M k).cpus, .int .i64 (grp M k).period, .int .i64 (grp M k).next, .int .i64 (grp M k).sum, .int .i64 (grp M k).band.quota, .int .i64 (grp M k).band.pool, .int .i64 (grp M k).band.spent, .slice (gh k).la (grp M k).band.locals.length (gh k).lc, .slice (gh k).da (grp M k).band.dry.length (gh k).dc, .slice (gh k).sa (grp M k).shelves.length (gh k).sc]] w fun e w' => e = .returned (.string (strB (groupT M k))) ∧ Below w.heap.size w w' := by
  have HFA := Lib.hid FA
  have HNO := Lib.hid NO
  have HU := Lib.hid hu
  have HT := Lib.hid htab
  have HS := Lib.hid hs
  have hlg : k < M.groups.length := by have := FA.tree.len; omega
  clear FA NO htab hs hu
  rw [HU.out]
  have hi0 : (0 : Int) ≤ (k : Int) := by omega
  have hi9 : (k : Int) < 9 := by omega
  go_enter Tryz.func34, Tryz.ntmps34
  go_upto_region 1 with (fail)
  refine gen1 (p := fun W => Code.wp _ _ _ _ W) ?_
  intro W2 b2 s2 kx
  have y1 := kx.cell 1
  have y2 := kx.cell 2
  have y3 := kx.cell 3
  have y4 := kx.cell 4
  have y5 := kx.cell 5
  have y6 := kx.cell 6
  have y7 := kx.cell 7
  have y8 := kx.cell 8
  have y9 := kx.cell 9
  have y10 := kx.cell 10
  have y11 := kx.cell 11
  have y12 := kx.cell 12
  have y13 := kx.cell 13
  simp at y1 y2 y3 y4 y5 y6 y7 y8 y9 y10 y11 y12 y13
  have hx := kx.lt
  have bel := Lib.hid b2
  clear kx s2 b2
  by_cases h0 : k = 0
  · have hz : ((k : Int) == 0) = true := by simp [h0]
    have hnm : (⟨#[45]⟩ : ByteArray).data.toList = nameT M k := by rw [nameT, if_pos h0]
    have hns : (⟨#[45]⟩ : ByteArray).size ≤ 8 := by decide
    have HNM := Lib.hid hnm
    clear hnm h0
    go_upto_region 5 with (go_at_call 32; refine (iRow_any _ _ _ [(k : Int), (grp M k).parent, (grp M k).weight, (grp M k).cpus, (grp M k).period, (grp M k).next, (grp M k).sum] _ (IntS.fresh0 _ _ _ rfl _) (by rw [ByteArray.size_append']; have : (⟨#[103, 114, 111, 117, 112, 32]⟩ : ByteArray).size = 6 := rfl; omega) (by simp) (HNO.out.grpF k hk HU.out) (tab_keep HT.out (bel.out.andThen ((Below.refl _ _).alloc (Nat.le_refl _) _)))).mono ?_; rintro e w3 ⟨rfl, hb3⟩; rw [head_name, show (⟨#[45]⟩ : ByteArray).data.toList = nameT M k from HNM.out, show lineB ([103, 114, 111, 117, 112, 32] ++ nameT M k) [(k : Int), (grp M k).parent, (grp M k).weight, (grp M k).cpus, (grp M k).period, (grp M k).next, (grp M k).sum] = headT M k from rfl])
    have hb3' := ((Below.refl _ W2).alloc (Nat.le_refl _) _).andThen hb3
    have y8 := (hb3'.cell (p := ⟨w.heap.size, 8, none⟩) hx).trans y8
    have y9 := (hb3'.cell (p := ⟨w.heap.size, 9, none⟩) hx).trans y9
    have y10 := (hb3'.cell (p := ⟨w.heap.size, 10, none⟩) hx).trans y10
    have y11 := (hb3'.cell (p := ⟨w.heap.size, 11, none⟩) hx).trans y11
    have y12 := (hb3'.cell (p := ⟨w.heap.size, 12, none⟩) hx).trans y12
    have y13 := (hb3'.cell (p := ⟨w.heap.size, 13, none⟩) hx).trans y13
    have hx := Nat.lt_of_lt_of_le hx hb3'.size
    have bel3 := Lib.hid (bel.out.andThen hb3')
    have WA3 := Lib.hid (HS.out.keep bel3.out)
    clear hb3 hb3' bel
    go_wp2
    go_loopw [6, 36] (fun t i wr => ∃ c : Nat, c ≤ (grp M k).shelves.length ∧ i = .int .i64 c ∧ t = .string (strB (headT M k ++ catB (shelfT M k) c)) ∧ Below w3.heap.size w3 wr) (fun _ i _ => (grp M k).shelves.length - (intOf i).toNat)
    case atStart => exact ⟨0, by omega, rfl, str_eq (by rw [catB, List.append_nil]), Below.refl _ _⟩
    case round =>
      obtain ⟨c, hc, rfl, rfl, hb⟩ := hrel
      have y8 := (hb.cell (p := ⟨w.heap.size, 8, none⟩) hx).trans y8
      have y9 := (hb.cell (p := ⟨w.heap.size, 9, none⟩) hx).trans y9
      have y10 := (hb.cell (p := ⟨w.heap.size, 10, none⟩) hx).trans y10
      have y11 := (hb.cell (p := ⟨w.heap.size, 11, none⟩) hx).trans y11
      have y12 := (hb.cell (p := ⟨w.heap.size, 12, none⟩) hx).trans y12
      have y13 := (hb.cell (p := ⟨w.heap.size, 13, none⟩) hx).trans y13
      have hx := Nat.lt_of_lt_of_le hx hb.size
      have WA4 := Lib.hid (WA3.out.keep hb)
      have HX := Lib.hid (show (headT M k ++ catB (shelfT M k) c).length ≤ 1000 by rw [List.length_append]; have := headT_len HNO.out hk HU.out; have := catB_len (f := shelfT M k) (B := 200) c (fun j hj => shelfT_len HNO.out hk HU.out (by omega)); have := HFA.out.gok.she k hk HU.out; have := HFA.out.c4; omega)
      by_cases hlt : c < (grp M k).shelves.length
      · obtain ⟨bs, os, es, hBs, f0, f1, f2, f3, f4⟩ := WA4.out.shelf_ hlg hlt
        have hc0 : (0 : Int) ≤ (c : Int) := by omega
        have hc9 : (c : Int) < 9 := by have := HFA.out.gok.she k hk HU.out; have := HFA.out.c4; omega
        have hc1 : (c : Int) < ((grp M k).shelves.length : Int) := by omega
        have ES := Lib.hid es
        clear es
        rw [ES.out]
        go_upto_region 8 with (fail)
        refine gen1 (p := fun W => Code.wp _ _ _ _ W) ?_
        intro W5 b5 s5 kz
        have z0 := kz.cell 0
        have z1 := kz.cell 1
        have z2 := kz.cell 2
        have z3 := kz.cell 3
        have z4 := kz.cell 4
        simp at z0 z1 z2 z3 z4
        have HBEL := Lib.hid (hb.andThen b5)
        have bd : Below W5.heap.size W5 W5.drew := ⟨rfl, rfl, rfl, Nat.le_refl _, fun _ _ => rfl⟩
        have q0 := fun d os => cell_regrown z0 d os
        have q1 := fun d os => cell_regrown z1 d os
        have q2 := fun d os => cell_regrown z2 d os
        have q3 := fun d os => cell_regrown z3 d os
        have q4 := fun d os => cell_regrown z4 d os
        have HC := Lib.hid (show strB (headT M k ++ catB (shelfT M k) c) ++ strB (shelfT M k c) = strB (headT M k ++ catB (shelfT M k) (c + 1)) by rw [strB_append, catB, List.append_assoc])
        have HY := Lib.hid (shelfT_len HNO.out hk HU.out hlt)
        have HSR := Lib.hid (HNO.out.sheF k c hk HU.out hlt)
        have HSH := Lib.hid (show lineB [115, 104, 101, 108, 102] [(k : Int), (c : Int), (she M k c).floor, bitM (she M k c).on, (she M k c).v, (she M k c).w, (she M k c).sum] = shelfT M k c from rfl)
        have hX1 : ((headT M k ++ catB (shelfT M k) c).length : Int) ≤ 1000 := by have := HX.out; omega
        have hY1 : ((shelfT M k c).length : Int) ≤ 200 := by have := HY.out; omega
        have HTB := Lib.hid (bel3.out.andThen HBEL.out)
        clear kz s5 f0 f1 f2 f3 f4 y8 y9 y10 y11 y12 y13 z0 z1 z2 z3 z4 b5 hb
        refine region_or [false, false, false, false, false, false, false, false, false, false, false, false, false, true, true, true, false, false] [0, 1, 2, 3, 4, 5, 6, 8, 9, 10, 11, 12, 13, 7, 14, 15, 16, 17] (by kernel_rfl) (by kernel_rfl) rfl (by kernel_rfl) (by kernel_rfl) ?_
        simp only [permL, List.getElem?_cons_zero, List.getElem?_cons_succ, Option.toList_some, List.cons_append, List.nil_append]
        repeat (first | (refine wpR_skip (by rfl) ?_; simp only [Act.put, List.setIfInBounds_toArray, List.set_cons_zero, List.set_cons_succ]) | (refine wpR_det (by rfl) (fun K hK => ?_); go_big_quiet_op; refine hK _ ?_; clear hK K))
        refine wpR_bar (by rfl) (fun K hK => ?_)
        go_big_op
        go_at_call 33
        refine (iBit_any _ _).mono ?_
        rintro e w' ⟨rfl, rfl⟩
        refine hK _ _ (regrown_of_below bd) ?_
        clear hK K
        refine wpR_bar (by rfl) (fun K hK => ?_)
        go_big_op
        refine hK _ _ (regrown_of_below (bd.andThen ((Below.refl _ _).alloc (Nat.le_refl _) _))) ?_
        clear hK K
        refine wpR_bar (by rfl) (fun K hK => ?_)
        go_big_op
        go_at_call 32
        refine (iRow_any ⟨#[115, 104, 101, 108, 102]⟩ _ _ [(k : Int), (c : Int), (she M k c).floor, bitM (she M k c).on, (she M k c).v, (she M k c).w, (she M k c).sum] _ (IntS.fresh _ _ _ rfl _) (by decide) (by simp) HSR.out (tab_keep HT.out (HTB.out.andThen (bd.andThen ((Below.refl _ _).alloc (Nat.le_refl _) _))))).mono ?_
        rintro e w6 ⟨rfl, hb6⟩
        rw [show (⟨#[115, 104, 101, 108, 102]⟩ : ByteArray).data.toList = [115, 104, 101, 108, 102] from rfl, HSH.out]
        refine hK _ _ (regrown_of_below ((bd.andThen ((Below.refl _ _).alloc (Nat.le_refl _) _)).andThen hb6)) ?_
        clear hK K
        generalize headT M k ++ catB (shelfT M k) c = X at *
        generalize shelfT M k c = Y at *
        repeat (first | (refine wpR_skip (by rfl) ?_; simp only [Act.put, List.setIfInBounds_toArray, List.set_cons_zero, List.set_cons_succ]) | (refine wpR_det (by rfl) (fun K hK => ?_); go_big_quiet_op; refine hK _ ?_; clear hK K))
        refine wpR_nil ?_
        go_wp2
        go_roundw
        case rel => exact ⟨c + 1, by omega, by go_num, str_eq HC.out, HBEL.out.andThen ((bd.andThen ((Below.refl _ _).alloc (Nat.le_refl _) _)).andThen hb6)⟩
        case measure => simp [intOf]; omega
      · have hcl : c = (grp M k).shelves.length := by omega
        have HTX := Lib.hid (show headT M k ++ catB (shelfT M k) c ++ bandT k (grp M k).band = groupT M k by rw [hcl]; rfl)
        have hge : ((grp M k).shelves.length : Int) ≤ (c : Int) := by omega
        have hdec : decide (c < (grp M k).shelves.length) = false := decide_eq_false (by omega)
        have HBEL := Lib.hid (bel3.out.andThen hb)
        clear hlt hcl hc
        have hX1 : ((headT M k ++ catB (shelfT M k) c).length : Int) ≤ 1000 := by have := HX.out; omega
        generalize headT M k ++ catB (shelfT M k) c = X at *
        by_cases hq : 0 < (grp M k).band.quota
        · have HQ := Lib.hid hq
          have hdq : decide (0 < (grp M k).band.quota) = true := decide_eq_true hq
          have HB := Lib.hid (show bandT k (grp M k).band = lineB [98, 97, 110, 100] (bandN k (grp M k).band (grp M k).band.locals.length) by rw [bandT, if_pos hq])
          have hbd := HFA.out.gok.dry k hk HU.out hq
          have HLC := Lib.hid (show (grp M k).band.locals.length ≤ 4 by have := HFA.out.c4; omega)
          have HDL := Lib.hid (show (grp M k).band.dry.length = (grp M k).band.locals.length by omega)
          clear hbd
          go_upto_region 12 with (fail)
          have HR0 := Lib.hid (World.ownsRow_lit (base := wr.heap.size) (e := 3) (size := 1) wr #[.int .i64 (k : Int), .int .i64 (grp M k).band.quota, .int .i64 (grp M k).band.pool, .int .i64 (grp M k).band.spent] 4 (Nat.le_refl _) (by decide) rfl)
          obtain ⟨i0, hi, hz0, hz1, hz2⟩ := info_parts infoInt
          have bwr : Below wr.heap.size wr (wr.alloc (.cells #[.int .i64 (k : Int), .int .i64 (grp M k).band.quota, .int .i64 (grp M k).band.pool, .int .i64 (grp M k).band.spent] 3)) := (Below.refl _ _).alloc (Nat.le_refl _) _
          have Y12 := Lib.hid y12
          have e11 := (bwr.cell (p := ⟨w.heap.size, 11, none⟩) hx).trans y11
          clear y8 y9 y10 y11 y12 y13 hq
          go_wp2
          obtain ⟨wq, hwq⟩ : ∃ wq, wr.alloc (.cells #[.int .i64 (k : Int), .int .i64 (grp M k).band.quota, .int .i64 (grp M k).band.pool, .int .i64 (grp M k).band.spent] 3) = wq := ⟨_, rfl⟩
          rw [hwq] at bwr HR0 ⊢
          clear hwq e11 hge hdec hdq
          obtain ⟨wo, hwo⟩ : ∃ wo : World, wo = wr := ⟨_, rfl⟩
          subst hwo
          go_loopw [9, 78] (fun l i wr => ∃ c2 : Nat, c2 ≤ (grp M k).band.locals.length ∧ i = .int .i64 c2 ∧ wr.ownsRow wo.heap.size 3 1 l (bandN k (grp M k).band c2).length ((bandN k (grp M k).band c2).map (Value.int .i64)) ∧ Below wo.heap.size wo wr) (fun _ i _ => (grp M k).band.locals.length - (intOf i).toNat)
          case atStart => exact ⟨0, by omega, rfl, by simpa [bandN, pairsN] using HR0.out, bwr⟩
          case round =>
            obtain ⟨c2, hc2, rfl, hown, hb2⟩ := hrel
            have e12 := (hb2.cell (p := ⟨w.heap.size, 12, none⟩) hx).trans Y12.out
            have HL2 := Lib.hid (show (bandN k (grp M k).band c2).length ≤ 12 by rw [bandN_len]; have := HLC.out; omega)
            have WA5 := Lib.hid (WA4.out.keep hb2)
            by_cases hlt2 : c2 < (grp M k).band.locals.length
            · obtain ⟨bl, ol, el, hBl, l0⟩ := WA5.out.local_ hlg hlt2
              obtain ⟨bd2, od, ed, hBd, d0⟩ := WA5.out.dry_ hlg (k := c2) (by rw [HDL.out]; exact hlt2)
              obtain ⟨lv, hlv⟩ : ∃ lv, (grp M k).band.locals.getD c2 0 = lv := ⟨_, rfl⟩
              obtain ⟨dv, hdv⟩ : ∃ dv, (grp M k).band.dry.getD c2 false = dv := ⟨_, rfl⟩
              rw [hlv] at l0
              rw [hdv] at d0
              have HLV := Lib.hid hlv
              have HDV := Lib.hid hdv
              clear hlv hdv
              rw [ed] at e12
              have EL := Lib.hid el
              have hj0 : (0 : Int) ≤ (c2 : Int) := by omega
              have hj1 : (c2 : Int) < ((grp M k).band.locals.length : Int) := by omega
              have hj9 : (c2 : Int) < 9 := by have := HLC.out; omega
              have hj2 : (c2 : Int) < ((grp M k).band.dry.length : Int) := by rw [HDL.out]; omega
              have hsz2 := hb2.size
              clear el ed
              rw [EL.out]
              go_wp2_with (first | (go_at_call 33; refine (iBit_any _ _).mono ?_; rintro e w' ⟨rfl, rfl⟩) | (at_builtin; refine wpList_append_own _ rfl _ _ 46 rfl wo.heap.size 3 i0 (.int .i64 0) 1 8 Tryz.underlying46 hi hz0 hz1 hz2 rfl (by decide) _ (bandN k (grp M k).band c2).length _ rfl (hown.alloc _) ⟨wr.heap.size, 0, none⟩ 2 2 [.int .i64 lv, .int .i64 (bitM dv)] rfl rfl (two_new _ _ _ _) (by intro u hu; simp at hu; rcases hu with rfl | rfl <;> rfl) (by unfold maxLen; have := HL2.out; omega) (by have := HL2.out; omega) (by simp; omega) ?_; intro vB w5 hownB hgrowB _))
              have hb5 : Below wo.heap.size wo w5 := (hb2.alloc hsz2 _).grown hgrowB (by simp; omega) (fun j e => (hown.lt j e).1)
              go_roundw
              case rel => exact ⟨c2 + 1, by omega, by go_num, by rw [bandN_snoc, HLV.out, HDV.out]; simpa using hownB, hb5⟩
              case measure => simp [intOf]; omega
            · have hcl : c2 = (grp M k).band.locals.length := by omega
              have hge2 : ((grp M k).band.locals.length : Int) ≤ (c2 : Int) := by omega
              have HO := Lib.hid hown
              obtain ⟨al, cl, rfl⟩ := row_form hown
              have HFB := Lib.hid (HNO.out.bandF k hk HU.out HQ.out c2 hc2)
              have HB2 := Lib.hid (show lineB [98, 97, 110, 100] (bandN k (grp M k).band c2) = bandT k (grp M k).band by rw [hcl, HB.out])
              have HY := Lib.hid (show (bandT k (grp M k).band).length ≤ 300 by rw [← HB2.out]; have := lineB_len (w := [98, 97, 110, 100]) HFB.out; have := HL2.out; simp only [List.length_cons, List.length_nil] at *; omega)
              have hY1 : ((bandT k (grp M k).band).length : Int) ≤ 300 := by have := HY.out; omega
              clear hlt2 hcl hown hc2
              go_wp2_with (go_at_call 32; refine (iRow_any ⟨#[98, 97, 110, 100]⟩ _ _ _ _ (IntS.own HO.out) (by decide) (by have := HL2.out; omega) HFB.out (tab_keep HT.out (HBEL.out.andThen hb2))).mono ?_; rintro e w6 ⟨rfl, hb6⟩; rw [show (⟨#[98, 97, 110, 100]⟩ : ByteArray).data.toList = [98, 97, 110, 100] from rfl, HB2.out])
              go_ret
              exact ⟨ret_str (by rw [strB_append, ← HTX.out]), HBEL.out.andThen (hb2.andThen hb6)⟩
        · have HB := Lib.hid (show bandT k (grp M k).band = [] by rw [bandT, if_neg hq])
          have hq2 : (grp M k).band.quota ≤ 0 := by omega
          clear hq
          go_wp2
          go_ret
          exact ⟨ret_str (by rw [← HTX.out, HB.out, List.append_nil]), HBEL.out⟩
  · have hz : ((k : Int) == 0) = false := by simp [h0]
    have hnm : ((grp M k).name : ByteArray).data.toList = nameT M k := by rw [nameT, if_neg h0]
    have hns : ((grp M k).name : ByteArray).size ≤ 8 := by exact HNO.out.nameF k hk h0 HU.out
    have HNM := Lib.hid hnm
    clear hnm h0
    go_upto_region 5 with (go_at_call 32; refine (iRow_any _ _ _ [(k : Int), (grp M k).parent, (grp M k).weight, (grp M k).cpus, (grp M k).period, (grp M k).next, (grp M k).sum] _ (IntS.fresh0 _ _ _ rfl _) (by rw [ByteArray.size_append']; have : (⟨#[103, 114, 111, 117, 112, 32]⟩ : ByteArray).size = 6 := rfl; omega) (by simp) (HNO.out.grpF k hk HU.out) (tab_keep HT.out (bel.out.andThen ((Below.refl _ _).alloc (Nat.le_refl _) _)))).mono ?_; rintro e w3 ⟨rfl, hb3⟩; rw [head_name, show ((grp M k).name : ByteArray).data.toList = nameT M k from HNM.out, show lineB ([103, 114, 111, 117, 112, 32] ++ nameT M k) [(k : Int), (grp M k).parent, (grp M k).weight, (grp M k).cpus, (grp M k).period, (grp M k).next, (grp M k).sum] = headT M k from rfl])
    have hb3' := ((Below.refl _ W2).alloc (Nat.le_refl _) _).andThen hb3
    have y8 := (hb3'.cell (p := ⟨w.heap.size, 8, none⟩) hx).trans y8
    have y9 := (hb3'.cell (p := ⟨w.heap.size, 9, none⟩) hx).trans y9
    have y10 := (hb3'.cell (p := ⟨w.heap.size, 10, none⟩) hx).trans y10
    have y11 := (hb3'.cell (p := ⟨w.heap.size, 11, none⟩) hx).trans y11
    have y12 := (hb3'.cell (p := ⟨w.heap.size, 12, none⟩) hx).trans y12
    have y13 := (hb3'.cell (p := ⟨w.heap.size, 13, none⟩) hx).trans y13
    have hx := Nat.lt_of_lt_of_le hx hb3'.size
    have bel3 := Lib.hid (bel.out.andThen hb3')
    have WA3 := Lib.hid (HS.out.keep bel3.out)
    clear hb3 hb3' bel
    go_wp2
    go_loopw [6, 36] (fun t i wr => ∃ c : Nat, c ≤ (grp M k).shelves.length ∧ i = .int .i64 c ∧ t = .string (strB (headT M k ++ catB (shelfT M k) c)) ∧ Below w3.heap.size w3 wr) (fun _ i _ => (grp M k).shelves.length - (intOf i).toNat)
    case atStart => exact ⟨0, by omega, rfl, str_eq (by rw [catB, List.append_nil]), Below.refl _ _⟩
    case round =>
      obtain ⟨c, hc, rfl, rfl, hb⟩ := hrel
      have y8 := (hb.cell (p := ⟨w.heap.size, 8, none⟩) hx).trans y8
      have y9 := (hb.cell (p := ⟨w.heap.size, 9, none⟩) hx).trans y9
      have y10 := (hb.cell (p := ⟨w.heap.size, 10, none⟩) hx).trans y10
      have y11 := (hb.cell (p := ⟨w.heap.size, 11, none⟩) hx).trans y11
      have y12 := (hb.cell (p := ⟨w.heap.size, 12, none⟩) hx).trans y12
      have y13 := (hb.cell (p := ⟨w.heap.size, 13, none⟩) hx).trans y13
      have hx := Nat.lt_of_lt_of_le hx hb.size
      have WA4 := Lib.hid (WA3.out.keep hb)
      have HX := Lib.hid (show (headT M k ++ catB (shelfT M k) c).length ≤ 1000 by rw [List.length_append]; have := headT_len HNO.out hk HU.out; have := catB_len (f := shelfT M k) (B := 200) c (fun j hj => shelfT_len HNO.out hk HU.out (by omega)); have := HFA.out.gok.she k hk HU.out; have := HFA.out.c4; omega)
      by_cases hlt : c < (grp M k).shelves.length
      · obtain ⟨bs, os, es, hBs, f0, f1, f2, f3, f4⟩ := WA4.out.shelf_ hlg hlt
        have hc0 : (0 : Int) ≤ (c : Int) := by omega
        have hc9 : (c : Int) < 9 := by have := HFA.out.gok.she k hk HU.out; have := HFA.out.c4; omega
        have hc1 : (c : Int) < ((grp M k).shelves.length : Int) := by omega
        have ES := Lib.hid es
        clear es
        rw [ES.out]
        go_upto_region 8 with (fail)
        refine gen1 (p := fun W => Code.wp _ _ _ _ W) ?_
        intro W5 b5 s5 kz
        have z0 := kz.cell 0
        have z1 := kz.cell 1
        have z2 := kz.cell 2
        have z3 := kz.cell 3
        have z4 := kz.cell 4
        simp at z0 z1 z2 z3 z4
        have HBEL := Lib.hid (hb.andThen b5)
        have bd : Below W5.heap.size W5 W5.drew := ⟨rfl, rfl, rfl, Nat.le_refl _, fun _ _ => rfl⟩
        have q0 := fun d os => cell_regrown z0 d os
        have q1 := fun d os => cell_regrown z1 d os
        have q2 := fun d os => cell_regrown z2 d os
        have q3 := fun d os => cell_regrown z3 d os
        have q4 := fun d os => cell_regrown z4 d os
        have HC := Lib.hid (show strB (headT M k ++ catB (shelfT M k) c) ++ strB (shelfT M k c) = strB (headT M k ++ catB (shelfT M k) (c + 1)) by rw [strB_append, catB, List.append_assoc])
        have HY := Lib.hid (shelfT_len HNO.out hk HU.out hlt)
        have HSR := Lib.hid (HNO.out.sheF k c hk HU.out hlt)
        have HSH := Lib.hid (show lineB [115, 104, 101, 108, 102] [(k : Int), (c : Int), (she M k c).floor, bitM (she M k c).on, (she M k c).v, (she M k c).w, (she M k c).sum] = shelfT M k c from rfl)
        have hX1 : ((headT M k ++ catB (shelfT M k) c).length : Int) ≤ 1000 := by have := HX.out; omega
        have hY1 : ((shelfT M k c).length : Int) ≤ 200 := by have := HY.out; omega
        have HTB := Lib.hid (bel3.out.andThen HBEL.out)
        clear kz s5 f0 f1 f2 f3 f4 y8 y9 y10 y11 y12 y13 z0 z1 z2 z3 z4 b5 hb
        refine region_or [false, false, false, false, false, false, false, false, false, false, false, false, false, true, true, true, false, false] [0, 1, 2, 3, 4, 5, 6, 8, 9, 10, 11, 12, 13, 7, 14, 15, 16, 17] (by kernel_rfl) (by kernel_rfl) rfl (by kernel_rfl) (by kernel_rfl) ?_
        simp only [permL, List.getElem?_cons_zero, List.getElem?_cons_succ, Option.toList_some, List.cons_append, List.nil_append]
        repeat (first | (refine wpR_skip (by rfl) ?_; simp only [Act.put, List.setIfInBounds_toArray, List.set_cons_zero, List.set_cons_succ]) | (refine wpR_det (by rfl) (fun K hK => ?_); go_big_quiet_op; refine hK _ ?_; clear hK K))
        refine wpR_bar (by rfl) (fun K hK => ?_)
        go_big_op
        go_at_call 33
        refine (iBit_any _ _).mono ?_
        rintro e w' ⟨rfl, rfl⟩
        refine hK _ _ (regrown_of_below bd) ?_
        clear hK K
        refine wpR_bar (by rfl) (fun K hK => ?_)
        go_big_op
        refine hK _ _ (regrown_of_below (bd.andThen ((Below.refl _ _).alloc (Nat.le_refl _) _))) ?_
        clear hK K
        refine wpR_bar (by rfl) (fun K hK => ?_)
        go_big_op
        go_at_call 32
        refine (iRow_any ⟨#[115, 104, 101, 108, 102]⟩ _ _ [(k : Int), (c : Int), (she M k c).floor, bitM (she M k c).on, (she M k c).v, (she M k c).w, (she M k c).sum] _ (IntS.fresh _ _ _ rfl _) (by decide) (by simp) HSR.out (tab_keep HT.out (HTB.out.andThen (bd.andThen ((Below.refl _ _).alloc (Nat.le_refl _) _))))).mono ?_
        rintro e w6 ⟨rfl, hb6⟩
        rw [show (⟨#[115, 104, 101, 108, 102]⟩ : ByteArray).data.toList = [115, 104, 101, 108, 102] from rfl, HSH.out]
        refine hK _ _ (regrown_of_below ((bd.andThen ((Below.refl _ _).alloc (Nat.le_refl _) _)).andThen hb6)) ?_
        clear hK K
        generalize headT M k ++ catB (shelfT M k) c = X at *
        generalize shelfT M k c = Y at *
        repeat (first | (refine wpR_skip (by rfl) ?_; simp only [Act.put, List.setIfInBounds_toArray, List.set_cons_zero, List.set_cons_succ]) | (refine wpR_det (by rfl) (fun K hK => ?_); go_big_quiet_op; refine hK _ ?_; clear hK K))
        refine wpR_nil ?_
        go_wp2
        go_roundw
        case rel => exact ⟨c + 1, by omega, by go_num, str_eq HC.out, HBEL.out.andThen ((bd.andThen ((Below.refl _ _).alloc (Nat.le_refl _) _)).andThen hb6)⟩
        case measure => simp [intOf]; omega
      · have hcl : c = (grp M k).shelves.length := by omega
        have HTX := Lib.hid (show headT M k ++ catB (shelfT M k) c ++ bandT k (grp M k).band = groupT M k by rw [hcl]; rfl)
        have hge : ((grp M k).shelves.length : Int) ≤ (c : Int) := by omega
        have hdec : decide (c < (grp M k).shelves.length) = false := decide_eq_false (by omega)
        have HBEL := Lib.hid (bel3.out.andThen hb)
        clear hlt hcl hc
        have hX1 : ((headT M k ++ catB (shelfT M k) c).length : Int) ≤ 1000 := by have := HX.out; omega
        generalize headT M k ++ catB (shelfT M k) c = X at *
        by_cases hq : 0 < (grp M k).band.quota
        · have HQ := Lib.hid hq
          have hdq : decide (0 < (grp M k).band.quota) = true := decide_eq_true hq
          have HB := Lib.hid (show bandT k (grp M k).band = lineB [98, 97, 110, 100] (bandN k (grp M k).band (grp M k).band.locals.length) by rw [bandT, if_pos hq])
          have hbd := HFA.out.gok.dry k hk HU.out hq
          have HLC := Lib.hid (show (grp M k).band.locals.length ≤ 4 by have := HFA.out.c4; omega)
          have HDL := Lib.hid (show (grp M k).band.dry.length = (grp M k).band.locals.length by omega)
          clear hbd
          go_upto_region 12 with (fail)
          have HR0 := Lib.hid (World.ownsRow_lit (base := wr.heap.size) (e := 3) (size := 1) wr #[.int .i64 (k : Int), .int .i64 (grp M k).band.quota, .int .i64 (grp M k).band.pool, .int .i64 (grp M k).band.spent] 4 (Nat.le_refl _) (by decide) rfl)
          obtain ⟨i0, hi, hz0, hz1, hz2⟩ := info_parts infoInt
          have bwr : Below wr.heap.size wr (wr.alloc (.cells #[.int .i64 (k : Int), .int .i64 (grp M k).band.quota, .int .i64 (grp M k).band.pool, .int .i64 (grp M k).band.spent] 3)) := (Below.refl _ _).alloc (Nat.le_refl _) _
          have Y12 := Lib.hid y12
          have e11 := (bwr.cell (p := ⟨w.heap.size, 11, none⟩) hx).trans y11
          clear y8 y9 y10 y11 y12 y13 hq
          go_wp2
          obtain ⟨wq, hwq⟩ : ∃ wq, wr.alloc (.cells #[.int .i64 (k : Int), .int .i64 (grp M k).band.quota, .int .i64 (grp M k).band.pool, .int .i64 (grp M k).band.spent] 3) = wq := ⟨_, rfl⟩
          rw [hwq] at bwr HR0 ⊢
          clear hwq e11 hge hdec hdq
          obtain ⟨wo, hwo⟩ : ∃ wo : World, wo = wr := ⟨_, rfl⟩
          subst hwo
          go_loopw [9, 78] (fun l i wr => ∃ c2 : Nat, c2 ≤ (grp M k).band.locals.length ∧ i = .int .i64 c2 ∧ wr.ownsRow wo.heap.size 3 1 l (bandN k (grp M k).band c2).length ((bandN k (grp M k).band c2).map (Value.int .i64)) ∧ Below wo.heap.size wo wr) (fun _ i _ => (grp M k).band.locals.length - (intOf i).toNat)
          case atStart => exact ⟨0, by omega, rfl, by simpa [bandN, pairsN] using HR0.out, bwr⟩
          case round =>
            obtain ⟨c2, hc2, rfl, hown, hb2⟩ := hrel
            have e12 := (hb2.cell (p := ⟨w.heap.size, 12, none⟩) hx).trans Y12.out
            have HL2 := Lib.hid (show (bandN k (grp M k).band c2).length ≤ 12 by rw [bandN_len]; have := HLC.out; omega)
            have WA5 := Lib.hid (WA4.out.keep hb2)
            by_cases hlt2 : c2 < (grp M k).band.locals.length
            · obtain ⟨bl, ol, el, hBl, l0⟩ := WA5.out.local_ hlg hlt2
              obtain ⟨bd2, od, ed, hBd, d0⟩ := WA5.out.dry_ hlg (k := c2) (by rw [HDL.out]; exact hlt2)
              obtain ⟨lv, hlv⟩ : ∃ lv, (grp M k).band.locals.getD c2 0 = lv := ⟨_, rfl⟩
              obtain ⟨dv, hdv⟩ : ∃ dv, (grp M k).band.dry.getD c2 false = dv := ⟨_, rfl⟩
              rw [hlv] at l0
              rw [hdv] at d0
              have HLV := Lib.hid hlv
              have HDV := Lib.hid hdv
              clear hlv hdv
              rw [ed] at e12
              have EL := Lib.hid el
              have hj0 : (0 : Int) ≤ (c2 : Int) := by omega
              have hj1 : (c2 : Int) < ((grp M k).band.locals.length : Int) := by omega
              have hj9 : (c2 : Int) < 9 := by have := HLC.out; omega
              have hj2 : (c2 : Int) < ((grp M k).band.dry.length : Int) := by rw [HDL.out]; omega
              have hsz2 := hb2.size
              clear el ed
              rw [EL.out]
              go_wp2_with (first | (go_at_call 33; refine (iBit_any _ _).mono ?_; rintro e w' ⟨rfl, rfl⟩) | (at_builtin; refine wpList_append_own _ rfl _ _ 46 rfl wo.heap.size 3 i0 (.int .i64 0) 1 8 Tryz.underlying46 hi hz0 hz1 hz2 rfl (by decide) _ (bandN k (grp M k).band c2).length _ rfl (hown.alloc _) ⟨wr.heap.size, 0, none⟩ 2 2 [.int .i64 lv, .int .i64 (bitM dv)] rfl rfl (two_new _ _ _ _) (by intro u hu; simp at hu; rcases hu with rfl | rfl <;> rfl) (by unfold maxLen; have := HL2.out; omega) (by have := HL2.out; omega) (by simp; omega) ?_; intro vB w5 hownB hgrowB _))
              have hb5 : Below wo.heap.size wo w5 := (hb2.alloc hsz2 _).grown hgrowB (by simp; omega) (fun j e => (hown.lt j e).1)
              go_roundw
              case rel => exact ⟨c2 + 1, by omega, by go_num, by rw [bandN_snoc, HLV.out, HDV.out]; simpa using hownB, hb5⟩
              case measure => simp [intOf]; omega
            · have hcl : c2 = (grp M k).band.locals.length := by omega
              have hge2 : ((grp M k).band.locals.length : Int) ≤ (c2 : Int) := by omega
              have HO := Lib.hid hown
              obtain ⟨al, cl, rfl⟩ := row_form hown
              have HFB := Lib.hid (HNO.out.bandF k hk HU.out HQ.out c2 hc2)
              have HB2 := Lib.hid (show lineB [98, 97, 110, 100] (bandN k (grp M k).band c2) = bandT k (grp M k).band by rw [hcl, HB.out])
              have HY := Lib.hid (show (bandT k (grp M k).band).length ≤ 300 by rw [← HB2.out]; have := lineB_len (w := [98, 97, 110, 100]) HFB.out; have := HL2.out; simp only [List.length_cons, List.length_nil] at *; omega)
              have hY1 : ((bandT k (grp M k).band).length : Int) ≤ 300 := by have := HY.out; omega
              clear hlt2 hcl hown hc2
              go_wp2_with (go_at_call 32; refine (iRow_any ⟨#[98, 97, 110, 100]⟩ _ _ _ _ (IntS.own HO.out) (by decide) (by have := HL2.out; omega) HFB.out (tab_keep HT.out (HBEL.out.andThen hb2))).mono ?_; rintro e w6 ⟨rfl, hb6⟩; rw [show (⟨#[98, 97, 110, 100]⟩ : ByteArray).data.toList = [98, 97, 110, 100] from rfl, HB2.out])
              go_ret
              exact ⟨ret_str (by rw [strB_append, ← HTX.out]), HBEL.out.andThen (hb2.andThen hb6)⟩
        · have HB := Lib.hid (show bandT k (grp M k).band = [] by rw [bandT, if_neg hq])
          have hq2 : (grp M k).band.quota ≤ 0 := by omega
          clear hq
          go_wp2
          go_ret
          exact ⟨ret_str (by rw [← HTX.out, HB.out, List.append_nil]), HBEL.out⟩
end Go.Proofs.YtknfpigaognklaaGreatDoor
namespace Go.Proofs.YtknfpigaognklaaGreatDoor
open Go.RowKit Go.Sort
section
variable {P : Program} {ops : Array Oper} {C : World → Prop} {md : Region.Mode} {Q : Exit → Act → World → Prop} {n : Nat}
theorem anyB_firstV {i : Nat} {oi : Oper} {v : Value} (hs : Region.sinkB md ops n = true) (hc : Region.chainB md ops n = true) (hn : n < ops.size) (hin : i < n) (hi : ops[i]? = some oi) (hsel : ∀ (j : Nat) (o : Oper) cs b, ops[j]? = some o → o.op ≠ .select cs b)
    (hQ : ∀ c a w, Q (.panic c) (a.put oi.dst v) w → Q (.panic c) a w) : ∀ (fuel : Nat) (listed : Array Bool) (a : Act) (w : World), HeadInv md ops n listed →
      (∀ j oj, ops[j]? = some oj → j ≠ i → listed.getD j true = false → (∀ e ∈ oj.after, Region.binds md e = true → e.on ≠ i) → oi.apart ops oj = true) →
      i ∈ Region.ready md ops listed → YieldsIf P ops C oi v a → C w →
      anyB P md ops Q C n fuel (listed.setIfInBounds i true) (a.put oi.dst v) w → anyB P md ops Q C n (fuel + 1) listed a w
  | 0, listed, a, w, _, _, hr, hy, hS, H => by
    refine ⟨fun h => (by rw [h] at hr; cases hr), fun j hj => ?_⟩
    by_cases hji : j = i
    · subst hji; exact hy.wpOp hi hS ⟨.inl hS, H⟩
    · have := ready_mono hj hji
      rw [H.1] at this
      cases this
  | fuel + 1, listed, a, w, inv, hfree, hr, hy, hS, H => by
    have hiun := (mem_ready.1 hr).1
    refine ⟨fun h => (by rw [h] at hr; cases hr), fun j hj => ?_⟩
    have hjn : j < n := by
      rcases Nat.lt_or_ge j n with h | h
      · exact h
      · exact absurd hj (tail_waits hs hc hn inv _ i rfl hin hiun j h)
    by_cases hji : j = i
    · subst hji; exact hy.wpOp hi hS ⟨.inl hS, H⟩
    · have h1 := H.2 j (ready_mono hj hji)
      obtain ⟨hjun, oj, hoj, hall⟩ := mem_ready.1 hj
      have hnot : ∀ e ∈ oj.after, Region.binds md e = true → e.on ≠ i := fun e he hb heq => by
        have h1 := hall e he hb
        rw [heq, getD_both hiun] at h1
        cases h1
      have h2 := wpOp_putIf hoj (hfree j oj hoj hji hjun hnot) (fun cs b => hsel i oi cs b hi) (fun cs b => hsel j oj cs b hoj) hQ hy h1
      have hfree' : ∀ k ok, ops[k]? = some ok → k ≠ i → (listed.setIfInBounds j true).getD k true = false →
          (∀ e ∈ ok.after, Region.binds md e = true → e.on ≠ i) → oi.apart ops ok = true := fun k ok hk hki hun hno => by
        refine hfree k ok hk hki ?_ hno
        by_cases hjk : j = k
        · subst hjk; exact hjun
        · rw [getD_set_ne true hjk] at hun; exact hun
      refine wpOp_mono (fun a' w' h3 => ?_) h2
      obtain ⟨hy3, hC3, h3⟩ := h3
      rcases hC3 with hC3 | hC3
      · refine ⟨.inl hC3, anyB_firstV hs hc hn hin hi hsel hQ fuel (listed.setIfInBounds j true) a' w' (inv.set hj hjn) hfree' (ready_mono hr (Ne.symm hji)) hy3 hC3 ?_⟩
        rw [Array.setIfInBounds_comm _ _ hji]
        exact h3
      · omega
def ordV (md : Region.Mode) (ops : Array Oper) (n : Nat) : List Nat → List Nat → Array Bool → Bool
  | _, [], listed => (Region.ready md ops listed).isEmpty
  | [], _ :: _, _ => false
  | b :: fs, i :: rest, listed => (if b = 0 then decide (i < n) && ((Region.ready md ops listed).contains i && (Region.free md ops listed i && ((ops[i]?).map plainOp).getD false))
      else (Region.ready md ops listed == [i] && (if b = 2 then decide (n ≤ i) && fs.all (· == 2) else decide (i < n)))) && ordV md ops n fs rest (listed.setIfInBounds i true)
theorem anyB_of_wpV {K : Act → World → Prop} (hsl : Region.noSelect ops = true) (hs : Region.sinkB md ops n = true) (hc : Region.chainB md ops n = true) (hn : n < ops.size) : ∀ (fs l : List Nat) (L : List Oper) (listed : Array Bool) (a : Act) (w : World), l.map (fun i => ops[i]?) = L.map some → ordV md ops n fs l listed = true → ((C w ∧ HeadInv md ops n listed) ∨ fs.all (· == 2) = true) →
    wpS P ops C K fs L a w → anyB P md ops (fun e a w => e = .normal ∧ K a w) C n l.length listed a w
  | fs, [], [], listed, a, w, _, ho, _, h => ⟨by cases fs <;> simpa [ordV] using ho, rfl, by cases fs <;> exact h⟩
  | _, [], _ :: _, _, _, _, hl, _, _, _ => by simp at hl
  | _, _ :: _, [], _, _, _, hl, _, _, _ => by simp at hl
  | [], _ :: _, _ :: _, _, _, _, _, ho, _, _ => by simp [ordV] at ho
  | b :: fs, i :: rest, o :: L, listed, a, w, hl, ho, hC, h => by
    simp only [ordV, Bool.and_eq_true] at ho
    obtain ⟨ho1, ho2⟩ := ho
    simp only [wpS] at h
    simp only [List.map_cons, List.cons.injEq] at hl
    obtain ⟨hi, hl⟩ := hl
    by_cases hb : b = 0
    · subst hb
      simp only [if_true, Bool.and_eq_true, decide_eq_true_eq] at ho1 h
      obtain ⟨hin, hr, hf, hp⟩ := ho1
      have hrd : i ∈ Region.ready md ops listed := by simpa using hr
      obtain ⟨hCw, inv⟩ : C w ∧ HeadInv md ops n listed := by
        rcases hC with hC | hC
        · exact hC
        · simp at hC
      have hp' : plainOp o = true := by simpa [hi] using hp
      by_cases hwd : Region.wanted o (yielded ops a.tmps) = true
      · simp only [hwd, if_true] at h
        obtain ⟨v, h1, h2⟩ := h
        refine anyB_firstV hs hc hn hin hi (Region.noSelect_spec hsl) (fun c a w q => by cases q.1) rest.length listed a w inv (Region.free_spec hi hf) hrd (.inl ⟨hwd, fun w' hw' => ?_⟩) hCw (anyB_of_wpV hsl hs hc hn fs rest L _ _ w hl ho2 (.inl ⟨hCw, inv.set hrd hin⟩) h2)
        have h3 := h1 w' hw'
        unfold Oper.quietAt at h3
        generalize hx : (execOp a.eval o).run P w' = r at h3
        cases r with
        | ok n w'' =>
          obtain ⟨u, rfl⟩ := plain_value hp' hx
          simp only [Oper.quietUpon] at h3
          rw [h3.1, h3.2]
        | halt x w'' => exact h3.elim
      · have hwd' : Region.wanted o (yielded ops a.tmps) = false := by simpa using hwd
        simp only [hwd', Bool.false_eq_true, if_false] at h
        exact anyB_firstV hs hc hn hin hi (Region.noSelect_spec hsl) (fun c a w q => by cases q.1) rest.length listed a w inv (Region.free_spec hi hf) hrd (.inr ⟨hwd', rfl⟩) hCw (anyB_of_wpV hsl hs hc hn fs rest L _ _ w hl ho2 (.inl ⟨hCw, inv.set hrd hin⟩) h)
    · simp only [if_neg hb, Bool.and_eq_true] at ho1 h
      obtain ⟨ho1, ht⟩ := ho1
      have hr : Region.ready md ops listed = [i] := by simpa using ho1
      have hrd : i ∈ Region.ready md ops listed := by rw [hr]; simp
      refine ⟨fun h0 => (by rw [hr] at h0; cases h0), fun j hj => ?_⟩
      obtain rfl : j = i := by rw [hr] at hj; simpa using hj
      have done : ∀ a' w', (b = 2 ∨ C w') ∧ wpS P ops C K fs L a' w' → (C w' ∨ n ≤ j) ∧ anyB P md ops (fun e a w => e = .normal ∧ K a w) C n rest.length (listed.setIfInBounds j true) a' w' := fun a' w' hh => by
        by_cases e : b = 2
        · simp only [e, if_true, Bool.and_eq_true, decide_eq_true_eq] at ht
          exact ⟨.inr ht.1, anyB_of_wpV hsl hs hc hn fs rest L _ a' w' hl ho2 (.inr ht.2) hh.2⟩
        · simp only [e, if_false, decide_eq_true_eq] at ht
          have hCw' : C w' := hh.1.resolve_left e
          rcases hC with ⟨_, inv⟩ | hC
          · exact ⟨.inl hCw', anyB_of_wpV hsl hs hc hn fs rest L _ a' w' hl ho2 (.inl ⟨hCw', inv.set hrd ht⟩) hh.2⟩
          · simp [e] at hC
      unfold wpOp
      simp only [hi]
      split
      · rename_i hwd
        simp only [hwd, if_true] at h
        refine .inl ?_
        have h2 := Oper.wp_mono done h
        unfold Oper.wp at *
        generalize (execOp a.eval o).run P w = r at *
        cases r with
        | ok n w' =>
          cases n <;> simp only [Oper.upon] at h2 ⊢ <;> first
            | exact h2
            | exact Calls.mono h2 fun e w'' he => by
                cases e with
                | returned v => exact he
                | panicked c => exact he.elim
                | outgrown => obtain ⟨_, _, q⟩ := he; exact q.elim
        | halt x w' => cases x <;> simp only [Oper.upon] at h2 ⊢ <;> exact h2.elim
      · rename_i hwd
        simp only [hwd] at h
        refine done _ _ ⟨?_, h⟩
        by_cases e : b = 2
        · exact .inl e
        · rcases hC with hC | hC
          · exact .inr hC.1
          · simp [e] at hC
end
/-- at a plain place: the last operations, flagged 2, may write -/
theorem region_V {P : Program} {id : Nat} {Q : Exit → Act → World → Prop} {a : Act} {w : World} {L0 : List Oper} (n : Nat) (fs ord : List Nat) (hm : P.follows .mixedOrders = true) (hs : Region.noSelect L0.toArray = true) (hk : Region.sinkB .any L0.toArray n = true) (hc : Region.chainB .any L0.toArray n = true) (hnn : n < L0.toArray.size)
    (hn : ord.length = L0.length) (hL : ord.map (fun i => L0.toArray[i]?) = (permL L0 ord).map some) (hB : ordV .any L0.toArray n fs ord (Array.replicate L0.length false) = true)
    (h : Rgs P L0.toArray (fun w' => ∃ p : Regrown, w' = grow (redrawn w p.d) p.os) (fun a' w' => Q .normal a' w') fs (permL L0 ord) a w.drew) : (Code.region id L0.toArray true).wp P Q a w := by
  refine Code.wp_mono (Q := fun e a w => e = .normal ∧ Q .normal a w) (fun e a w hh => by obtain ⟨rfl, hh⟩ := hh; exact hh) ?_
  refine wp_region_any hm ?_
  have inv0 : HeadInv .any L0.toArray n (Array.replicate L0.length false) :=
    ⟨by simp, fun j oj _ hl => (by rw [getD_replicate_false] at hl; cases hl), fun t _ ht => getD_in (by simpa using ht) (getD_replicate_false _ _)⟩
  have := anyB_of_wpV (md := .any) hs hk hc hnn fs ord (permL L0 ord) (Array.replicate L0.length false) a w.drew hL hB (.inl ⟨⟨⟨w.drawn + 1, #[]⟩, by rw [grow_empty]; rfl⟩, inv0⟩) h.out
  rw [hn] at this
  simpa using any_of_B _ _ _ _ this
end Go.Proofs.YtknfpigaognklaaGreatDoor
namespace Go.Proofs.YtknfpigaognklaaGreatDoor
open Go.RowKit Go.Sort
attribute [local go_sem] strB_size
theorem bu_below {B b : Nat} {bs : List Value} {w W : World} (h : Lib.IsBuilder 65 5 B b bs w) (hb : Below w.heap.size w W) : Lib.IsBuilder 65 5 B b bs W := by
  have go : ∀ p, Lib.BuilderAt 65 5 B b p bs w → Lib.BuilderAt 65 5 B b p bs W := fun p h => by
    have hlt := h.lt
    obtain ⟨hB, v, hbk, hown, hne⟩ := h
    exact ⟨hB, v, (hb.block b hlt).trans hbk, row_below hown hb, hne⟩
  rcases h with h | h
  · exact .inl (go _ h)
  · exact .inr (go _ h)
theorem strCells_strB (Y : List UInt8) : Lib.strCells (strB Y) = Lib.byteCells Y := rfl
theorem bText_any (B b : Nat) (X Y : List UInt8) (w : World) (h : Lib.IsBuilder 65 5 B b (Lib.byteCells X) w) (hX : X.length ≤ 100000) (hY : Y.length ≤ 100000) (hBw : B ≤ w.heap.size) :
    Calls Tryz.prog 31 #[.pointer (some ⟨b, 0, none⟩), .string (strB Y)] w fun e w' => e = .returned (.tuple #[.int .i64 Y.length, .nilIface]) ∧ Lib.IsBuilder 65 5 B b (Lib.byteCells (X ++ Y)) w' ∧ Below B w w' := by
  refine (bWrite_any B b _ (strB Y) w h (by rw [strB_size, Lib.byteCells_length]; omega) hBw).mono ?_
  rintro e w' ⟨rfl, h1, h2⟩
  refine ⟨by rw [strB_size], .inr ?_, h2⟩
  rw [Lib.byteCells_append, ← strCells_strB]
  exact h1
theorem iGroupT_any (ca : Option Addr) (ta : Option Addr) (ga : Option Addr) (gh : Nat → GH) (M : WorldM) (w : World) (hs : WA w ca ta ga gh M) (htab : Lib.TabIs Tryz.prog w "internal/strconv.uint64pow10" .u64 Lib.pow10Tab) (FA : Facts M) (NO : NumOk M) (k : Nat) (hk : k < 8) (hu : (grp M k).used = true) :
    Calls Tryz.prog 34 #[.int .i64 k, .agg #[.bool true, .int .i64 (grp M k).parent, .string (grp M k).name, .int .i64 (grp M k).weight, .int .i64 (grp M k).cpus, .int .i64 (grp M k).period, .int .i64 (grp M k).next, .int .i64 (grp M k).sum, .int .i64 (grp M k).band.quota, .int .i64 (grp M k).band.pool, .int .i64 (grp M k).band.spent, .slice (gh k).la (grp M k).band.locals.length (gh k).lc, .slice (gh k).da (grp M k).band.dry.length (gh k).dc, .slice (gh k).sa (grp M k).shelves.length (gh k).sc]] w fun e w' => e = .returned (.string (strB (groupT M k))) ∧ Below w.heap.size w w' := by
  have h := iGroup_any ca ta ga gh M w hs htab FA NO k hk hu
  rwa [hu] at h
set_option maxRecDepth 100000 in
set_option maxHeartbeats 8000000 in
theorem iText_any (ca : Option Addr) (cc : Nat) (ta : Option Addr) (tc : Nat) (ga : Option Addr) (gc : Nat) (gh : Nat → GH) (M : WorldM) (w : World) (hs : WA w ca ta ga gh M) (hF : FitG M) (hx : NextOk M) (htab : Lib.TabIs Tryz.prog w "internal/strconv.uint64pow10" .u64 Lib.pow10Tab) :
    Calls Tryz.prog 10 #[.agg #[.int .i64 M.now, .slice ca M.cpus.length cc, .slice ta M.tasks.length tc, .slice ga M.groups.length gc]] w fun e w' => e = .returned (.string (strB (textM M))) ∧ Below w.heap.size w w' := by
  have HX := Lib.hid hx
  have HT := Lib.hid htab
  clear hx htab
  go_enter Tryz.func10, Tryz.ntmps10
  go_upto_region 1 with (fail)
  refine PA.gen (P := fun W => Code.wp _ _ _ _ W) hs ?_
  intro W b1 s1 pw
  have hcm := hF.cpu
  have htm := hF.task
  have hgm := hF.group
  have PW0 := Lib.hid pw
  obtain ⟨q0, q1, q2, q3, q4, q5⟩ := pw
  clear s1
  by_cases f1 : worldB M = true
  · have F1 := Lib.hid f1
    clear f1
    have HFA := Lib.hid (facts_of F1.out)
    have HNO := Lib.hid (numOk_of F1.out HX.out)
    have TM := Lib.hid (show textM M = bodyT M by rw [textM, if_pos F1.out])
    go_upto_region 4 with (go_at_call 30; refine (iWorldOk_any ca cc ta tc ga gc gh M _ q5 hF HX.out).mono ?_; rintro e w2 ⟨rfl, hb2⟩; rw [F1.out]; have r1 := (hb2.cell (p := ⟨w.heap.size, 0, none⟩) q0).trans q1; have r2 := (hb2.cell (p := ⟨w.heap.size, 1, none⟩) q0).trans q2; have r3 := (hb2.cell (p := ⟨w.heap.size, 2, none⟩) q0).trans q3; have r4 := (hb2.cell (p := ⟨w.heap.size, 3, none⟩) q0).trans q4; have r0 := Nat.lt_of_lt_of_le q0 hb2.size)
    have PW2 := Lib.hid (PW0.out.keep hb2)
    have HB0 := Lib.hid (Lib.fresh_isBuilder 65 5 w2)
    have bA : Below w2.heap.size w2 (w2.alloc (.cells #[.pointer none, .slice none 0 0] 65)) := (Below.refl _ _).alloc (Nat.le_refl _) _
    have hW3 : (w2.alloc (.cells #[.pointer none, .slice none 0 0] 65)).heap.size = w2.heap.size + 1 := by simp
    have HT3 := Lib.hid (tab_keep HT.out (b1.andThen hb2))
    have bel2 := Lib.hid (b1.andThen hb2)
    generalize (w2.alloc (.cells #[.pointer none, .slice none 0 0] 65)) = W3 at *
    clear q0 q1 q2 q3 q4 q5 r0 r1 r2 r3 r4 hb2 b1 PW0
    have pw3 := PW2.out.keep bA
    obtain ⟨q0, q1, q2, q3, q4, q5⟩ := pw3
    obtain ⟨n2, hn2⟩ : ∃ n2, w2.heap.size = n2 := ⟨_, rfl⟩
    have HN2 := Lib.hid hn2
    rw [hn2] at HB0 hW3 ⊢
    have HW3 := Lib.hid hW3
    clear hn2 hW3
    go_upto_region 5 with (first | (go_at_call 32; refine (iRow_any ⟨#[110, 111, 119]⟩ _ _ [M.now] _ (IntS.fresh0 _ _ _ rfl _) (by decide) (by simp) HNO.out.nowF (tab_keep HT3.out (bA.andThen ((Below.refl _ _).alloc (Nat.le_refl _) _)))).mono ?_; rintro e w4 ⟨rfl, hb4⟩; rw [show lineB (⟨#[110, 111, 119]⟩ : ByteArray).data.toList [M.now] = preC M 0 by simp [preC, catB]]) | (go_at_call 31; refine (bText_any n2 n2 ([]) (preC M 0) _ (bu_below HB0.out (((Below.refl _ _).alloc (Nat.le_refl _) _).andThen hb4)) (by simp) (by have := preC_len HFA.out HNO.out (Nat.zero_le M.cpus.length); omega) (by have := (((Below.refl _ W3).alloc (Nat.le_refl _) _).andThen hb4).size; have := HW3.out; omega)).mono ?_; rintro e w5 ⟨rfl, hB5, hb5⟩))
    rw [List.nil_append] at hB5
    have hw5 : Below n2 w2 w5 := Below.trans (by rw [← HN2.out]; exact bA.andThen (((Below.refl _ _).alloc (Nat.le_refl _) _).andThen hb4)) hb5
    clear hb4 hb5 bA HW3 HB0 q0 q1 q2 q3 q4 q5
    have PWK := Lib.hid (fun (X : World) (h : Below n2 w2 X) => PW2.out.keep (show Below w2.heap.size w2 X by rw [HN2.out]; exact h))
    have TBK := Lib.hid (fun (X : World) (h : Below n2 w2 X) => tab_keep HT3.out (show Below w2.heap.size w2 X by rw [HN2.out]; exact h))
    have SZK := Lib.hid (fun (X : World) (h : Below n2 w2 X) => (show n2 ≤ X.heap.size by rw [← HN2.out]; exact h.size))
    have pw5 := PWK.out _ hw5
    obtain ⟨q0, q1, q2, q3, q4, q5⟩ := pw5
    go_wp2
    go_loopw [21] (fun i wr => ∃ c : Nat, c ≤ M.cpus.length ∧ i = .int .i64 c ∧ Lib.IsBuilder 65 5 n2 n2 (Lib.byteCells (preC M c)) wr ∧ Below n2 w2 wr) (fun i _ => M.cpus.length - (intOf i).toNat)
    case atStart => exact ⟨0, by omega, rfl, hB5, hw5⟩
    case round =>
      obtain ⟨c, hc, rfl, hBu, hb⟩ := hrel
      have HBU := Lib.hid hBu
      clear hBu
      have pw5 := PWK.out _ hb
      clear q0 q1 q2 q3 q4 q5
      obtain ⟨q0, q1, q2, q3, q4, q5⟩ := pw5
      have HXL := Lib.hid (preC_len HFA.out HNO.out hc)
      by_cases hlt : c < M.cpus.length
      · obtain ⟨b, o, rfl, hB, c0, c1, c2, c3, c4⟩ := q5.cpu_ hlt
        have hc0 : (0 : Int) ≤ (c : Int) := by omega
        have hc1 : (c : Int) < (M.cpus.length : Int) := by omega
        have hc9 : (c : Int) < 9 := by have := HFA.out.c4; omega
        go_upto_region 8 with (fail)
        refine gen1 (p := fun W => Code.wp _ _ _ _ W) ?_
        intro W5 b5 s5 kz
        have z0 := kz.cell 0
        have z1 := kz.cell 1
        have z2 := kz.cell 2
        have z3 := kz.cell 3
        have z4 := kz.cell 4
        simp at z0 z1 z2 z3 z4
        have HBEL := Lib.hid (hb.trans (b5.mono (SZK.out _ hb)))
        have HBU5 := Lib.hid (bu_below HBU.out b5)
        have bd : Below W5.heap.size W5 W5.drew := ⟨rfl, rfl, rfl, Nat.le_refl _, fun _ _ => rfl⟩
        have q_0 := fun d os => cell_regrown z0 d os
        have q_1 := fun d os => cell_regrown z1 d os
        have q_2 := fun d os => cell_regrown z2 d os
        have q_3 := fun d os => cell_regrown z3 d os
        have q_4 := fun d os => cell_regrown z4 d os
        have HC := Lib.hid (preC_succ M c)
        have HY := Lib.hid (cpuT_len HNO.out hlt)
        have HSR := Lib.hid (HNO.out.cpuF c hlt)
        have HSH := Lib.hid (show lineB [99, 112, 117] [bitM (cpo M c).up, (cpo M c).cur, (cpo M c).ran, (cpo M c).busy, (cpo M c).idle] = cpuT M c from rfl)
        have hsz5 := SZK.out _ HBEL.out
        clear kz s5 c0 c1 c2 c3 c4 q0 q1 q2 q3 q4 q5 z0 z1 z2 z3 z4 b5 hb HBU
        refine region_V 13 [0, 0, 0, 0, 0, 0, 0, 0, 0, 0, 1, 1, 1, 2] [0, 1, 3, 4, 5, 6, 7, 8, 9, 10, 2, 11, 12, 13] (by kernel_rfl) (by kernel_rfl) (by kernel_rfl) (by kernel_rfl) (by decide) rfl (by kernel_rfl) (by kernel_rfl) ?_
        simp only [permL, List.getElem?_cons_zero, List.getElem?_cons_succ, Option.toList_some, List.cons_append, List.nil_append]
        repeat (first | (refine wpS_skip (by rfl) ?_; simp only [Act.put, List.setIfInBounds_toArray, List.set_cons_zero, List.set_cons_succ]) | (refine wpS_det (by rfl) (fun K hK => ?_); go_big_quiet_op; refine hK _ ?_; clear hK K))
        refine wpS_bar (by rfl) (fun K hK => ?_)
        go_big_op
        go_at_call 33
        refine (iBit_any _ _).mono ?_
        rintro e w' ⟨rfl, rfl⟩
        refine hK _ _ (regrown_of_below bd) ?_
        clear hK K
        refine wpS_bar (by rfl) (fun K hK => ?_)
        go_big_op
        refine hK _ _ (regrown_of_below (bd.andThen ((Below.refl _ _).alloc (Nat.le_refl _) _))) ?_
        clear hK K
        refine wpS_bar (by rfl) (fun K hK => ?_)
        go_big_op
        go_at_call 32
        refine (iRow_any ⟨#[99, 112, 117]⟩ _ _ [bitM (cpo M c).up, (cpo M c).cur, (cpo M c).ran, (cpo M c).busy, (cpo M c).idle] _ (IntS.fresh _ _ _ rfl _) (by decide) (by simp) HSR.out (TBK.out _ (HBEL.out.trans ((((Below.refl _ W5).alloc (Nat.le_refl _) _).drew).mono (SZK.out _ HBEL.out))))).mono ?_
        rintro e w6 ⟨rfl, hb6⟩
        rw [show (⟨#[99, 112, 117]⟩ : ByteArray).data.toList = [99, 112, 117] from rfl, HSH.out]
        refine hK _ _ (regrown_of_below ((bd.andThen ((Below.refl _ _).alloc (Nat.le_refl _) _)).andThen hb6)) ?_
        clear hK K
        refine wpS_end (by rfl) (fun K hK => ?_)
        go_big_op
        go_at_call 31
        refine (bText_any n2 n2 (preC M c) (cpuT M c) _ (bu_below HBU5.out ((bd.andThen ((Below.refl _ _).alloc (Nat.le_refl _) _)).andThen hb6)) (by have := HXL.out; omega) (by have := HY.out; omega) (by have := ((bd.andThen ((Below.refl _ _).alloc (Nat.le_refl _) _)).andThen hb6).size; omega)).mono ?_
        rintro e w7 ⟨rfl, hB7, hb7⟩
        refine hK _ _ ?_
        clear hK K
        refine wpS_nil ?_
        have hw7 : Below n2 w2 w7 := (HBEL.out.trans (((bd.andThen ((Below.refl _ _).alloc (Nat.le_refl _) _)).andThen hb6).mono (SZK.out _ HBEL.out))).trans hb7
        rw [← HC.out] at hB7
        go_wp2
        go_roundw
        case rel => exact ⟨c + 1, by omega, by go_num, hB7, hw7⟩
        case measure => simp [intOf]; omega
      · have HE := Lib.hid (show preC M c = preG M 0 by rw [show c = M.cpus.length by omega]; simp [preG, groupsT, catB])
        have hge : (M.cpus.length : Int) ≤ (c : Int) := by omega
        have hdec : decide (c < M.cpus.length) = false := decide_eq_false (by omega)
        have HBU2 := Lib.hid (show Lib.IsBuilder 65 5 n2 n2 (Lib.byteCells (preG M 0)) wr by rw [← HE.out]; exact HBU.out)
        have HBW := Lib.hid hb
        clear hlt hc HBU
        go_wp2
        clear hge hdec
        go_loopw [43] (fun i wr => ∃ k : Nat, k ≤ M.groups.length ∧ i = .int .i64 k ∧ Lib.IsBuilder 65 5 n2 n2 (Lib.byteCells (preG M k)) wr ∧ Below n2 w2 wr) (fun i _ => M.groups.length - (intOf i).toNat)
        case atStart => exact ⟨0, by omega, rfl, HBU2.out, HBW.out⟩
        case round =>
          obtain ⟨k, hk, rfl, hBu, hb⟩ := hrel
          have HBU := Lib.hid hBu
          clear hBu HBU2 HBW
          have pw5 := PWK.out _ hb
          clear q0 q1 q2 q3 q4 q5
          obtain ⟨q0, q1, q2, q3, q4, q5⟩ := pw5
          have HXL := Lib.hid (preG_len HFA.out HNO.out (k := k) (by have := HFA.out.tree.len; omega))
          by_cases hlt : k < M.groups.length
          · obtain ⟨b, o, rfl, hB, c0, c1, c2, c3, c4, c5, c6, c7, c8, c9, c10, c11, c12, c13⟩ := q5.group_ hlt
            have hk8 : k < 8 := by have := HFA.out.tree.len; omega
            have hc0 : (0 : Int) ≤ (k : Int) := by omega
            have hc1 : (k : Int) < (M.groups.length : Int) := by omega
            have hc9 : (k : Int) < 9 := by omega
            have HSL := Lib.hid hlt
            cases hu : (grp M k).used with
            | true =>
              have HU := Lib.hid hu
              rw [hu] at c0
              clear hu
              go_upto_region 13 with (fail)
              refine gen1 (p := fun W => Code.wp _ _ _ _ W) ?_
              intro W5 b5 s5 kz
              have z0 := kz.cell 0
              have z1 := kz.cell 1
              have z2 := kz.cell 2
              have z3 := kz.cell 3
              have z4 := kz.cell 4
              have z5 := kz.cell 5
              have z6 := kz.cell 6
              have z7 := kz.cell 7
              have z8 := kz.cell 8
              have z9 := kz.cell 9
              have z10 := kz.cell 10
              have z11 := kz.cell 11
              have z12 := kz.cell 12
              have z13 := kz.cell 13
              simp at z0 z1 z2 z3 z4 z5 z6 z7 z8 z9 z10 z11 z12 z13
              have HBEL := Lib.hid (hb.trans (b5.mono (SZK.out _ hb)))
              have HBU5 := Lib.hid (bu_below HBU.out b5)
              have HY := Lib.hid (groupT_len HFA.out HNO.out hk8 HU.out)
              have hsz5 := SZK.out _ HBEL.out
              clear kz s5 c0 c1 c2 c3 c4 c5 c6 c7 c8 c9 c10 c11 c12 c13 q0 q1 q2 q3 q4 q5 b5 hb HBU
              go_wp2_with (first | (go_at_call 34; refine (iGroupT_any ca ta _ gh M _ (PWK.out _ HBEL.out).wa (TBK.out _ HBEL.out) HFA.out HNO.out k hk8 HU.out).mono ?_; rintro e w6 ⟨rfl, hb6⟩) | (go_at_call 31; refine (bText_any n2 n2 (preG M k) (groupT M k) _ (bu_below HBU5.out hb6) (by have := HXL.out; omega) (by have := HY.out; omega) (by have := hb6.size; omega)).mono ?_; rintro e w7 ⟨rfl, hB7, hb7⟩))
              rw [← preG_t HU.out] at hB7
              have hw7 : Below n2 w2 w7 := (HBEL.out.trans (hb6.mono (SZK.out _ HBEL.out))).trans hb7
              go_roundw
              case rel => exact ⟨k + 1, by omega, by go_num, hB7, hw7⟩
              case measure => simp [intOf]; omega
            | false =>
              have HU := Lib.hid hu
              rw [hu] at c0
              clear hu
              go_upto_region 13 with (fail)
              refine gen1 (p := fun W => Code.wp _ _ _ _ W) ?_
              intro W5 b5 s5 kz
              have z0 := kz.cell 0
              simp at z0
              have HBEL := Lib.hid (hb.trans (b5.mono (SZK.out _ hb)))
              have HBU5 := Lib.hid (bu_below HBU.out b5)
              clear kz s5 c0 c1 c2 c3 c4 c5 c6 c7 c8 c9 c10 c11 c12 c13 q0 q1 q2 q3 q4 q5 b5 hb HBU
              go_wp2
              go_roundw
              case rel => exact ⟨k + 1, by omega, by go_num, by rw [preG_f HU.out]; exact HBU5.out, HBEL.out⟩
              case measure => simp [intOf]; omega
          · have HE2 := Lib.hid (show preG M k = preT M 0 by rw [show k = M.groups.length by omega]; simp [preT, tasksT, catB])
            have hge : (M.groups.length : Int) ≤ (k : Int) := by omega
            have hdec : decide (k < M.groups.length) = false := decide_eq_false (by omega)
            have HBU2 := Lib.hid (show Lib.IsBuilder 65 5 n2 n2 (Lib.byteCells (preT M 0)) wr by rw [← HE2.out]; exact HBU.out)
            have HBW := Lib.hid hb
            clear hlt hk HBU
            go_wp2
            clear hge hdec
            go_loopw [58] (fun i wr => ∃ t : Nat, t ≤ M.tasks.length ∧ i = .int .i64 t ∧ Lib.IsBuilder 65 5 n2 n2 (Lib.byteCells (preT M t)) wr ∧ Below n2 w2 wr) (fun i _ => M.tasks.length - (intOf i).toNat)
            case atStart => exact ⟨0, by omega, rfl, HBU2.out, HBW.out⟩
            case round =>
              obtain ⟨t, ht, rfl, hBu, hb⟩ := hrel
              have HBU := Lib.hid hBu
              clear hBu HBU2 HBW
              have pw5 := PWK.out _ hb
              clear q0 q1 q2 q3 q4 q5
              obtain ⟨q0, q1, q2, q3, q4, q5⟩ := pw5
              have HXL2 := Lib.hid (preT_len HFA.out HNO.out ht)
              by_cases hlt : t < M.tasks.length
              · obtain ⟨b, o, rfl, hB, c0, c1, c2, c3, c4, c5, c6, c7, c8⟩ := q5.task_ hlt
                have hc0 : (0 : Int) ≤ (t : Int) := by omega
                have hc1 : (t : Int) < (M.tasks.length : Int) := by omega
                have hc9 : (t : Int) < 13 := by have := HFA.out.t12; omega
                go_upto_region 19 with (fail)
                refine gen1 (p := fun W => Code.wp _ _ _ _ W) ?_
                intro W5 b5 s5 kz
                have z0 := kz.cell 0
                have z1 := kz.cell 1
                have z2 := kz.cell 2
                have z3 := kz.cell 3
                have z4 := kz.cell 4
                have z5 := kz.cell 5
                have z6 := kz.cell 6
                have z7 := kz.cell 7
                have z8 := kz.cell 8
                simp at z0 z1 z2 z3 z4 z5 z6 z7 z8
                have HBEL := Lib.hid (hb.trans (b5.mono (SZK.out _ hb)))
                have HBU5 := Lib.hid (bu_below HBU.out b5)
                have hsz5 := SZK.out _ HBEL.out
                clear kz s5 c0 c1 c2 c3 c4 c5 c6 c7 c8 q0 q1 q2 q3 q4 q5 b5 hb HBU
                by_cases hst : (tsk M t).st = 0
                · have hz : ((tsk M t).st != 0) = false := by simp [hst]
                  have HC := Lib.hid (preT_f hst)
                  clear hst
                  go_wp2
                  go_roundw
                  case rel => exact ⟨t + 1, by omega, by go_num, by rw [HC.out]; exact HBU5.out, HBEL.out⟩
                  case measure => simp [intOf]; omega
                · have hz : ((tsk M t).st != 0) = true := by simp [hst]
                  have HC := Lib.hid (preT_t hst)
                  have HY := Lib.hid (taskT_len HNO.out hlt hst)
                  have HSR := Lib.hid (HNO.out.tskF t hlt hst)
                  have HSH := Lib.hid (show lineB [116, 97, 115, 107] [(t : Int), (tsk M t).st, (tsk M t).gr, (tsk M t).cpu, (tsk M t).nice, (tsk M t).mask, (tsk M t).v, (tsk M t).sum, (tsk M t).used, (tsk M t).load] = taskT M t from rfl)
                  clear hst
                  go_wp2_with (first | (go_at_call 32; refine (iRow_any ⟨#[116, 97, 115, 107]⟩ _ _ [(t : Int), (tsk M t).st, (tsk M t).gr, (tsk M t).cpu, (tsk M t).nice, (tsk M t).mask, (tsk M t).v, (tsk M t).sum, (tsk M t).used, (tsk M t).load] _ (IntS.fresh0 _ _ _ rfl _) (by decide) (by simp) HSR.out (TBK.out _ (HBEL.out.trans (((Below.refl _ _).alloc (Nat.le_refl _) _).mono (SZK.out _ HBEL.out))))).mono ?_; rintro e w6 ⟨rfl, hb6⟩; rw [show (⟨#[116, 97, 115, 107]⟩ : ByteArray).data.toList = [116, 97, 115, 107] from rfl, HSH.out]) | (go_at_call 31; refine (bText_any n2 n2 (preT M t) (taskT M t) _ (bu_below HBU5.out (((Below.refl _ _).alloc (Nat.le_refl _) _).andThen hb6)) (by have := HXL2.out; omega) (by have := HY.out; omega) (by have := (((Below.refl _ W5).alloc (Nat.le_refl _) _).andThen hb6).size; omega)).mono ?_; rintro e w7 ⟨rfl, hB7, hb7⟩))
                  rw [← HC.out] at hB7
                  have hw7 : Below n2 w2 w7 := (HBEL.out.trans ((((Below.refl _ _).alloc (Nat.le_refl _) _).andThen hb6).mono (SZK.out _ HBEL.out))).trans hb7
                  go_roundw
                  case rel => exact ⟨t + 1, by omega, by go_num, hB7, hw7⟩
                  case measure => simp [intOf]; omega
              · have HE3 := Lib.hid (show preT M t = textM M by rw [TM.out, ← pre_body, show t = M.tasks.length by omega])
                have hge2 : (M.tasks.length : Int) ≤ (t : Int) := by omega
                have HBU3 := Lib.hid (show Lib.IsBuilder 65 5 n2 n2 (Lib.byteCells (textM M)) wr by rw [← HE3.out]; exact HBU.out)
                have hsz := SZK.out _ hb
                clear hlt
                go_wp2_with (go_at_call 35; refine (Tryz.Builder_String_any n2 n2 (textM M) _ HBU3.out hsz).mono ?_; rintro e w8 ⟨rfl, hb8⟩)
                go_ret
                exact ⟨rfl, bel2.out.andThen (show Below w2.heap.size w2 w8 by rw [HN2.out]; exact hb.trans hb8)⟩
  · have F1 := Lib.hid (show worldB M = false by simpa only [Bool.not_eq_true] using f1)
    clear f1
    have TM := Lib.hid (show (⟨#[]⟩ : ByteArray) = strB (textM M) by rw [textM, if_neg (by rw [F1.out]; simp)]; rfl)
    go_wp2_with (go_at_call 30; refine (iWorldOk_any ca cc ta tc ga gc gh M _ q5 hF HX.out).mono ?_; rintro e w2 ⟨rfl, hb2⟩; rw [F1.out]; have r1 := (hb2.cell (p := ⟨w.heap.size, 0, none⟩) q0).trans q1; have r2 := (hb2.cell (p := ⟨w.heap.size, 1, none⟩) q0).trans q2; have r3 := (hb2.cell (p := ⟨w.heap.size, 2, none⟩) q0).trans q3; have r4 := (hb2.cell (p := ⟨w.heap.size, 3, none⟩) q0).trans q4; have r0 := Nat.lt_of_lt_of_le q0 hb2.size)
    go_ret
    exact ⟨ret_str TM.out, b1.andThen hb2⟩
end Go.Proofs.YtknfpigaognklaaGreatDoor
