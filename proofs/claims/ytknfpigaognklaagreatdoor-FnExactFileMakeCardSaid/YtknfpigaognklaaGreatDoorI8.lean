/- The program's own test of the shelves of a world. -/
import Derived.Test.YtknfpigaognklaaGreatDoorI7
namespace Go.Proofs.YtknfpigaognklaaGreatDoor
open Go.RowKit Go.Sort
theorem IntS.new (L : List Int) (cs : Array Value) (T : TypeId) (hcs : cs = (L.map (Value.int .i64)).toArray) (w : World) : IntS (w.alloc (.cells cs T)) (some ⟨w.heap.size, 0, none⟩) L := by
  subst hcs
  refine ⟨fun k hk => ⟨w.heap.size, 0, rfl, by simp, ?_⟩⟩
  have := (Blk.new w T (L.map (Value.int .i64)).toArray).cell k
  rw [Nat.zero_add, this]
  simp [hk]
def shelfI1 (x : ShelfM) : Bool := [x.floor, x.v, x.sum].all timeB && inR x.w 1 20
/-- the program's test of a shelf of a group -/
def shelfI2 (M : WorldM) (c g : Nat) : Bool := (g == 0) || !(grp M g).used || (((she M g c).on == onB M g c) && (!(she M g c).on || standW (she M g c).v (she M (par M g) c).floor (she M g c).w))
def rootI (x : ShelfM) : Bool := !x.on && (x.v == 0) && (x.w == 10)
def laneI (M : WorldM) (c : Nat) : Bool := rootI (she M 0 c) && (List.range 8).all (shelfI2 M c)
def shelvesI (M : WorldM) : Bool := (List.range M.groups.length).all (fun k => (List.range (grp M k).shelves.length).all fun c => shelfI1 (she M k c)) && (List.range M.cpus.length).all (laneI M)
set_option maxRecDepth 100000 in
set_option maxHeartbeats 4000000 in
theorem iShelvesOk_any (p : Nat) (ca : Option Addr) (cc : Nat) (ta : Option Addr) (tc : Nat) (ga : Option Addr) (gc : Nat) (gh : Nat → GH) (M : WorldM) (w : World) (hs : PA w p ca cc ta tc ga gc gh M) (hF : FitG M) (hT : Tree M) (hG : GOk M) (hc : M.cpus.length ≤ 4) :
    Calls Tryz.prog 77 #[.pointer (some ⟨p, 0, none⟩)] w fun e w' => e = .returned (.bool (shelvesI M)) ∧ Below w.heap.size w w' := by
  have hgl := hT.len
  have HGL := Lib.hid hgl
  have hgm := hF.group
  have HF := Lib.hid hF
  clear hF hgl
  have pw := hs
  obtain ⟨q0, q1, q2, q3, q4, q5⟩ := hs
  go_enter Tryz.func77, Tryz.ntmps77
  go_wp2
  clear q0 q1 q2 q3 q4 q5
  go_loopw [4, 6, 17] (fun _ _ i wr => ∃ k : Nat, k ≤ M.groups.length ∧ i = .int .i64 k ∧ (List.range k).all (fun k => (List.range (grp M k).shelves.length).all fun c => shelfI1 (she M k c)) = true ∧ Below w.heap.size w wr) (fun _ _ i _ => M.groups.length - (intOf i).toNat)
  case atStart => exact ⟨0, by omega, rfl, rfl, Below.refl _ _⟩
  case round =>
    obtain ⟨k, hk, rfl, hall, hb⟩ := hrel
    have HA := Lib.hid hall
    clear hall
    have pw2 := pw.keep hb
    by_cases hlt : k < M.groups.length
    · have q5 := pw2.wa
      obtain ⟨b, o, rfl, hB, c0, c1, c2, c3, c4, c5, c6, c7, c8, c9, c10, c11, c12, c13⟩ := q5.group_ hlt
      have hsm := HF.out.she k hlt
      go_upto_region 4 with (fail)
      refine gen1 (p := fun W => Code.wp _ _ _ _ W) ?_
      intro W b2 s2 kx
      have b3 := hb.andThen b2
      have x13 := kx.cell 13
      simp at x13
      clear s2 kx c0 c1 c2 c3 c4 c5 c6 c7 c8 c9 c10 c11 c12 c13 q5
      go_wp2
      obtain ⟨wo, hwo⟩ : ∃ wo : World, wo = W := ⟨_, rfl⟩
      subst hwo
      go_loopw [6, 24] (fun _ i wi => ∃ c : Nat, c ≤ (grp M k).shelves.length ∧ i = .int .i64 c ∧ (List.range c).all (fun c => shelfI1 (she M k c)) = true ∧ Below wo.heap.size wo wi) (fun _ i _ => (grp M k).shelves.length - (intOf i).toNat)
      case atStart => exact ⟨0, by omega, rfl, rfl, Below.refl _ _⟩
      case round =>
        obtain ⟨c, hcl, rfl, hall, hbi⟩ := hrel
        have HA2 := Lib.hid hall
        clear hall
        by_cases hlt2 : c < (grp M k).shelves.length
        · obtain ⟨b5, o5, e5, hB5, f0, f1, f2, f3, f4⟩ := (pw2.keep (b2.andThen hbi)).wa.shelf_ hlt hlt2
          obtain ⟨x, hX⟩ : ∃ x, she M k c = x := ⟨_, rfl⟩
          rw [hX] at f0 f1 f2 f3 f4
          have HX := Lib.hid hX
          rw [e5] at x13 ⊢
          clear hX e5
          go_upto_region 7 with (fail)
          refine gen1 (p := fun W => Code.wp _ _ _ _ W) ?_
          intro W3 b6 s6 kx
          have y0 := kx.cell 0
          have y2 := kx.cell 2
          have y3 := kx.cell 3
          have y4 := kx.cell 4
          simp at y0 y2 y3 y4
          have hyl := kx.lt
          clear kx f0 f1 f2 f3 f4 s6
          by_cases hok : shelfI1 x = true
          · have HOK := Lib.hid hok
            simp only [shelfI1, Bool.and_eq_true] at hok
            have F1 := Lib.hid hok.1
            have F2 := Lib.hid hok.2
            clear hok
            go_wp2_with (first | (go_at_call 137; refine (iTimeN [x.floor, x.v, x.sum] 3 _ _ (IntS.new _ _ _ rfl W3) rfl).mono ?_; rintro e w4 ⟨rfl, hb4⟩; rw [F1.out]; have z3 := ((((Below.refl W3.heap.size W3).alloc (Nat.le_refl _) _).andThen hb4).cell (p := ⟨wr.heap.size, 3, none⟩) hyl).trans y3) | (go_at_call 141; refine (iWeightOk_any _ _).mono ?_; rintro e w' ⟨rfl, rfl⟩; rw [F2.out]))
            go_roundw
            case rel => exact ⟨c + 1, by omega, by go_num, by rw [all_succ, HA2.out, HX.out, HOK.out]; rfl, (hbi.andThen b6).andThen (((Below.refl W3.heap.size W3).alloc (Nat.le_refl _) _).andThen hb4)⟩
            case measure => simp [intOf]; omega
          · have HOK := Lib.hid (show shelfI1 x = false by simpa using hok)
            clear hok
            by_cases f1 : [x.floor, x.v, x.sum].all timeB = true
            · have F1 := Lib.hid f1
              have F2 := Lib.hid (show inR x.w 1 20 = false by have h := HOK.out; rw [shelfI1, f1] at h; simpa using h)
              clear f1
              go_wp2_with (first | (go_at_call 137; refine (iTimeN [x.floor, x.v, x.sum] 3 _ _ (IntS.new _ _ _ rfl W3) rfl).mono ?_; rintro e w4 ⟨rfl, hb4⟩; rw [F1.out]; have z3 := ((((Below.refl W3.heap.size W3).alloc (Nat.le_refl _) _).andThen hb4).cell (p := ⟨wr.heap.size, 3, none⟩) hyl).trans y3) | (go_at_call 141; refine (iWeightOk_any _ _).mono ?_; rintro e w' ⟨rfl, rfl⟩; rw [F2.out]))
              go_ret
              exact ⟨ret_bool (by rw [shelvesI, all_of hlt (all_of hlt2 (by rw [HX.out, HOK.out]))]; rfl), b3.andThen ((hbi.andThen b6).andThen (((Below.refl W3.heap.size W3).alloc (Nat.le_refl _) _).andThen hb4))⟩
            · have F1 := Lib.hid (show [x.floor, x.v, x.sum].all timeB = false by simpa only [Bool.not_eq_true] using f1)
              clear f1
              go_wp2_with (first | (go_at_call 137; refine (iTimeN [x.floor, x.v, x.sum] 3 _ _ (IntS.new _ _ _ rfl W3) rfl).mono ?_; rintro e w4 ⟨rfl, hb4⟩; rw [F1.out]))
              go_ret
              exact ⟨ret_bool (by rw [shelvesI, all_of hlt (all_of hlt2 (by rw [HX.out, HOK.out]))]; rfl), b3.andThen ((hbi.andThen b6).andThen (((Below.refl W3.heap.size W3).alloc (Nat.le_refl _) _).andThen hb4))⟩
        · have hcl2 : c = (grp M k).shelves.length := by omega
          have HA3 := Lib.hid (show (List.range (grp M k).shelves.length).all (fun c => shelfI1 (she M k c)) = true by rw [← hcl2]; exact HA2.out)
          clear hcl2
          go_wp2
          go_roundw
          case rel => exact ⟨k + 1, by omega, by go_num, by rw [all_succ, HA.out, HA3.out]; rfl, b3.andThen hbi⟩
          case measure => simp [intOf]; omega
    · have hkl : k = M.groups.length := by omega
      have HSA := Lib.hid (show (List.range M.groups.length).all (fun k => (List.range (grp M k).shelves.length).all fun c => shelfI1 (she M k c)) = true by rw [← hkl]; exact HA.out)
      clear hkl
      obtain ⟨q0, q1, q2, q3, q4, q5⟩ := pw2
      go_wp2
      have pw2 : PA wr p ca cc ta tc ga gc gh M := ⟨q0, q1, q2, q3, q4, q5⟩
      clear q0 q1 q2 q3 q4 q5 HA
      obtain ⟨wo, hwo⟩ : ∃ wo : World, wo = wr := ⟨_, rfl⟩
      subst hwo
      go_loopw [7, 8, 9, 10, 11, 50] (fun _ _ _ _ _ i wr => ∃ c : Nat, c ≤ M.cpus.length ∧ i = .int .i64 c ∧ (List.range c).all (laneI M) = true ∧ Below wo.heap.size wo wr) (fun _ _ _ _ _ i _ => M.cpus.length - (intOf i).toNat)
      case atStart => exact ⟨0, by omega, rfl, rfl, Below.refl _ _⟩
      case round =>
        obtain ⟨c, hcl, rfl, hall, hb3⟩ := hrel
        have HA3 := Lib.hid hall
        clear hall
        have b4 := hb.andThen hb3
        have pw3 := pw2.keep hb3
        by_cases hlt3 : c < M.cpus.length
        · have hl0 : 0 < M.groups.length := by rw [HGL.out]; decide
          have hs0 : c < (grp M 0).shelves.length := by rw [hG.she 0 (by decide) hT.root]; exact hlt3
          obtain ⟨b5, o5, e5, hB5, f0, f1, f2, f3, f4⟩ := pw3.wa.shelf_ hl0 hs0
          have E5 := Lib.hid e5
          clear e5 f0 f4
          go_upto_region 15 with (go_at_call 88; refine (iLane_any _ _ _).mono ?_; rintro e w5 ⟨rfl, hb5⟩)
          refine gen1 (p := fun W => Code.wp _ _ _ _ W) ?_
          intro W b6 s6 kx
          have x0 := kx.cell 0
          have x1 := kx.cell 1
          simp at x0 x1
          have hxl := kx.lt
          have pw4 := pw3.keep (hb5.andThen b6)
          have b5' := hb5.andThen b6
          clear kx s6
          go_upto_region 16 with (go_at_call 148; refine (iShelf_any p ca cc ta tc _ gc gh M _ pw4 0 c b5 o5 E5.out hl0 hs0).mono ?_; rintro e w7 ⟨rfl, hb7⟩)
          have b7' := b5'.andThen hb7
          have g1 := (b7'.cell (p := ⟨b5, o5 + c * 5 + 1, none⟩) hB5).trans f1
          have g2 := (b7'.cell (p := ⟨b5, o5 + c * 5 + 2, none⟩) hB5).trans f2
          have g3 := (b7'.cell (p := ⟨b5, o5 + c * 5 + 3, none⟩) hB5).trans f3
          have y0 := (hb7.cell (p := ⟨w5.heap.size, 0, none⟩) hxl).trans x0
          have y1 := (hb7.cell (p := ⟨w5.heap.size, 1, none⟩) hxl).trans x1
          have hyl := Nat.lt_of_lt_of_le hxl hb7.size
          have pw5 := pw4.keep hb7
          have b7 := b4.andThen b7'
          clear f1 f2 f3 x0 x1 hxl pw4 pw3
          obtain ⟨s0, hS0⟩ : ∃ s0, she M 0 c = s0 := ⟨_, rfl⟩
          rw [hS0] at g1 g2 g3
          have HS0 := Lib.hid hS0
          clear hS0
          by_cases hrt : rootI s0 = true
          · have HRT := Lib.hid (show rootI (she M 0 c) = true by rw [HS0.out]; exact hrt)
            simp only [rootI, Bool.and_eq_true, Bool.not_eq_true', beq_iff_eq] at hrt
            rw [hrt.1.1] at g1
            rw [hrt.1.2] at g2
            rw [hrt.2] at g3
            clear hrt
            go_wp2
            clear g1 g2 g3
            obtain ⟨wq, hwq⟩ : ∃ wq : World, wq = w7 := ⟨_, rfl⟩
            subst hwq
            go_loopw [10, 11] (fun i _ wr => ∃ g : Nat, 1 ≤ g ∧ g ≤ 8 ∧ i = .int .i64 g ∧ (List.range g).all (shelfI2 M c) = true ∧ Below wq.heap.size wq wr) (fun i _ _ => 8 - (intOf i).toNat)
            case atStart => exact ⟨1, by omega, by omega, rfl, rfl, Below.refl _ _⟩
            case round =>
              obtain ⟨g, hg1, hg8, rfl, hall, hbg⟩ := hrel
              have HGA := Lib.hid hall
              clear hall
              have z0 := (hbg.cell (p := ⟨w5.heap.size, 0, none⟩) hyl).trans y0
              have z1 := (hbg.cell (p := ⟨w5.heap.size, 1, none⟩) hyl).trans y1
              have hzl := Nat.lt_of_lt_of_le hyl hbg.size
              have pw6 := pw5.keep hbg
              by_cases hlt4 : g < 8
              · have hlg : g < M.groups.length := by rw [HGL.out]; exact hlt4
                have pw7 := pw6
                obtain ⟨q0, q1, q2, q3, q4, q5⟩ := pw6
                obtain ⟨b2, o2, rfl, hB2, c0, c1, c2, c3, c4, c5, c6, c7, c8, c9, c10, c11, c12, c13⟩ := q5.group_ hlg
                by_cases hu : (grp M g).used = true
                · skip
                  have HU := Lib.hid hu
                  rw [hu] at c0
                  have hsg : c < (grp M g).shelves.length := by rw [hG.she g hlt4 hu]; exact hlt3
                  obtain ⟨b9, o9, e9, hB9, f0, f1, f2, f3, f4⟩ := q5.shelf_ hlg hsg
                  have E9 := Lib.hid e9
                  obtain ⟨hp1, hp2, hp3, _⟩ := hT.up g hlt4 hu (by omega)
                  have hlp : par M g < M.groups.length := by rw [HGL.out]; exact hp2
                  have hsp : c < (grp M (par M g)).shelves.length := by rw [hG.she _ hp2 hp3]; exact hlt3
                  obtain ⟨ba, oa, ea, hBa, d0, d1, d2, d3, d4⟩ := q5.shelf_ hlp hsp
                  have EA := Lib.hid ea
                  have hGs : ∀ k, k < M.groups.length → (grp M k).used = true → (grp M k).shelves.length = M.cpus.length := fun k hk hu => hG.she k (by have := HGL.out; omega) hu
                  have HGS := Lib.hid hGs
                  have HDR := Lib.hid (show 0 < (grp M g).band.quota → c < (grp M g).band.dry.length from fun h => by rw [(hG.dry g hlt4 hu h).1]; exact hlt3)
                  rw [hp1] at c1
                  clear e9 ea hGs hu f0 f4 d1 d2 d3 d4 c2 c3 c4 c5 c6 c7 c8 c9 c10 c11 c12 c13 hp1 hp3
                  go_upto_region 23 with (go_at_call 148; refine (iShelf_any p ca cc ta tc _ gc gh M _ pw7 g c b9 o9 E9.out hlg hsg).mono ?_; rintro e w8 ⟨rfl, hb8⟩)
                  have pw8 := pw7.keep hb8
                  have r0 := (hb8.cell (p := ⟨w5.heap.size, 0, none⟩) hzl).trans z0
                  have r1 := (hb8.cell (p := ⟨w5.heap.size, 1, none⟩) hzl).trans z1
                  have v1 := (hb8.cell (p := ⟨b9, o9 + c * 5 + 1, none⟩) hB9).trans f1
                  have v2 := (hb8.cell (p := ⟨b9, o9 + c * 5 + 2, none⟩) hB9).trans f2
                  have v3 := (hb8.cell (p := ⟨b9, o9 + c * 5 + 3, none⟩) hB9).trans f3
                  have vp := (hb8.cell (p := ⟨ba, oa + c * 5, none⟩) hBa).trans d0
                  have vc := (hb8.cell (p := ⟨b2, o2 + g * 14 + 1, none⟩) hB2).trans c1
                  have vg := (hb8.cell (p := ⟨p, 3, none⟩) q0).trans q4
                  clear z0 z1 f1 f2 f3 d0 c1 c0 q1 q2 q3 q4 q5 pw7
                  have bd : Below w8.heap.size w8 w8.drew := ⟨rfl, rfl, rfl, Nat.le_refl _, fun _ _ => rfl⟩
                  obtain ⟨x, hXg⟩ : ∃ x, she M g c = x := ⟨_, rfl⟩
                  rw [hXg] at v1 v2 v3
                  have XG := Lib.hid hXg
                  clear hXg
                  obtain ⟨y, hYg⟩ : ∃ y, she M (par M g) c = y := ⟨_, rfl⟩
                  rw [hYg] at vp
                  have YG := Lib.hid hYg
                  clear hYg
                  have hi0 : (0 : Int) ≤ (g : Int) := by omega
                  have hi1 : (g : Int) < (M.groups.length : Int) := by have := HGL.out; omega
                  have q_r0 := fun d os => cell_regrown r0 d os
                  have q_r1 := fun d os => cell_regrown r1 d os
                  have q_v1 := fun d os => cell_regrown v1 d os
                  have q_v2 := fun d os => cell_regrown v2 d os
                  have q_v3 := fun d os => cell_regrown v3 d os
                  have q_vp := fun d os => cell_regrown vp d os
                  have q_vc := fun d os => cell_regrown vc d os
                  have q_vg := fun d os => cell_regrown vg d os
                  have b8 := b7.andThen (hbg.andThen hb8)
                  have SH := Lib.hid (show shelfI2 M c g = ((x.on == onB M g c) && (!x.on || standW x.v y.floor x.w)) by rw [shelfI2, HU.out, XG.out, YG.out, show (g == 0) = false by simp; omega]; rfl)
                  cases hon : x.on with
                  | false =>
                    have ON := Lib.hid hon
                    rw [hon] at v1 q_v1
                    clear hon
                    refine region_or [false, false, false, false, false, false, true, false, false, false, true, false, false, false, false, false, false, false, false, false, false, false, false, false, false, false, false, false, false, false, false, false, false, false, false, false, false, false, true, false, false, false, true, false, false, false] [0, 1, 2, 3, 4, 5, 6, 7, 8, 9, 10, 11, 12, 13, 14, 15, 16, 17, 18, 19, 20, 21, 22, 23, 24, 25, 26, 27, 28, 29, 30, 31, 32, 33, 38, 39, 40, 41, 34, 35, 36, 37, 42, 43, 44, 45] (by kernel_rfl) (by kernel_rfl) rfl (by kernel_rfl) (by kernel_rfl) ?_
                    simp only [permL, List.getElem?_cons_zero, List.getElem?_cons_succ, Option.toList_some, List.cons_append, List.nil_append]
                    repeat (first | (refine wpR_skip (by rfl) ?_; simp only [Act.put, List.setIfInBounds_toArray, List.set_cons_zero, List.set_cons_succ]) | (refine wpR_det (by rfl) (fun K hK => ?_); go_big_quiet_op; refine hK _ ?_; clear hK K))
                    refine wpR_bar (by rfl) (fun K hK => ?_)
                    go_big_op
                    go_at_call 151
                    refine (iActive_any p ca cc ta tc _ gc gh M _ (pw8.keep bd) HF.out HGS.out g c hlt3).mono ?_
                    rintro e w9 ⟨rfl, hb9⟩
                    refine hK _ _ (regrown_of_below (bd.andThen hb9)) ?_
                    clear hK K
                    cases hac : (act M g c) with
                    | false =>
                      have AC := Lib.hid hac
                      clear hac
                      have OB := Lib.hid (show onB M g c = false by rw [onB, AC.out]; rfl)
                      have SHV := Lib.hid (show shelfI2 M c g = true by rw [SH.out, ON.out, OB.out]; rfl)
                      repeat (first | (refine wpR_skip (by rfl) ?_; simp only [Act.put, List.setIfInBounds_toArray, List.set_cons_zero, List.set_cons_succ]) | (refine wpR_det (by rfl) (fun K hK => ?_); go_big_quiet_op; refine hK _ ?_; clear hK K))
                      refine wpR_nil ?_
                      go_wp2
                      go_roundw
                      case rel => exact ⟨g + 1, by omega, by omega, by go_num, by rw [all_succ, HGA.out, SHV.out]; rfl, (hbg.andThen hb8).andThen (bd.andThen hb9)⟩
                      case measure => simp [intOf]; omega
                    | true =>
                      have AC := Lib.hid hac
                      clear hac
                      repeat (first | (refine wpR_skip (by rfl) ?_; simp only [Act.put, List.setIfInBounds_toArray, List.set_cons_zero, List.set_cons_succ]) | (refine wpR_det (by rfl) (fun K hK => ?_); go_big_quiet_op; refine hK _ ?_; clear hK K))
                      refine wpR_bar (by rfl) (fun K hK => ?_)
                      go_big_op
                      go_at_call 152
                      refine (iDry_any p ca cc ta tc _ gc gh M _ (pw8.keep (bd.andThen hb9)) g c hlg HDR.out).mono ?_
                      rintro e w10 ⟨rfl, hb10⟩
                      refine hK _ _ (regrown_of_below ((bd.andThen hb9).andThen hb10)) ?_
                      clear hK K
                      cases hdr : (dryM M g c) with
                      | false =>
                        have DR := Lib.hid hdr
                        clear hdr
                        have OB := Lib.hid (show onB M g c = true by rw [onB, AC.out, DR.out]; rfl)
                        have SHV := Lib.hid (show shelfI2 M c g = false by rw [SH.out, ON.out, OB.out]; rfl)
                        repeat (first | (refine wpR_skip (by rfl) ?_; simp only [Act.put, List.setIfInBounds_toArray, List.set_cons_zero, List.set_cons_succ]) | (refine wpR_det (by rfl) (fun K hK => ?_); go_big_quiet_op; refine hK _ ?_; clear hK K))
                        refine wpR_nil ?_
                        go_wp2
                        go_ret
                        exact ⟨ret_bool (by rw [shelvesI, HSA.out, all_of hlt3 (by rw [laneI, HRT.out, all_of hlt4 SHV.out]; rfl)]; rfl), b8.andThen ((bd.andThen hb9).andThen hb10)⟩
                      | true =>
                        have DR := Lib.hid hdr
                        clear hdr
                        have OB := Lib.hid (show onB M g c = false by rw [onB, AC.out, DR.out]; rfl)
                        have SHV := Lib.hid (show shelfI2 M c g = true by rw [SH.out, ON.out, OB.out]; rfl)
                        repeat (first | (refine wpR_skip (by rfl) ?_; simp only [Act.put, List.setIfInBounds_toArray, List.set_cons_zero, List.set_cons_succ]) | (refine wpR_det (by rfl) (fun K hK => ?_); go_big_quiet_op; refine hK _ ?_; clear hK K))
                        refine wpR_nil ?_
                        go_wp2
                        go_roundw
                        case rel => exact ⟨g + 1, by omega, by omega, by go_num, by rw [all_succ, HGA.out, SHV.out]; rfl, (hbg.andThen hb8).andThen ((bd.andThen hb9).andThen hb10)⟩
                        case measure => simp [intOf]; omega
                  | true =>
                    have ON := Lib.hid hon
                    rw [hon] at v1 q_v1
                    clear hon
                    refine region_or [false, false, false, false, false, false, true, false, false, false, true, false, false, false, false, false, false, false, false, false, false, false, false, false, false, false, false, false, false, false, false, false, false, false, false, false, false, false, true, false, false, false, true, false, false, false] [0, 1, 2, 3, 4, 5, 6, 7, 8, 9, 10, 11, 12, 13, 14, 15, 16, 17, 18, 19, 20, 21, 22, 23, 24, 25, 26, 27, 28, 29, 30, 31, 32, 33, 38, 39, 40, 41, 34, 35, 36, 37, 42, 43, 44, 45] (by kernel_rfl) (by kernel_rfl) rfl (by kernel_rfl) (by kernel_rfl) ?_
                    simp only [permL, List.getElem?_cons_zero, List.getElem?_cons_succ, Option.toList_some, List.cons_append, List.nil_append]
                    repeat (first | (refine wpR_skip (by rfl) ?_; simp only [Act.put, List.setIfInBounds_toArray, List.set_cons_zero, List.set_cons_succ]) | (refine wpR_det (by rfl) (fun K hK => ?_); go_big_quiet_op; refine hK _ ?_; clear hK K))
                    refine wpR_bar (by rfl) (fun K hK => ?_)
                    go_big_op
                    go_at_call 151
                    refine (iActive_any p ca cc ta tc _ gc gh M _ (pw8.keep bd) HF.out HGS.out g c hlt3).mono ?_
                    rintro e w9 ⟨rfl, hb9⟩
                    refine hK _ _ (regrown_of_below (bd.andThen hb9)) ?_
                    clear hK K
                    cases hac : (act M g c) with
                    | false =>
                      have AC := Lib.hid hac
                      clear hac
                      have OB := Lib.hid (show onB M g c = false by rw [onB, AC.out]; rfl)
                      have SHV := Lib.hid (show shelfI2 M c g = false by rw [SH.out, ON.out, OB.out]; rfl)
                      repeat (first | (refine wpR_skip (by rfl) ?_; simp only [Act.put, List.setIfInBounds_toArray, List.set_cons_zero, List.set_cons_succ]) | (refine wpR_det (by rfl) (fun K hK => ?_); go_big_quiet_op; refine hK _ ?_; clear hK K))
                      refine wpR_nil ?_
                      go_wp2
                      go_ret
                      exact ⟨ret_bool (by rw [shelvesI, HSA.out, all_of hlt3 (by rw [laneI, HRT.out, all_of hlt4 SHV.out]; rfl)]; rfl), b8.andThen (bd.andThen hb9)⟩
                    | true =>
                      have AC := Lib.hid hac
                      clear hac
                      repeat (first | (refine wpR_skip (by rfl) ?_; simp only [Act.put, List.setIfInBounds_toArray, List.set_cons_zero, List.set_cons_succ]) | (refine wpR_det (by rfl) (fun K hK => ?_); go_big_quiet_op; refine hK _ ?_; clear hK K))
                      refine wpR_bar (by rfl) (fun K hK => ?_)
                      go_big_op
                      go_at_call 152
                      refine (iDry_any p ca cc ta tc _ gc gh M _ (pw8.keep (bd.andThen hb9)) g c hlg HDR.out).mono ?_
                      rintro e w10 ⟨rfl, hb10⟩
                      refine hK _ _ (regrown_of_below ((bd.andThen hb9).andThen hb10)) ?_
                      clear hK K
                      cases hdr : (dryM M g c) with
                      | false =>
                        have DR := Lib.hid hdr
                        clear hdr
                        have OB := Lib.hid (show onB M g c = true by rw [onB, AC.out, DR.out]; rfl)
                        repeat (first | (refine wpR_skip (by rfl) ?_; simp only [Act.put, List.setIfInBounds_toArray, List.set_cons_zero, List.set_cons_succ]) | (refine wpR_det (by rfl) (fun K hK => ?_); go_big_quiet_op; refine hK _ ?_; clear hK K))
                        refine wpR_bar (by rfl) (fun K hK => ?_)
                        go_big_op
                        go_at_call 148
                        refine (iShelf_any p ca cc ta tc _ gc gh M _ (pw8.keep ((bd.andThen hb9).andThen hb10)) (par M g) c ba oa EA.out hlp hsp).mono ?_
                        rintro e w11 ⟨rfl, hb11⟩
                        refine hK _ _ (regrown_of_below (((bd.andThen hb9).andThen hb10).andThen hb11)) ?_
                        clear hK K
                        repeat (first | (refine wpR_skip (by rfl) ?_; simp only [Act.put, List.setIfInBounds_toArray, List.set_cons_zero, List.set_cons_succ]) | (refine wpR_det (by rfl) (fun K hK => ?_); go_big_quiet_op; refine hK _ ?_; clear hK K))
                        refine wpR_bar (by rfl) (fun K hK => ?_)
                        go_big_op
                        go_at_call 149
                        refine (iPlaced_any _ _ _ _).mono ?_
                        rintro e w12 ⟨rfl, hb12⟩
                        refine hK _ _ (regrown_of_below ((((bd.andThen hb9).andThen hb10).andThen hb11).andThen hb12)) ?_
                        clear hK K
                        cases hst : (standW x.v y.floor x.w) with
                        | false =>
                          have ST := Lib.hid hst
                          clear hst
                          have SHV := Lib.hid (show shelfI2 M c g = false by rw [SH.out, ON.out, OB.out, ST.out]; rfl)
                          repeat (first | (refine wpR_skip (by rfl) ?_; simp only [Act.put, List.setIfInBounds_toArray, List.set_cons_zero, List.set_cons_succ]) | (refine wpR_det (by rfl) (fun K hK => ?_); go_big_quiet_op; refine hK _ ?_; clear hK K))
                          refine wpR_nil ?_
                          go_wp2
                          go_ret
                          exact ⟨ret_bool (by rw [shelvesI, HSA.out, all_of hlt3 (by rw [laneI, HRT.out, all_of hlt4 SHV.out]; rfl)]; rfl), b8.andThen ((((bd.andThen hb9).andThen hb10).andThen hb11).andThen hb12)⟩
                        | true =>
                          have ST := Lib.hid hst
                          clear hst
                          have SHV := Lib.hid (show shelfI2 M c g = true by rw [SH.out, ON.out, OB.out, ST.out]; rfl)
                          repeat (first | (refine wpR_skip (by rfl) ?_; simp only [Act.put, List.setIfInBounds_toArray, List.set_cons_zero, List.set_cons_succ]) | (refine wpR_det (by rfl) (fun K hK => ?_); go_big_quiet_op; refine hK _ ?_; clear hK K))
                          refine wpR_nil ?_
                          go_wp2
                          go_roundw
                          case rel => exact ⟨g + 1, by omega, by omega, by go_num, by rw [all_succ, HGA.out, SHV.out]; rfl, (hbg.andThen hb8).andThen ((((bd.andThen hb9).andThen hb10).andThen hb11).andThen hb12)⟩
                          case measure => simp [intOf]; omega
                      | true =>
                        have DR := Lib.hid hdr
                        clear hdr
                        have OB := Lib.hid (show onB M g c = false by rw [onB, AC.out, DR.out]; rfl)
                        have SHV := Lib.hid (show shelfI2 M c g = false by rw [SH.out, ON.out, OB.out]; rfl)
                        repeat (first | (refine wpR_skip (by rfl) ?_; simp only [Act.put, List.setIfInBounds_toArray, List.set_cons_zero, List.set_cons_succ]) | (refine wpR_det (by rfl) (fun K hK => ?_); go_big_quiet_op; refine hK _ ?_; clear hK K))
                        refine wpR_nil ?_
                        go_wp2
                        go_ret
                        exact ⟨ret_bool (by rw [shelvesI, HSA.out, all_of hlt3 (by rw [laneI, HRT.out, all_of hlt4 SHV.out]; rfl)]; rfl), b8.andThen ((bd.andThen hb9).andThen hb10)⟩
                · have hu' : (grp M g).used = false := by simpa using hu
                  have HU := Lib.hid hu'
                  rw [hu'] at c0
                  clear hu hu' c1 c2 c3 c4 c5 c6 c7 c8 c9 c10 c11 c12 c13
                  go_wp2
                  go_roundw
                  case rel => exact ⟨g + 1, by omega, by omega, by go_num, by rw [all_succ, HGA.out, shelfI2, HU.out]; simp, hbg⟩
                  case measure => simp [intOf]; omega
              · have hg88 : g = 8 := by omega
                have HG8 := Lib.hid (show (List.range 8).all (shelfI2 M c) = true by rw [← hg88]; exact HGA.out)
                clear hg88
                go_wp2
                go_roundw
                case rel => exact ⟨c + 1, by omega, by go_num, by rw [all_succ, HA3.out, laneI, HRT.out, HG8.out]; rfl, hb3.andThen (b7'.andThen hbg)⟩
                case measure => simp [intOf]; omega
          · have HRT := Lib.hid (show rootI s0 = false by simpa using hrt)
            clear hrt
            cases hon : s0.on with
            | true =>
              rw [hon] at g1
              clear hon
              go_wp2
              go_ret
              exact ⟨ret_bool (by rw [shelvesI, HSA.out, all_of hlt3 (by rw [laneI, HS0.out, HRT.out]; rfl)]; rfl), b7⟩
            | false =>
              rw [hon] at g1
              have HON := Lib.hid hon
              clear hon
              by_cases hv : s0.v = 0
              · by_cases hw : s0.w = 10
                · exact absurd HRT.out (by rw [rootI, HON.out, hv, hw]; decide)
                · have hw2 : (s0.w != 10) = true := by simpa using hw
                  rw [hv] at g2
                  clear hv hw
                  go_wp2
                  go_ret
                  exact ⟨ret_bool (by rw [shelvesI, HSA.out, all_of hlt3 (by rw [laneI, HS0.out, HRT.out]; rfl)]; rfl), b7⟩
              · have hv2 : (s0.v != 0) = true := by simpa using hv
                clear hv
                go_wp2
                go_ret
                exact ⟨ret_bool (by rw [shelvesI, HSA.out, all_of hlt3 (by rw [laneI, HS0.out, HRT.out]; rfl)]; rfl), b7⟩
        · have hkl : c = M.cpus.length := by omega
          have HLA := Lib.hid (show (List.range M.cpus.length).all (laneI M) = true by rw [← hkl]; exact HA3.out)
          clear hkl
          go_wp2
          go_ret
          exact ⟨ret_bool (by rw [shelvesI, HSA.out, HLA.out]; rfl), hb.andThen hb3⟩
end Go.Proofs.YtknfpigaognklaaGreatDoor
