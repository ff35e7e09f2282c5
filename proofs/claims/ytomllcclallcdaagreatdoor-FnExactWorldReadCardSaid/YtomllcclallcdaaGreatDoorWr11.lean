/- A part of the proof. -/
import Derived.Test.YtomllcclallcdaaGreatDoorWr6
import Derived.Test.YtomllcclallcdaaGreatDoorWr7
import Derived.Test.YtomllcclallcdaaGreatDoorWr10
import Derived.Laws.OwnMore
import Derived.BigRegion
namespace Go.Proofs.YtomllcclallcdaaGreatDoor
section
open Go.RowKit Go.Sort
attribute [local go_sem] strB_size
theorem IntS.fresh0 (L : List Int) (cs : Array Value) (T : TypeId) (hcs : cs = (L.map (Value.int .i64)).toArray) (w : World) : IntS (w.alloc (.cells cs T)) (some ⟨w.heap.size, 0, none⟩) L := by
  subst hcs
  refine ⟨fun k hk => ⟨w.heap.size, 0, rfl, by simp, ?_⟩⟩
  have := (Blk.new w T (L.map (Value.int .i64)).toArray).cell k
  rw [Nat.zero_add, this]
  simp [hk]
theorem row_below {w W : World} {base : Nat} {e : TypeId} {size : Nat} {v : Value} {n : Nat} {xs : List Value} (h : w.ownsRow base e size v n xs) (hb : Below w.heap.size w W) : W.ownsRow base e size v n xs :=
  h.kept (row := none) ⟨hb.os, hb.tape, hb.output, hb.size, fun k hk _ => hb.block k hk⟩ (by cases v.ownBlock <;> simp)
theorem row_form {w : World} {base : Nat} {e : TypeId} {size : Nat} {v : Value} {n : Nat} {xs : List Value} (h : w.ownsRow base e size v n xs) : ∃ a cap, v = .slice a n cap := by
  rcases h.2 with ⟨rfl, rfl⟩ | ⟨g, cap, cur, rfl, _⟩
  · exact ⟨none, 0, rfl⟩
  · exact ⟨_, cap, rfl⟩
theorem IntS.own {w : World} {base : Nat} {e : TypeId} {a : Option Addr} {n cap : Nat} {L : List Int} (h : w.ownsRow base e 1 (.slice a n cap) n (L.map (Value.int .i64))) : IntS w a L := by
  refine ⟨fun k hk => ?_⟩
  have hn : n = L.length := by have := h.1; simp at this; omega
  rcases h.2 with ⟨_, h0⟩ | ⟨g, cap', cur, h1, _, hg, _⟩
  · omega
  · injection h1 with h1 _ _
    subst h1
    refine ⟨g, 0, rfl, (Array.getElem?_eq_some_iff.1 hg).1, ?_⟩
    have := h.cells (g := g) rfl k (.int .i64 L[k]) (by rw [List.getElem?_map, List.getElem?_eq_getElem hk]; rfl)
    rw [← this]
    congr 1
    unfold Addr.add
    simp
theorem one_new (w : World) (v : Value) (t : TypeId) : ∀ j u, [v][j]? = some u → (w.alloc (.cells #[v] t)).cell? ((⟨w.heap.size, 0, none⟩ : Addr).add j) = some u := by
  intro j u hj
  match j, hj with
  | 0, hj => simp at hj; subst hj; simp [Addr.add]
theorem two_new (w : World) (v v2 : Value) (t : TypeId) : ∀ j u, [v, v2][j]? = some u → (w.alloc (.cells #[v, v2] t)).cell? ((⟨w.heap.size, 0, none⟩ : Addr).add j) = some u := by
  intro j u hj
  match j, hj with
  | 0, hj => simp at hj; subst hj; simp [Addr.add]
  | 1, hj => simp at hj; subst hj; simp [Addr.add]
theorem infoInt : (Tryz.prog.info? 3).map (fun i => (i.zero, i.size, i.bytes)) = some (some (Value.int .i64 0), 1, 8) := by kernel_rfl
set_option maxHeartbeats 400000 in
theorem sBit_any (b : Bool) (w : World) : Calls Tryz.prog 32 #[.bool b] w fun e w' => e = .returned (.int .i64 (bitM b)) ∧ w = w' := by
  cases b
  all_goals
    go_enter Tryz.func32, Tryz.ntmps32
    go_wp2
    go_ret
    exact ⟨rfl, rfl⟩
theorem head_name (s : ByteArray) : ((⟨#[103, 114, 111, 117, 112, 32]⟩ : ByteArray) ++ s).data.toList = [103, 114, 111, 117, 112, 32] ++ s.data.toList := by simp
theorem headT_len {M : WorldM} (NO : NumOk M) {k : Nat} (hk : k < 8) (hu : (grp M k).used = true) : (headT M k).length ≤ 200 := by
  have h1 := lineB_len (w := [103, 114, 111, 117, 112, 32] ++ nameT M k) (NO.grpF k hk hu)
  have h2 : (nameT M k).length ≤ 8 := by
    unfold nameT
    split
    · simp
    · have := NO.nameF k hk (by assumption) hu; rw [Array.length_toList]; exact this
  simp only [List.length_append, List.length_cons, List.length_nil] at h1
  unfold headT
  omega
theorem shelfT_len {M : WorldM} (NO : NumOk M) {k c : Nat} (hk : k < 8) (hu : (grp M k).used = true) (hc : c < (grp M k).shelves.length) : (shelfT M k c).length ≤ 200 := by
  have h1 := lineB_len (w := [115, 104, 101, 108, 102]) (NO.sheF k c hk hu hc)
  simp only [List.length_cons, List.length_nil] at h1
  unfold shelfT
  omega
theorem pairsN_len (x : BandM) : ∀ n, (pairsN x n).length = 2 * n
  | 0 => rfl
  | n + 1 => by simp [pairsN, pairsN_len x n]; omega
theorem bandN_len (k : Nat) (x : BandM) (n : Nat) : (bandN k x n).length = 4 + 2 * n := by simp [bandN, pairsN_len]; omega
theorem bandN_snoc (k : Nat) (x : BandM) (n : Nat) : bandN k x (n + 1) = bandN k x n ++ [x.locals.getD n 0, bitM (x.dry.getD n false)] := by simp [bandN, pairsN]
set_option maxRecDepth 100000 in
set_option maxHeartbeats 8000000 in
theorem sGroup_any (ca : Option Addr) (cc : Nat) (ta : Option Addr) (tc : Nat) (ga : Option Addr) (gc : Nat) (gh : Nat → GH) (M : WorldM) (w : World) (hs : WA w ca ta ga gh M) (FA : Facts M) (NO : NumOk M) (k : Nat) (hk : k < 8) (hu : (grp M k).used = true) :
    Calls Tryz.prog 33 #[.agg #[.int .i64 M.now, .slice ca M.cpus.length cc, .slice ta M.tasks.length tc, .slice ga M.groups.length gc], .int .i64 k] w fun e w' => e = .returned (.string (strB (groupT M k))) ∧ Below w.heap.size w w' := by
  have HFA := Lib.hid FA
  have HNO := Lib.hid NO
  have HU := Lib.hid hu
  have hlg : k < M.groups.length := by have := FA.tree.len; omega
  clear FA NO
  go_enter Tryz.func33, Tryz.ntmps33
  go_upto_region 1 with (fail)
  refine PA.gen (P := fun W => Code.wp _ _ _ _ W) hs ?_
  intro W b1 s1 pw
  have PW0 := Lib.hid pw
  obtain ⟨q0, q1, q2, q3, q4, q5⟩ := pw
  clear s1
  obtain ⟨b, o, rfl, hB, c0, c1, c2, c3, c4, c5, c6, c7, c8, c9, c10, c11, c12, c13⟩ := q5.group_ hlg
  have hi0 : (0 : Int) ≤ (k : Int) := by omega
  have hi1 : (k : Int) < (M.groups.length : Int) := by omega
  go_upto_region 2 with (fail)
  refine gen1 (p := fun W => Code.wp _ _ _ _ W) ?_
  intro W2 b2 s2 kx
  have y1 := kx.cell 1
  have y2 := kx.cell 2
  have y3 := kx.cell 3
  have y4 := kx.cell 4
  have y5 := kx.cell 5
  have y6 := kx.cell 6
  have y7 := kx.cell 7
  have y8 := kx.cell 8
  have y9 := kx.cell 9
  have y10 := kx.cell 10
  have y11 := kx.cell 11
  have y12 := kx.cell 12
  have y13 := kx.cell 13
  simp at y1 y2 y3 y4 y5 y6 y7 y8 y9 y10 y11 y12 y13
  have hx := kx.lt
  have PW2 := Lib.hid (PW0.out.keep b2)
  have bel := Lib.hid (b1.andThen b2)
  clear kx s2 c0 c1 c2 c3 c4 c5 c6 c7 c8 c9 c10 c11 c12 c13 q0 q1 q2 q3 q4 q5 PW0 b1 b2 hs hB hu
  by_cases h0 : k = 0
  · have hz : ((k : Int) == 0) = true := by simp [h0]
    have hnm : (⟨#[45]⟩ : ByteArray).data.toList = nameT M k := by rw [nameT, if_pos h0]
    have hns : (⟨#[45]⟩ : ByteArray).size ≤ 8 := by decide
    have HNM := Lib.hid hnm
    clear hnm
    clear h0
    go_upto_region 6 with (go_at_call 31; refine (sRow_any _ _ _ [(k : Int), (grp M k).parent, (grp M k).weight, (grp M k).cpus, (grp M k).period, (grp M k).next, (grp M k).sum] _ (IntS.fresh0 _ _ _ rfl _) (by rw [ByteArray.size_append']; have : (⟨#[103, 114, 111, 117, 112, 32]⟩ : ByteArray).size = 6 := rfl; omega) (by simp) (HNO.out.grpF k hk HU.out)).mono ?_; rintro e w3 ⟨rfl, hb3⟩; rw [head_name, show (⟨#[45]⟩ : ByteArray).data.toList = nameT M k from HNM.out, show lineB ([103, 114, 111, 117, 112, 32] ++ nameT M k) [(k : Int), (grp M k).parent, (grp M k).weight, (grp M k).cpus, (grp M k).period, (grp M k).next, (grp M k).sum] = headT M k from rfl])
    have hb3' := ((Below.refl _ W2).alloc (Nat.le_refl _) _).andThen hb3
    have y8 := (hb3'.cell (p := ⟨W.heap.size, 8, none⟩) hx).trans y8
    have y9 := (hb3'.cell (p := ⟨W.heap.size, 9, none⟩) hx).trans y9
    have y10 := (hb3'.cell (p := ⟨W.heap.size, 10, none⟩) hx).trans y10
    have y11 := (hb3'.cell (p := ⟨W.heap.size, 11, none⟩) hx).trans y11
    have y12 := (hb3'.cell (p := ⟨W.heap.size, 12, none⟩) hx).trans y12
    have y13 := (hb3'.cell (p := ⟨W.heap.size, 13, none⟩) hx).trans y13
    have hx := Nat.lt_of_lt_of_le hx hb3'.size
    have PW3 := Lib.hid (PW2.out.keep hb3')
    have bel3 := Lib.hid (bel.out.andThen hb3')
    clear hb3 hb3' PW2 bel
    go_wp2
    go_loopw [7, 8] (fun t i wr => ∃ c : Nat, c ≤ (grp M k).shelves.length ∧ i = .int .i64 c ∧ t = .string (strB (headT M k ++ catB (shelfT M k) c)) ∧ Below w3.heap.size w3 wr) (fun _ i _ => (grp M k).shelves.length - (intOf i).toNat)
    case atStart => exact ⟨0, by omega, rfl, str_eq (by rw [catB, List.append_nil]), Below.refl _ _⟩
    case round =>
      obtain ⟨c, hc, rfl, rfl, hb⟩ := hrel
      have y8 := (hb.cell (p := ⟨W.heap.size, 8, none⟩) hx).trans y8
      have y9 := (hb.cell (p := ⟨W.heap.size, 9, none⟩) hx).trans y9
      have y10 := (hb.cell (p := ⟨W.heap.size, 10, none⟩) hx).trans y10
      have y11 := (hb.cell (p := ⟨W.heap.size, 11, none⟩) hx).trans y11
      have y12 := (hb.cell (p := ⟨W.heap.size, 12, none⟩) hx).trans y12
      have y13 := (hb.cell (p := ⟨W.heap.size, 13, none⟩) hx).trans y13
      have hx := Nat.lt_of_lt_of_le hx hb.size
      have PW4 := Lib.hid (PW3.out.keep hb)
      have HX := Lib.hid (show (headT M k ++ catB (shelfT M k) c).length ≤ 1000 by rw [List.length_append]; have := headT_len HNO.out hk HU.out; have := catB_len (f := shelfT M k) (B := 200) c (fun j hj => shelfT_len HNO.out hk HU.out (by omega)); have := HFA.out.gok.she k hk HU.out; have := HFA.out.c4; omega)
      by_cases hlt : c < (grp M k).shelves.length
      · have pw4 := PW4.out
        obtain ⟨p0, p1, p2, p3, p4, p5⟩ := pw4
        obtain ⟨bs, os, es, hBs, f0, f1, f2, f3, f4⟩ := p5.shelf_ hlg hlt
        rw [es] at y13
        have hc0 : (0 : Int) ≤ (c : Int) := by omega
        have hc9 : (c : Int) < 9 := by have := HFA.out.gok.she k hk HU.out; have := HFA.out.c4; omega
        have hc1 : (c : Int) < ((grp M k).shelves.length : Int) := by omega
        go_upto_region 10 with (fail)
        refine gen1 (p := fun W => Code.wp _ _ _ _ W) ?_
        intro W5 b5 s5 kz
        have z0 := kz.cell 0
        have z1 := kz.cell 1
        have z2 := kz.cell 2
        have z3 := kz.cell 3
        have z4 := kz.cell 4
        simp at z0 z1 z2 z3 z4
        have hz := kz.lt
        have HBEL := Lib.hid (hb.andThen b5)
        have bd : Below W5.heap.size W5 W5.drew := ⟨rfl, rfl, rfl, Nat.le_refl _, fun _ _ => rfl⟩
        have q0 := fun d os => cell_regrown z0 d os
        have q1 := fun d os => cell_regrown z1 d os
        have q2 := fun d os => cell_regrown z2 d os
        have q3 := fun d os => cell_regrown z3 d os
        have q4 := fun d os => cell_regrown z4 d os
        have HC := Lib.hid (show strB (headT M k ++ catB (shelfT M k) c) ++ strB (shelfT M k c) = strB (headT M k ++ catB (shelfT M k) (c + 1)) by rw [strB_append, catB, List.append_assoc])
        have HY := Lib.hid (shelfT_len HNO.out hk HU.out hlt)
        have HSR := Lib.hid (HNO.out.sheF k c hk HU.out hlt)
        have HSH := Lib.hid (show lineB [115, 104, 101, 108, 102] [(k : Int), (c : Int), (she M k c).floor, bitM (she M k c).on, (she M k c).v, (she M k c).w, (she M k c).sum] = shelfT M k c from rfl)
        have hX1 : ((headT M k ++ catB (shelfT M k) c).length : Int) ≤ 1000 := by have := HX.out; omega
        have hY1 : ((shelfT M k c).length : Int) ≤ 200 := by have := HY.out; omega
        clear kz s5 f0 f1 f2 f3 f4 y8 y9 y10 y11 y12 y13 p0 p1 p2 p3 p4 p5 z0 z1 z2 z3 z4 b5 hb
        refine region_or [false, false, false, false, false, false, false, false, false, false, false, false, false, true, true, true, false, false] [0, 1, 2, 3, 4, 5, 6, 8, 9, 10, 11, 12, 13, 7, 14, 15, 16, 17] (by kernel_rfl) (by kernel_rfl) rfl (by kernel_rfl) (by kernel_rfl) ?_
        simp only [permL, List.getElem?_cons_zero, List.getElem?_cons_succ, Option.toList_some, List.cons_append, List.nil_append]
        repeat (first | (refine wpR_skip (by rfl) ?_; simp only [Act.put, List.setIfInBounds_toArray, List.set_cons_zero, List.set_cons_succ]) | (refine wpR_det (by rfl) (fun K hK => ?_); go_big_quiet_op; refine hK _ ?_; clear hK K))
        refine wpR_bar (by rfl) (fun K hK => ?_)
        go_big_op
        go_at_call 32
        refine (sBit_any _ _).mono ?_
        rintro e w' ⟨rfl, rfl⟩
        refine hK _ _ (regrown_of_below bd) ?_
        clear hK K
        refine wpR_bar (by rfl) (fun K hK => ?_)
        go_big_op
        refine hK _ _ (regrown_of_below (bd.andThen ((Below.refl _ _).alloc (Nat.le_refl _) _))) ?_
        clear hK K
        refine wpR_bar (by rfl) (fun K hK => ?_)
        go_big_op
        go_at_call 31
        refine (sRow_any ⟨#[115, 104, 101, 108, 102]⟩ _ _ [(k : Int), (c : Int), (she M k c).floor, bitM (she M k c).on, (she M k c).v, (she M k c).w, (she M k c).sum] _ (IntS.fresh _ _ _ rfl _) (by decide) (by simp) HSR.out).mono ?_
        rintro e w6 ⟨rfl, hb6⟩
        rw [show (⟨#[115, 104, 101, 108, 102]⟩ : ByteArray).data.toList = [115, 104, 101, 108, 102] from rfl, HSH.out]
        refine hK _ _ (regrown_of_below ((bd.andThen ((Below.refl _ _).alloc (Nat.le_refl _) _)).andThen hb6)) ?_
        clear hK K
        generalize headT M k ++ catB (shelfT M k) c = X at *
        generalize shelfT M k c = Y at *
        repeat (first | (refine wpR_skip (by rfl) ?_; simp only [Act.put, List.setIfInBounds_toArray, List.set_cons_zero, List.set_cons_succ]) | (refine wpR_det (by rfl) (fun K hK => ?_); go_big_quiet_op; refine hK _ ?_; clear hK K))
        refine wpR_nil ?_
        go_wp2
        skip
        go_roundw
        case rel => exact ⟨c + 1, by omega, by go_num, str_eq HC.out, HBEL.out.andThen ((bd.andThen ((Below.refl _ _).alloc (Nat.le_refl _) _)).andThen hb6)⟩
        case measure => simp [intOf]; omega
      · have hcl : c = (grp M k).shelves.length := by omega
        have HT := Lib.hid (show headT M k ++ catB (shelfT M k) c ++ bandT k (grp M k).band = groupT M k by rw [hcl]; rfl)
        have hge : ((grp M k).shelves.length : Int) ≤ (c : Int) := by omega
        have hdec : decide ((c : Int) < ((grp M k).shelves.length : Int)) = false := decide_eq_false (by omega)
        have HBEL := Lib.hid (bel3.out.andThen hb)
        clear hlt hcl hc
        have hX1 : ((headT M k ++ catB (shelfT M k) c).length : Int) ≤ 1000 := by have := HX.out; omega
        generalize headT M k ++ catB (shelfT M k) c = X at *
        by_cases hq : 0 < (grp M k).band.quota
        · have HQ := Lib.hid hq
          have hdq : decide (0 < (grp M k).band.quota) = true := decide_eq_true hq
          have HB := Lib.hid (show bandT k (grp M k).band = lineB [98, 97, 110, 100] (bandN k (grp M k).band (grp M k).band.locals.length) by rw [bandT, if_pos hq])
          have hbd := HFA.out.gok.dry k hk HU.out hq
          have HLC := Lib.hid (show (grp M k).band.locals.length ≤ 4 by have := HFA.out.c4; omega)
          have HDL := Lib.hid (show (grp M k).band.dry.length = (grp M k).band.locals.length by omega)
          clear hbd
          go_upto_region 13 with (fail)
          have HR0 := Lib.hid (World.ownsRow_lit (base := wr.heap.size) (e := 3) (size := 1) wr #[.int .i64 (k : Int), .int .i64 (grp M k).band.quota, .int .i64 (grp M k).band.pool, .int .i64 (grp M k).band.spent] 4 (Nat.le_refl _) (by decide) rfl)
          obtain ⟨i0, hi, hz0, hz1, hz2⟩ := info_parts infoInt
          have bwr : Below wr.heap.size wr (wr.alloc (.cells #[.int .i64 (k : Int), .int .i64 (grp M k).band.quota, .int .i64 (grp M k).band.pool, .int .i64 (grp M k).band.spent] 3)) := (Below.refl _ _).alloc (Nat.le_refl _) _
          have PWR := PW4
          have HXR := Lib.hid hx
          have Y11 := Lib.hid y11
          have Y12 := Lib.hid y12
          have e11 := (bwr.cell (p := ⟨W.heap.size, 11, none⟩) hx).trans y11
          clear y8 y9 y10 y11 y12 y13 hq
          go_wp2
          obtain ⟨wq, hwq⟩ : ∃ wq, wr.alloc (.cells #[.int .i64 (k : Int), .int .i64 (grp M k).band.quota, .int .i64 (grp M k).band.pool, .int .i64 (grp M k).band.spent] 3) = wq := ⟨_, rfl⟩
          rw [hwq] at bwr HR0 ⊢
          have hwb := Lib.hid hwq
          clear hwq e11
          obtain ⟨wo, hwo⟩ : ∃ wo : World, wo = wr := ⟨_, rfl⟩
          subst hwo
          go_loopw [10, 11] (fun l i wr => ∃ c2 : Nat, c2 ≤ (grp M k).band.locals.length ∧ i = .int .i64 c2 ∧ wr.ownsRow wo.heap.size 3 1 l (bandN k (grp M k).band c2).length ((bandN k (grp M k).band c2).map (Value.int .i64)) ∧ Below wo.heap.size wo wr) (fun _ i _ => (grp M k).band.locals.length - (intOf i).toNat)
          case atStart => exact ⟨0, by omega, rfl, by simpa [bandN, pairsN] using HR0.out, bwr⟩
          case round =>
            obtain ⟨c2, hc2, rfl, hown, hb2⟩ := hrel
            have e11 := (hb2.cell (p := ⟨W.heap.size, 11, none⟩) hx).trans Y11.out
            have e12 := (hb2.cell (p := ⟨W.heap.size, 12, none⟩) hx).trans Y12.out
            have HL2 := Lib.hid (show (bandN k (grp M k).band c2).length ≤ 12 by rw [bandN_len]; have := HLC.out; omega)
            by_cases hlt2 : c2 < (grp M k).band.locals.length
            · have pw5 := (PWR.out.keep hb2)
              obtain ⟨p0, p1, p2, p3, p4, p5⟩ := pw5
              obtain ⟨bl, ol, el, hBl, l0⟩ := p5.local_ hlg hlt2
              obtain ⟨bd2, od, ed, hBd, d0⟩ := p5.dry_ hlg (k := c2) (by rw [HDL.out]; exact hlt2)
              have ED := Lib.hid ed
              have d0q := d0
              obtain ⟨lv, hlv⟩ : ∃ lv, (grp M k).band.locals.getD c2 0 = lv := ⟨_, rfl⟩
              obtain ⟨dv, hdv⟩ : ∃ dv, (grp M k).band.dry.getD c2 false = dv := ⟨_, rfl⟩
              rw [hlv] at l0
              rw [hdv] at d0
              have HLV := Lib.hid hlv
              have HDV := Lib.hid hdv
              clear hlv hdv d0q
              rw [el] at e11
              rw [ed] at e12
              have hj0 : (0 : Int) ≤ (c2 : Int) := by omega
              have hj1 : (c2 : Int) < ((grp M k).band.locals.length : Int) := by omega
              have hj9 : (c2 : Int) < 9 := by have := HLC.out; omega
              have hj2 : (c2 : Int) < ((grp M k).band.dry.length : Int) := by rw [HDL.out]; omega
              have hsz2 := hb2.size
              clear p0 p1 p2 p3 p4 p5 el ed
              go_upto_region 17 with (at_builtin; refine wpList_append_own _ rfl _ _ 45 rfl wo.heap.size 3 i0 (.int .i64 0) 1 8 Tryz.underlying45 hi hz0 hz1 hz2 rfl (by decide) _ (bandN k (grp M k).band c2).length _ rfl (hown.alloc _) ⟨wr.heap.size, 0, none⟩ 1 1 [.int .i64 lv] rfl rfl (one_new _ _ _) (by intro u hu; simp at hu; subst hu; rfl) (by unfold maxLen; have := HL2.out; omega) (by have := HL2.out; omega) (by simp; omega) ?_; intro vA w4 hownA hgrowA _)
              have hb3 : Below wo.heap.size wo w4 := (hb2.alloc hsz2 _).grown hgrowA (by simp; omega) (fun j e => (hown.lt j e).1)
              have hA := hgrowA.size
              have hsz3 := hb3.size
              have e12 := (hb3.cell (p := ⟨W.heap.size, 12, none⟩) hx).trans Y12.out
              rw [ED.out] at e12
              have pw6 := (PWR.out.keep hb3)
              obtain ⟨p0, p1, p2, p3, p4, p5⟩ := pw6
              obtain ⟨bd3, od3, ed3, hBd3, d0⟩ := p5.dry_ hlg (k := c2) (by rw [HDL.out]; exact hlt2)
              rw [HDV.out] at d0
              rw [ED.out] at ed3
              obtain ⟨rfl, rfl⟩ : bd2 = bd3 ∧ od = od3 := by injection ed3 with e; injection e with e1 e2; exact ⟨e1, e2⟩
              clear p0 p1 p2 p3 p4 p5 ed3 hBd l0 hBl e11
              go_wp2_with (first | (go_at_call 32; refine (sBit_any _ _).mono ?_; rintro e w' ⟨rfl, rfl⟩) | (at_builtin; refine wpList_append_own _ rfl _ _ 45 rfl wo.heap.size 3 i0 (.int .i64 0) 1 8 Tryz.underlying45 hi hz0 hz1 hz2 rfl (by decide) _ ((bandN k (grp M k).band c2).length + 1) _ rfl (hownA.alloc _) ⟨w4.heap.size, 0, none⟩ 1 1 [.int .i64 (bitM dv)] rfl rfl (one_new _ _ _) (by intro u hu; simp at hu; subst hu; rfl) (by unfold maxLen; have := HL2.out; omega) (by have := HL2.out; omega) (by simp; omega) ?_; intro vB w5 hownB hgrowB _))
              have hb5 : Below wo.heap.size wo w5 := (hb3.alloc hsz3 _).grown hgrowB (by simp; omega) (fun j e => (hownA.lt j e).1)
              go_roundw
              case rel => exact ⟨c2 + 1, by omega, by go_num, by rw [bandN_snoc, HLV.out, HDV.out]; simpa using hownB, hb5⟩
              case measure => simp [intOf]; omega
            · have hcl : c2 = (grp M k).band.locals.length := by omega
              have hge2 : ((grp M k).band.locals.length : Int) ≤ (c2 : Int) := by omega
              have HO := Lib.hid hown
              obtain ⟨al, cl, rfl⟩ := row_form hown
              have HFB := Lib.hid (HNO.out.bandF k hk HU.out HQ.out c2 hc2)
              have HB2 := Lib.hid (show lineB [98, 97, 110, 100] (bandN k (grp M k).band c2) = bandT k (grp M k).band by rw [hcl, HB.out])
              have HY := Lib.hid (show (bandT k (grp M k).band).length ≤ 300 by rw [← HB2.out]; have := lineB_len (w := [98, 97, 110, 100]) HFB.out; have := HL2.out; simp only [List.length_cons, List.length_nil] at *; omega)
              have hY1 : ((bandT k (grp M k).band).length : Int) ≤ 300 := by have := HY.out; omega
              clear hlt2 hcl hown hc2
              go_wp2_with (go_at_call 31; refine (sRow_any ⟨#[98, 97, 110, 100]⟩ _ _ _ _ (IntS.own HO.out) (by decide) (by have := HL2.out; omega) HFB.out).mono ?_; rintro e w6 ⟨rfl, hb6⟩; rw [show (⟨#[98, 97, 110, 100]⟩ : ByteArray).data.toList = [98, 97, 110, 100] from rfl, HB2.out])
              go_ret
              exact ⟨ret_str (by rw [strB_append, ← HT.out]), HBEL.out.andThen (hb2.andThen hb6)⟩
        · have HB := Lib.hid (show bandT k (grp M k).band = [] by rw [bandT, if_neg hq])
          have hq2 : (grp M k).band.quota ≤ 0 := by omega
          clear hq
          go_wp2
          go_ret
          exact ⟨ret_str (by rw [← HT.out, HB.out, List.append_nil]), HBEL.out⟩
  · have hz : ((k : Int) == 0) = false := by simp [h0]
    have hnm : ((grp M k).name : ByteArray).data.toList = nameT M k := by rw [nameT, if_neg h0]
    have hns : ((grp M k).name : ByteArray).size ≤ 8 := by exact HNO.out.nameF k hk h0 HU.out
    have HNM := Lib.hid hnm
    clear hnm
    clear h0
    go_upto_region 6 with (go_at_call 31; refine (sRow_any _ _ _ [(k : Int), (grp M k).parent, (grp M k).weight, (grp M k).cpus, (grp M k).period, (grp M k).next, (grp M k).sum] _ (IntS.fresh0 _ _ _ rfl _) (by rw [ByteArray.size_append']; have : (⟨#[103, 114, 111, 117, 112, 32]⟩ : ByteArray).size = 6 := rfl; omega) (by simp) (HNO.out.grpF k hk HU.out)).mono ?_; rintro e w3 ⟨rfl, hb3⟩; rw [head_name, show ((grp M k).name : ByteArray).data.toList = nameT M k from HNM.out, show lineB ([103, 114, 111, 117, 112, 32] ++ nameT M k) [(k : Int), (grp M k).parent, (grp M k).weight, (grp M k).cpus, (grp M k).period, (grp M k).next, (grp M k).sum] = headT M k from rfl])
    have hb3' := ((Below.refl _ W2).alloc (Nat.le_refl _) _).andThen hb3
    have y8 := (hb3'.cell (p := ⟨W.heap.size, 8, none⟩) hx).trans y8
    have y9 := (hb3'.cell (p := ⟨W.heap.size, 9, none⟩) hx).trans y9
    have y10 := (hb3'.cell (p := ⟨W.heap.size, 10, none⟩) hx).trans y10
    have y11 := (hb3'.cell (p := ⟨W.heap.size, 11, none⟩) hx).trans y11
    have y12 := (hb3'.cell (p := ⟨W.heap.size, 12, none⟩) hx).trans y12
    have y13 := (hb3'.cell (p := ⟨W.heap.size, 13, none⟩) hx).trans y13
    have hx := Nat.lt_of_lt_of_le hx hb3'.size
    have PW3 := Lib.hid (PW2.out.keep hb3')
    have bel3 := Lib.hid (bel.out.andThen hb3')
    clear hb3 hb3' PW2 bel
    go_wp2
    go_loopw [7, 8] (fun t i wr => ∃ c : Nat, c ≤ (grp M k).shelves.length ∧ i = .int .i64 c ∧ t = .string (strB (headT M k ++ catB (shelfT M k) c)) ∧ Below w3.heap.size w3 wr) (fun _ i _ => (grp M k).shelves.length - (intOf i).toNat)
    case atStart => exact ⟨0, by omega, rfl, str_eq (by rw [catB, List.append_nil]), Below.refl _ _⟩
    case round =>
      obtain ⟨c, hc, rfl, rfl, hb⟩ := hrel
      have y8 := (hb.cell (p := ⟨W.heap.size, 8, none⟩) hx).trans y8
      have y9 := (hb.cell (p := ⟨W.heap.size, 9, none⟩) hx).trans y9
      have y10 := (hb.cell (p := ⟨W.heap.size, 10, none⟩) hx).trans y10
      have y11 := (hb.cell (p := ⟨W.heap.size, 11, none⟩) hx).trans y11
      have y12 := (hb.cell (p := ⟨W.heap.size, 12, none⟩) hx).trans y12
      have y13 := (hb.cell (p := ⟨W.heap.size, 13, none⟩) hx).trans y13
      have hx := Nat.lt_of_lt_of_le hx hb.size
      have PW4 := Lib.hid (PW3.out.keep hb)
      have HX := Lib.hid (show (headT M k ++ catB (shelfT M k) c).length ≤ 1000 by rw [List.length_append]; have := headT_len HNO.out hk HU.out; have := catB_len (f := shelfT M k) (B := 200) c (fun j hj => shelfT_len HNO.out hk HU.out (by omega)); have := HFA.out.gok.she k hk HU.out; have := HFA.out.c4; omega)
      by_cases hlt : c < (grp M k).shelves.length
      · have pw4 := PW4.out
        obtain ⟨p0, p1, p2, p3, p4, p5⟩ := pw4
        obtain ⟨bs, os, es, hBs, f0, f1, f2, f3, f4⟩ := p5.shelf_ hlg hlt
        rw [es] at y13
        have hc0 : (0 : Int) ≤ (c : Int) := by omega
        have hc9 : (c : Int) < 9 := by have := HFA.out.gok.she k hk HU.out; have := HFA.out.c4; omega
        have hc1 : (c : Int) < ((grp M k).shelves.length : Int) := by omega
        go_upto_region 10 with (fail)
        refine gen1 (p := fun W => Code.wp _ _ _ _ W) ?_
        intro W5 b5 s5 kz
        have z0 := kz.cell 0
        have z1 := kz.cell 1
        have z2 := kz.cell 2
        have z3 := kz.cell 3
        have z4 := kz.cell 4
        simp at z0 z1 z2 z3 z4
        have hz := kz.lt
        have HBEL := Lib.hid (hb.andThen b5)
        have bd : Below W5.heap.size W5 W5.drew := ⟨rfl, rfl, rfl, Nat.le_refl _, fun _ _ => rfl⟩
        have q0 := fun d os => cell_regrown z0 d os
        have q1 := fun d os => cell_regrown z1 d os
        have q2 := fun d os => cell_regrown z2 d os
        have q3 := fun d os => cell_regrown z3 d os
        have q4 := fun d os => cell_regrown z4 d os
        have HC := Lib.hid (show strB (headT M k ++ catB (shelfT M k) c) ++ strB (shelfT M k c) = strB (headT M k ++ catB (shelfT M k) (c + 1)) by rw [strB_append, catB, List.append_assoc])
        have HY := Lib.hid (shelfT_len HNO.out hk HU.out hlt)
        have HSR := Lib.hid (HNO.out.sheF k c hk HU.out hlt)
        have HSH := Lib.hid (show lineB [115, 104, 101, 108, 102] [(k : Int), (c : Int), (she M k c).floor, bitM (she M k c).on, (she M k c).v, (she M k c).w, (she M k c).sum] = shelfT M k c from rfl)
        have hX1 : ((headT M k ++ catB (shelfT M k) c).length : Int) ≤ 1000 := by have := HX.out; omega
        have hY1 : ((shelfT M k c).length : Int) ≤ 200 := by have := HY.out; omega
        clear kz s5 f0 f1 f2 f3 f4 y8 y9 y10 y11 y12 y13 p0 p1 p2 p3 p4 p5 z0 z1 z2 z3 z4 b5 hb
        refine region_or [false, false, false, false, false, false, false, false, false, false, false, false, false, true, true, true, false, false] [0, 1, 2, 3, 4, 5, 6, 8, 9, 10, 11, 12, 13, 7, 14, 15, 16, 17] (by kernel_rfl) (by kernel_rfl) rfl (by kernel_rfl) (by kernel_rfl) ?_
        simp only [permL, List.getElem?_cons_zero, List.getElem?_cons_succ, Option.toList_some, List.cons_append, List.nil_append]
        repeat (first | (refine wpR_skip (by rfl) ?_; simp only [Act.put, List.setIfInBounds_toArray, List.set_cons_zero, List.set_cons_succ]) | (refine wpR_det (by rfl) (fun K hK => ?_); go_big_quiet_op; refine hK _ ?_; clear hK K))
        refine wpR_bar (by rfl) (fun K hK => ?_)
        go_big_op
        go_at_call 32
        refine (sBit_any _ _).mono ?_
        rintro e w' ⟨rfl, rfl⟩
        refine hK _ _ (regrown_of_below bd) ?_
        clear hK K
        refine wpR_bar (by rfl) (fun K hK => ?_)
        go_big_op
        refine hK _ _ (regrown_of_below (bd.andThen ((Below.refl _ _).alloc (Nat.le_refl _) _))) ?_
        clear hK K
        refine wpR_bar (by rfl) (fun K hK => ?_)
        go_big_op
        go_at_call 31
        refine (sRow_any ⟨#[115, 104, 101, 108, 102]⟩ _ _ [(k : Int), (c : Int), (she M k c).floor, bitM (she M k c).on, (she M k c).v, (she M k c).w, (she M k c).sum] _ (IntS.fresh _ _ _ rfl _) (by decide) (by simp) HSR.out).mono ?_
        rintro e w6 ⟨rfl, hb6⟩
        rw [show (⟨#[115, 104, 101, 108, 102]⟩ : ByteArray).data.toList = [115, 104, 101, 108, 102] from rfl, HSH.out]
        refine hK _ _ (regrown_of_below ((bd.andThen ((Below.refl _ _).alloc (Nat.le_refl _) _)).andThen hb6)) ?_
        clear hK K
        generalize headT M k ++ catB (shelfT M k) c = X at *
        generalize shelfT M k c = Y at *
        repeat (first | (refine wpR_skip (by rfl) ?_; simp only [Act.put, List.setIfInBounds_toArray, List.set_cons_zero, List.set_cons_succ]) | (refine wpR_det (by rfl) (fun K hK => ?_); go_big_quiet_op; refine hK _ ?_; clear hK K))
        refine wpR_nil ?_
        go_wp2
        skip
        go_roundw
        case rel => exact ⟨c + 1, by omega, by go_num, str_eq HC.out, HBEL.out.andThen ((bd.andThen ((Below.refl _ _).alloc (Nat.le_refl _) _)).andThen hb6)⟩
        case measure => simp [intOf]; omega
      · have hcl : c = (grp M k).shelves.length := by omega
        have HT := Lib.hid (show headT M k ++ catB (shelfT M k) c ++ bandT k (grp M k).band = groupT M k by rw [hcl]; rfl)
        have hge : ((grp M k).shelves.length : Int) ≤ (c : Int) := by omega
        have hdec : decide ((c : Int) < ((grp M k).shelves.length : Int)) = false := decide_eq_false (by omega)
        have HBEL := Lib.hid (bel3.out.andThen hb)
        clear hlt hcl hc
        have hX1 : ((headT M k ++ catB (shelfT M k) c).length : Int) ≤ 1000 := by have := HX.out; omega
        generalize headT M k ++ catB (shelfT M k) c = X at *
        by_cases hq : 0 < (grp M k).band.quota
        · have HQ := Lib.hid hq
          have hdq : decide (0 < (grp M k).band.quota) = true := decide_eq_true hq
          have HB := Lib.hid (show bandT k (grp M k).band = lineB [98, 97, 110, 100] (bandN k (grp M k).band (grp M k).band.locals.length) by rw [bandT, if_pos hq])
          have hbd := HFA.out.gok.dry k hk HU.out hq
          have HLC := Lib.hid (show (grp M k).band.locals.length ≤ 4 by have := HFA.out.c4; omega)
          have HDL := Lib.hid (show (grp M k).band.dry.length = (grp M k).band.locals.length by omega)
          clear hbd
          go_upto_region 13 with (fail)
          have HR0 := Lib.hid (World.ownsRow_lit (base := wr.heap.size) (e := 3) (size := 1) wr #[.int .i64 (k : Int), .int .i64 (grp M k).band.quota, .int .i64 (grp M k).band.pool, .int .i64 (grp M k).band.spent] 4 (Nat.le_refl _) (by decide) rfl)
          obtain ⟨i0, hi, hz0, hz1, hz2⟩ := info_parts infoInt
          have bwr : Below wr.heap.size wr (wr.alloc (.cells #[.int .i64 (k : Int), .int .i64 (grp M k).band.quota, .int .i64 (grp M k).band.pool, .int .i64 (grp M k).band.spent] 3)) := (Below.refl _ _).alloc (Nat.le_refl _) _
          have PWR := PW4
          have HXR := Lib.hid hx
          have Y11 := Lib.hid y11
          have Y12 := Lib.hid y12
          have e11 := (bwr.cell (p := ⟨W.heap.size, 11, none⟩) hx).trans y11
          clear y8 y9 y10 y11 y12 y13 hq
          go_wp2
          obtain ⟨wq, hwq⟩ : ∃ wq, wr.alloc (.cells #[.int .i64 (k : Int), .int .i64 (grp M k).band.quota, .int .i64 (grp M k).band.pool, .int .i64 (grp M k).band.spent] 3) = wq := ⟨_, rfl⟩
          rw [hwq] at bwr HR0 ⊢
          have hwb := Lib.hid hwq
          clear hwq e11
          obtain ⟨wo, hwo⟩ : ∃ wo : World, wo = wr := ⟨_, rfl⟩
          subst hwo
          go_loopw [10, 11] (fun l i wr => ∃ c2 : Nat, c2 ≤ (grp M k).band.locals.length ∧ i = .int .i64 c2 ∧ wr.ownsRow wo.heap.size 3 1 l (bandN k (grp M k).band c2).length ((bandN k (grp M k).band c2).map (Value.int .i64)) ∧ Below wo.heap.size wo wr) (fun _ i _ => (grp M k).band.locals.length - (intOf i).toNat)
          case atStart => exact ⟨0, by omega, rfl, by simpa [bandN, pairsN] using HR0.out, bwr⟩
          case round =>
            obtain ⟨c2, hc2, rfl, hown, hb2⟩ := hrel
            have e11 := (hb2.cell (p := ⟨W.heap.size, 11, none⟩) hx).trans Y11.out
            have e12 := (hb2.cell (p := ⟨W.heap.size, 12, none⟩) hx).trans Y12.out
            have HL2 := Lib.hid (show (bandN k (grp M k).band c2).length ≤ 12 by rw [bandN_len]; have := HLC.out; omega)
            by_cases hlt2 : c2 < (grp M k).band.locals.length
            · have pw5 := (PWR.out.keep hb2)
              obtain ⟨p0, p1, p2, p3, p4, p5⟩ := pw5
              obtain ⟨bl, ol, el, hBl, l0⟩ := p5.local_ hlg hlt2
              obtain ⟨bd2, od, ed, hBd, d0⟩ := p5.dry_ hlg (k := c2) (by rw [HDL.out]; exact hlt2)
              have ED := Lib.hid ed
              have d0q := d0
              obtain ⟨lv, hlv⟩ : ∃ lv, (grp M k).band.locals.getD c2 0 = lv := ⟨_, rfl⟩
              obtain ⟨dv, hdv⟩ : ∃ dv, (grp M k).band.dry.getD c2 false = dv := ⟨_, rfl⟩
              rw [hlv] at l0
              rw [hdv] at d0
              have HLV := Lib.hid hlv
              have HDV := Lib.hid hdv
              clear hlv hdv d0q
              rw [el] at e11
              rw [ed] at e12
              have hj0 : (0 : Int) ≤ (c2 : Int) := by omega
              have hj1 : (c2 : Int) < ((grp M k).band.locals.length : Int) := by omega
              have hj9 : (c2 : Int) < 9 := by have := HLC.out; omega
              have hj2 : (c2 : Int) < ((grp M k).band.dry.length : Int) := by rw [HDL.out]; omega
              have hsz2 := hb2.size
              clear p0 p1 p2 p3 p4 p5 el ed
              go_upto_region 17 with (at_builtin; refine wpList_append_own _ rfl _ _ 45 rfl wo.heap.size 3 i0 (.int .i64 0) 1 8 Tryz.underlying45 hi hz0 hz1 hz2 rfl (by decide) _ (bandN k (grp M k).band c2).length _ rfl (hown.alloc _) ⟨wr.heap.size, 0, none⟩ 1 1 [.int .i64 lv] rfl rfl (one_new _ _ _) (by intro u hu; simp at hu; subst hu; rfl) (by unfold maxLen; have := HL2.out; omega) (by have := HL2.out; omega) (by simp; omega) ?_; intro vA w4 hownA hgrowA _)
              have hb3 : Below wo.heap.size wo w4 := (hb2.alloc hsz2 _).grown hgrowA (by simp; omega) (fun j e => (hown.lt j e).1)
              have hA := hgrowA.size
              have hsz3 := hb3.size
              have e12 := (hb3.cell (p := ⟨W.heap.size, 12, none⟩) hx).trans Y12.out
              rw [ED.out] at e12
              have pw6 := (PWR.out.keep hb3)
              obtain ⟨p0, p1, p2, p3, p4, p5⟩ := pw6
              obtain ⟨bd3, od3, ed3, hBd3, d0⟩ := p5.dry_ hlg (k := c2) (by rw [HDL.out]; exact hlt2)
              rw [HDV.out] at d0
              rw [ED.out] at ed3
              obtain ⟨rfl, rfl⟩ : bd2 = bd3 ∧ od = od3 := by injection ed3 with e; injection e with e1 e2; exact ⟨e1, e2⟩
              clear p0 p1 p2 p3 p4 p5 ed3 hBd l0 hBl e11
              go_wp2_with (first | (go_at_call 32; refine (sBit_any _ _).mono ?_; rintro e w' ⟨rfl, rfl⟩) | (at_builtin; refine wpList_append_own _ rfl _ _ 45 rfl wo.heap.size 3 i0 (.int .i64 0) 1 8 Tryz.underlying45 hi hz0 hz1 hz2 rfl (by decide) _ ((bandN k (grp M k).band c2).length + 1) _ rfl (hownA.alloc _) ⟨w4.heap.size, 0, none⟩ 1 1 [.int .i64 (bitM dv)] rfl rfl (one_new _ _ _) (by intro u hu; simp at hu; subst hu; rfl) (by unfold maxLen; have := HL2.out; omega) (by have := HL2.out; omega) (by simp; omega) ?_; intro vB w5 hownB hgrowB _))
              have hb5 : Below wo.heap.size wo w5 := (hb3.alloc hsz3 _).grown hgrowB (by simp; omega) (fun j e => (hownA.lt j e).1)
              go_roundw
              case rel => exact ⟨c2 + 1, by omega, by go_num, by rw [bandN_snoc, HLV.out, HDV.out]; simpa using hownB, hb5⟩
              case measure => simp [intOf]; omega
            · have hcl : c2 = (grp M k).band.locals.length := by omega
              have hge2 : ((grp M k).band.locals.length : Int) ≤ (c2 : Int) := by omega
              have HO := Lib.hid hown
              obtain ⟨al, cl, rfl⟩ := row_form hown
              have HFB := Lib.hid (HNO.out.bandF k hk HU.out HQ.out c2 hc2)
              have HB2 := Lib.hid (show lineB [98, 97, 110, 100] (bandN k (grp M k).band c2) = bandT k (grp M k).band by rw [hcl, HB.out])
              have HY := Lib.hid (show (bandT k (grp M k).band).length ≤ 300 by rw [← HB2.out]; have := lineB_len (w := [98, 97, 110, 100]) HFB.out; have := HL2.out; simp only [List.length_cons, List.length_nil] at *; omega)
              have hY1 : ((bandT k (grp M k).band).length : Int) ≤ 300 := by have := HY.out; omega
              clear hlt2 hcl hown hc2
              go_wp2_with (go_at_call 31; refine (sRow_any ⟨#[98, 97, 110, 100]⟩ _ _ _ _ (IntS.own HO.out) (by decide) (by have := HL2.out; omega) HFB.out).mono ?_; rintro e w6 ⟨rfl, hb6⟩; rw [show (⟨#[98, 97, 110, 100]⟩ : ByteArray).data.toList = [98, 97, 110, 100] from rfl, HB2.out])
              go_ret
              exact ⟨ret_str (by rw [strB_append, ← HT.out]), HBEL.out.andThen (hb2.andThen hb6)⟩
        · have HB := Lib.hid (show bandT k (grp M k).band = [] by rw [bandT, if_neg hq])
          have hq2 : (grp M k).band.quota ≤ 0 := by omega
          clear hq
          go_wp2
          go_ret
          exact ⟨ret_str (by rw [← HT.out, HB.out, List.append_nil]), HBEL.out⟩
end
end Go.Proofs.YtomllcclallcdaaGreatDoor
namespace Go.Proofs.YtomllcclallcdaaGreatDoor
section
open Go.RowKit Go.Sort
attribute [local go_sem] strB_size
theorem cpuT_len {M : WorldM} (NO : NumOk M) {c : Nat} (hc : c < M.cpus.length) : (cpuT M c).length ≤ 200 := by
  have h1 := lineB_len (w := [99, 112, 117]) (NO.cpuF c hc)
  simp only [List.length_cons, List.length_nil] at h1
  unfold cpuT
  omega
theorem taskT_len {M : WorldM} (NO : NumOk M) {t : Nat} (ht : t < M.tasks.length) (hst : (tsk M t).st ≠ 0) : (taskT M t).length ≤ 300 := by
  have h1 := lineB_len (w := [116, 97, 115, 107]) (NO.tskF t ht hst)
  simp only [List.length_cons, List.length_nil] at h1
  unfold taskT
  omega
theorem bandT_len {M : WorldM} (FA : Facts M) (NO : NumOk M) {k : Nat} (hk : k < 8) (hu : (grp M k).used = true) : (bandT k (grp M k).band).length ≤ 300 := by
  unfold bandT
  split
  · rename_i hq
    have h1 := lineB_len (w := [98, 97, 110, 100]) (NO.bandF k hk hu hq (grp M k).band.locals.length (Nat.le_refl _))
    have h2 := FA.gok.dry k hk hu hq
    have := FA.c4
    rw [bandN_len] at h1
    simp only [List.length_cons, List.length_nil] at h1
    omega
  · simp
theorem groupT_len {M : WorldM} (FA : Facts M) (NO : NumOk M) {k : Nat} (hk : k < 8) (hu : (grp M k).used = true) : (groupT M k).length ≤ 1300 := by
  have h1 := headT_len NO hk hu
  have h2 := catB_len (f := shelfT M k) (B := 200) _ (fun j hj => shelfT_len NO hk hu hj)
  have h3 := bandT_len FA NO hk hu
  have h4 := FA.gok.she k hk hu
  have := FA.c4
  simp only [groupT, List.length_append]
  omega
def preC (M : WorldM) (c : Nat) : List UInt8 := lineB [110, 111, 119] [M.now] ++ catB (cpuT M) c
def preG (M : WorldM) (k : Nat) : List UInt8 := preC M M.cpus.length ++ groupsT M k
def preT (M : WorldM) (t : Nat) : List UInt8 := preG M M.groups.length ++ tasksT M t
theorem preC_succ (M : WorldM) (c : Nat) : preC M (c + 1) = preC M c ++ cpuT M c := by simp [preC, catB]
theorem preG_t {M : WorldM} {k : Nat} (h : (grp M k).used = true) : preG M (k + 1) = preG M k ++ groupT M k := by simp [preG, groupsT, catB, h]
theorem preG_f {M : WorldM} {k : Nat} (h : (grp M k).used = false) : preG M (k + 1) = preG M k := by simp [preG, groupsT, catB, h]
theorem preT_t {M : WorldM} {t : Nat} (h : (tsk M t).st ≠ 0) : preT M (t + 1) = preT M t ++ taskT M t := by simp [preT, tasksT, catB, h]
theorem preT_f {M : WorldM} {t : Nat} (h : (tsk M t).st = 0) : preT M (t + 1) = preT M t := by simp [preT, tasksT, catB, h]
theorem pre_body (M : WorldM) : preT M M.tasks.length = bodyT M := rfl
theorem preC_len {M : WorldM} (FA : Facts M) (NO : NumOk M) {c : Nat} (hc : c ≤ M.cpus.length) : (preC M c).length ≤ 1000 := by
  have h1 := lineB_len (w := [110, 111, 119]) NO.nowF
  have h2 := catB_len (f := cpuT M) (B := 200) c (fun j hj => cpuT_len NO (by omega))
  have := FA.c4
  simp only [preC, List.length_append, List.length_cons, List.length_nil] at *
  omega
theorem preG_len {M : WorldM} (FA : Facts M) (NO : NumOk M) {k : Nat} (hk : k ≤ 8) : (preG M k).length ≤ 12000 := by
  have h1 := preC_len FA NO (Nat.le_refl _)
  have h2 := catB_len (f := fun k => if (grp M k).used = true then groupT M k else []) (B := 1300) k (fun j hj => by
    show (if _ then _ else _ : List UInt8).length ≤ _
    split
    · exact groupT_len FA NO (by omega) (by assumption)
    · simp)
  simp only [preG, groupsT, List.length_append] at *
  omega
theorem preT_len {M : WorldM} (FA : Facts M) (NO : NumOk M) {t : Nat} (ht : t ≤ M.tasks.length) : (preT M t).length ≤ 16000 := by
  have h1 := preG_len FA NO (k := M.groups.length) (by have := FA.tree.len; omega)
  have h2 := catB_len (f := fun t => if (tsk M t).st = 0 then [] else taskT M t) (B := 300) t (fun j hj => by
    show (if _ then _ else _ : List UInt8).length ≤ _
    split
    · simp
    · exact taskT_len NO (by omega) (by assumption))
  have := FA.t12
  simp only [preT, tasksT, List.length_append] at *
  omega
set_option maxRecDepth 100000 in
set_option maxHeartbeats 8000000 in
theorem sText_any (ca : Option Addr) (cc : Nat) (ta : Option Addr) (tc : Nat) (ga : Option Addr) (gc : Nat) (gh : Nat → GH) (M : WorldM) (w : World) (hs : WA w ca ta ga gh M) (hF : FitG M) (hx : NextOk M) :
    Calls Tryz.prog 11 #[.agg #[.int .i64 M.now, .slice ca M.cpus.length cc, .slice ta M.tasks.length tc, .slice ga M.groups.length gc]] w fun e w' => e = .returned (.string (strB (textM M))) ∧ Below w.heap.size w w' := by
  have HX := Lib.hid hx
  clear hx
  go_enter Tryz.func11, Tryz.ntmps11
  go_upto_region 1 with (fail)
  refine PA.gen (P := fun W => Code.wp _ _ _ _ W) hs ?_
  intro W b1 s1 pw
  have hcm := hF.cpu
  have htm := hF.task
  have hgm := hF.group
  have PW0 := Lib.hid pw
  obtain ⟨q0, q1, q2, q3, q4, q5⟩ := pw
  clear s1
  by_cases f1 : worldB M = true
  · have F1 := Lib.hid f1
    clear f1
    have HFA := Lib.hid (facts_of F1.out)
    have HNO := Lib.hid (numOk_of F1.out HX.out)
    have TM := Lib.hid (show textM M = bodyT M by rw [textM, if_pos F1.out])
    go_upto_region 4 with (first | (go_at_call 30; refine (sWorldOk_any ca cc ta tc ga gc gh M _ q5 hF).mono ?_; rintro e w2 ⟨rfl, hb2⟩; rw [F1.out]; have r1 := (hb2.cell (p := ⟨w.heap.size, 0, none⟩) q0).trans q1; have r2 := (hb2.cell (p := ⟨w.heap.size, 1, none⟩) q0).trans q2; have r3 := (hb2.cell (p := ⟨w.heap.size, 2, none⟩) q0).trans q3; have r4 := (hb2.cell (p := ⟨w.heap.size, 3, none⟩) q0).trans q4; have r0 := Nat.lt_of_lt_of_le q0 hb2.size) | (go_at_call 31; refine (sRow_any ⟨#[110, 111, 119]⟩ _ _ [M.now] _ (IntS.fresh0 _ _ _ rfl _) (by decide) (by simp) HNO.out.nowF).mono ?_; rintro e w3 ⟨rfl, hb3⟩; rw [show lineB (⟨#[110, 111, 119]⟩ : ByteArray).data.toList [M.now] = preC M 0 by simp [preC, catB]]))
    have hb3' := hb2.andThen (((Below.refl _ w2).alloc (Nat.le_refl _) _).andThen hb3)
    have PW3 := Lib.hid (PW0.out.keep hb3')
    have bel3 := Lib.hid (b1.andThen hb3')
    clear q0 q1 q2 q3 q4 q5 r0 r1 r2 r3 r4 hb3 hb3' hb2 b1 PW0
    have pw3 := PW3.out
    obtain ⟨q0, q1, q2, q3, q4, q5⟩ := pw3
    go_wp2
    go_loopw [3, 4] (fun t i wr => ∃ c : Nat, c ≤ M.cpus.length ∧ i = .int .i64 c ∧ t = .string (strB (preC M c)) ∧ Below w3.heap.size w3 wr) (fun _ i _ => M.cpus.length - (intOf i).toNat)
    case atStart => exact ⟨0, by omega, rfl, rfl, Below.refl _ _⟩
    case round =>
      obtain ⟨c, hc, rfl, rfl, hb⟩ := hrel
      have PW4 := Lib.hid (PW3.out.keep hb)
      have pw4 := PW4.out
      clear q0 q1 q2 q3 q4 q5
      obtain ⟨q0, q1, q2, q3, q4, q5⟩ := pw4
      have HXL := Lib.hid (preC_len HFA.out HNO.out hc)
      by_cases hlt : c < M.cpus.length
      · obtain ⟨b, o, rfl, hB, c0, c1, c2, c3, c4⟩ := q5.cpu_ hlt
        have hc0 : (0 : Int) ≤ (c : Int) := by omega
        have hc1 : (c : Int) < (M.cpus.length : Int) := by omega
        have hc9 : (c : Int) < 9 := by have := HFA.out.c4; omega
        go_upto_region 8 with (fail)
        refine gen1 (p := fun W => Code.wp _ _ _ _ W) ?_
        intro W5 b5 s5 kz
        have z0 := kz.cell 0
        have z1 := kz.cell 1
        have z2 := kz.cell 2
        have z3 := kz.cell 3
        have z4 := kz.cell 4
        simp at z0 z1 z2 z3 z4
        have HBEL := Lib.hid (hb.andThen b5)
        have bd : Below W5.heap.size W5 W5.drew := ⟨rfl, rfl, rfl, Nat.le_refl _, fun _ _ => rfl⟩
        have q_0 := fun d os => cell_regrown z0 d os
        have q_1 := fun d os => cell_regrown z1 d os
        have q_2 := fun d os => cell_regrown z2 d os
        have q_3 := fun d os => cell_regrown z3 d os
        have q_4 := fun d os => cell_regrown z4 d os
        have HC := Lib.hid (show strB (preC M c) ++ strB (cpuT M c) = strB (preC M (c + 1)) by rw [strB_append, preC_succ])
        have HY := Lib.hid (cpuT_len HNO.out hlt)
        have HSR := Lib.hid (HNO.out.cpuF c hlt)
        have HSH := Lib.hid (show lineB [99, 112, 117] [bitM (cpo M c).up, (cpo M c).cur, (cpo M c).ran, (cpo M c).busy, (cpo M c).idle] = cpuT M c from rfl)
        have hX1 : ((preC M c).length : Int) ≤ 1000 := by have := HXL.out; omega
        have hY1 : ((cpuT M c).length : Int) ≤ 200 := by have := HY.out; omega
        clear kz s5 c0 c1 c2 c3 c4 q0 q1 q2 q3 q4 q5 z0 z1 z2 z3 z4 b5 hb
        refine region_or [false, false, false, false, false, false, false, false, false, false, false, true, true, true, false, false] [0, 1, 2, 4, 5, 6, 7, 8, 9, 10, 11, 3, 12, 13, 14, 15] (by kernel_rfl) (by kernel_rfl) rfl (by kernel_rfl) (by kernel_rfl) ?_
        simp only [permL, List.getElem?_cons_zero, List.getElem?_cons_succ, Option.toList_some, List.cons_append, List.nil_append]
        repeat (first | (refine wpR_skip (by rfl) ?_; simp only [Act.put, List.setIfInBounds_toArray, List.set_cons_zero, List.set_cons_succ]) | (refine wpR_det (by rfl) (fun K hK => ?_); go_big_quiet_op; refine hK _ ?_; clear hK K))
        refine wpR_bar (by rfl) (fun K hK => ?_)
        go_big_op
        go_at_call 32
        refine (sBit_any _ _).mono ?_
        rintro e w' ⟨rfl, rfl⟩
        refine hK _ _ (regrown_of_below bd) ?_
        clear hK K
        refine wpR_bar (by rfl) (fun K hK => ?_)
        go_big_op
        refine hK _ _ (regrown_of_below (bd.andThen ((Below.refl _ _).alloc (Nat.le_refl _) _))) ?_
        clear hK K
        refine wpR_bar (by rfl) (fun K hK => ?_)
        go_big_op
        go_at_call 31
        refine (sRow_any ⟨#[99, 112, 117]⟩ _ _ [bitM (cpo M c).up, (cpo M c).cur, (cpo M c).ran, (cpo M c).busy, (cpo M c).idle] _ (IntS.fresh _ _ _ rfl _) (by decide) (by simp) HSR.out).mono ?_
        rintro e w6 ⟨rfl, hb6⟩
        rw [show (⟨#[99, 112, 117]⟩ : ByteArray).data.toList = [99, 112, 117] from rfl, HSH.out]
        refine hK _ _ (regrown_of_below ((bd.andThen ((Below.refl _ _).alloc (Nat.le_refl _) _)).andThen hb6)) ?_
        clear hK K
        generalize preC M c = X at *
        generalize cpuT M c = Y at *
        repeat (first | (refine wpR_skip (by rfl) ?_; simp only [Act.put, List.setIfInBounds_toArray, List.set_cons_zero, List.set_cons_succ]) | (refine wpR_det (by rfl) (fun K hK => ?_); go_big_quiet_op; refine hK _ ?_; clear hK K))
        refine wpR_nil ?_
        go_wp2
        go_roundw
        case rel => exact ⟨c + 1, by omega, by go_num, str_eq HC.out, HBEL.out.andThen ((bd.andThen ((Below.refl _ _).alloc (Nat.le_refl _) _)).andThen hb6)⟩
        case measure => simp [intOf]; omega
      · have HE := Lib.hid (show preC M c = preG M 0 by rw [show c = M.cpus.length by omega]; simp [preG, groupsT, catB])
        have hge : (M.cpus.length : Int) ≤ (c : Int) := by omega
        have hdec : decide (c < M.cpus.length) = false := decide_eq_false (by omega)
        have bel4 := Lib.hid (bel3.out.andThen hb)
        clear hlt hc hb PW3
        rw [HE.out]
        go_wp2
        clear hge hdec
        obtain ⟨wo, hwo⟩ : ∃ wo : World, wo = wr := ⟨_, rfl⟩
        subst hwo
        go_loopw [3, 6] (fun t i wr => ∃ k : Nat, k ≤ M.groups.length ∧ i = .int .i64 k ∧ t = .string (strB (preG M k)) ∧ Below wo.heap.size wo wr) (fun _ i _ => M.groups.length - (intOf i).toNat)
        case atStart => exact ⟨0, by omega, rfl, rfl, Below.refl _ _⟩
        case round =>
          obtain ⟨k, hk, rfl, rfl, hb⟩ := hrel
          have PW5 := Lib.hid (PW4.out.keep hb)
          have pw5 := PW5.out
          clear q0 q1 q2 q3 q4 q5
          obtain ⟨q0, q1, q2, q3, q4, q5⟩ := pw5
          have HXL := Lib.hid (preG_len HFA.out HNO.out (k := k) (by have := HFA.out.tree.len; omega))
          have hX1 : ((preG M k).length : Int) ≤ 12000 := by have := HXL.out; omega
          by_cases hlt : k < M.groups.length
          · obtain ⟨b, o, rfl, hB, c0, _⟩ := q5.group_ hlt
            have hk8 : k < 8 := by have := HFA.out.tree.len; omega
            have hc0 : (0 : Int) ≤ (k : Int) := by omega
            have hc1 : (k : Int) < (M.groups.length : Int) := by omega
            have hc9 : (k : Int) < 9 := by omega
            cases hu : (grp M k).used with
            | true =>
              have HU := Lib.hid hu
              rw [hu] at c0
              clear hu
              have HC := Lib.hid (show strB (preG M k) ++ strB (groupT M k) = strB (preG M (k + 1)) by rw [strB_append, preG_t HU.out])
              have HY := Lib.hid (groupT_len HFA.out HNO.out hk8 HU.out)
              have hY1 : ((groupT M k).length : Int) ≤ 1300 := by have := HY.out; omega
              go_wp2_with (go_at_call 33; refine (sGroup_any _ _ _ _ _ _ gh M _ q5 HFA.out HNO.out k hk8 HU.out).mono ?_; rintro e w6 ⟨rfl, hb6⟩; generalize preG M k = X at *; generalize groupT M k = Y at *)
              go_roundw
              case rel => exact ⟨k + 1, by omega, by go_num, str_eq HC.out, hb.andThen hb6⟩
              case measure => simp [intOf]; omega
            | false =>
              have HU := Lib.hid hu
              rw [hu] at c0
              clear hu
              have HC := Lib.hid (show strB (preG M k) = strB (preG M (k + 1)) by rw [preG_f HU.out])
              go_wp2
              go_roundw
              case rel => exact ⟨k + 1, by omega, by go_num, str_eq HC.out, hb⟩
              case measure => simp [intOf]; omega
          · have HE := Lib.hid (show preG M k = preT M 0 by rw [show k = M.groups.length by omega]; simp [preT, tasksT, catB])
            have hge : (M.groups.length : Int) ≤ (k : Int) := by omega
            have hdec : decide (k < M.groups.length) = false := decide_eq_false (by omega)
            have bel5 := Lib.hid (bel4.out.andThen hb)
            clear hlt hk hb PW4 hX1 HXL
            rw [HE.out]
            go_wp2
            clear hge hdec
            obtain ⟨wp, hwp⟩ : ∃ wp : World, wp = wr := ⟨_, rfl⟩
            subst hwp
            go_loopw [3, 7] (fun x i wr => ∃ t : Nat, t ≤ M.tasks.length ∧ i = .int .i64 t ∧ x = .string (strB (preT M t)) ∧ Below wp.heap.size wp wr) (fun _ i _ => M.tasks.length - (intOf i).toNat)
            case atStart => exact ⟨0, by omega, rfl, rfl, Below.refl _ _⟩
            case round =>
              obtain ⟨t, ht, rfl, rfl, hb⟩ := hrel
              have PW6 := Lib.hid (PW5.out.keep hb)
              have pw6 := PW6.out
              clear q0 q1 q2 q3 q4 q5
              obtain ⟨q0, q1, q2, q3, q4, q5⟩ := pw6
              have HXL := Lib.hid (preT_len HFA.out HNO.out ht)
              have hX1 : ((preT M t).length : Int) ≤ 16000 := by have := HXL.out; omega
              by_cases hlt : t < M.tasks.length
              · obtain ⟨b, o, rfl, hB, c0, c1, c2, c3, c4, c5, c6, c7, c8⟩ := q5.task_ hlt
                have hc0 : (0 : Int) ≤ (t : Int) := by omega
                have hc1 : (t : Int) < (M.tasks.length : Int) := by omega
                have hc9 : (t : Int) < 13 := by have := HFA.out.t12; omega
                go_upto_region 18 with (fail)
                refine gen1 (p := fun W => Code.wp _ _ _ _ W) ?_
                intro W5 b5 s5 kz
                have z0 := kz.cell 0
                have z1 := kz.cell 1
                have z2 := kz.cell 2
                have z3 := kz.cell 3
                have z4 := kz.cell 4
                have z5 := kz.cell 5
                have z6 := kz.cell 6
                have z7 := kz.cell 7
                have z8 := kz.cell 8
                simp at z0 z1 z2 z3 z4 z5 z6 z7 z8
                have HBEL := Lib.hid (hb.andThen b5)
                clear kz s5 c0 c1 c2 c3 c4 c5 c6 c7 c8 q0 q1 q2 q3 q4 q5 b5 hb
                by_cases hst : (tsk M t).st = 0
                · have hz : ((tsk M t).st != 0) = false := by simp [hst]
                  have HC := Lib.hid (show strB (preT M t) = strB (preT M (t + 1)) by rw [preT_f hst])
                  clear hst
                  go_wp2
                  go_roundw
                  case rel => exact ⟨t + 1, by omega, by go_num, str_eq HC.out, HBEL.out⟩
                  case measure => simp [intOf]; omega
                · have hz : ((tsk M t).st != 0) = true := by simp [hst]
                  have HC := Lib.hid (show strB (preT M t) ++ strB (taskT M t) = strB (preT M (t + 1)) by rw [strB_append, preT_t hst])
                  have HY := Lib.hid (taskT_len HNO.out hlt hst)
                  have hY1 : ((taskT M t).length : Int) ≤ 300 := by have := HY.out; omega
                  have HSR := Lib.hid (HNO.out.tskF t hlt hst)
                  have HSH := Lib.hid (show lineB [116, 97, 115, 107] [(t : Int), (tsk M t).st, (tsk M t).gr, (tsk M t).cpu, (tsk M t).nice, (tsk M t).mask, (tsk M t).v, (tsk M t).sum, (tsk M t).used, (tsk M t).load] = taskT M t from rfl)
                  clear hst
                  go_wp2_with (go_at_call 31; refine (sRow_any ⟨#[116, 97, 115, 107]⟩ _ _ [(t : Int), (tsk M t).st, (tsk M t).gr, (tsk M t).cpu, (tsk M t).nice, (tsk M t).mask, (tsk M t).v, (tsk M t).sum, (tsk M t).used, (tsk M t).load] _ (IntS.fresh0 _ _ _ rfl _) (by decide) (by simp) HSR.out).mono ?_; rintro e w6 ⟨rfl, hb6⟩; rw [show (⟨#[116, 97, 115, 107]⟩ : ByteArray).data.toList = [116, 97, 115, 107] from rfl, HSH.out]; generalize preT M t = X at *; generalize taskT M t = Y at *)
                  go_roundw
                  case rel => exact ⟨t + 1, by omega, by go_num, str_eq HC.out, HBEL.out.andThen (((Below.refl _ _).alloc (Nat.le_refl _) _).andThen hb6)⟩
                  case measure => simp [intOf]; omega
              · have HE2 := Lib.hid (show preT M t = textM M by rw [TM.out, ← pre_body, show t = M.tasks.length by omega])
                have hge2 : (M.tasks.length : Int) ≤ (t : Int) := by omega
                rw [HE2.out]
                clear hlt
                go_wp2
                go_ret
                exact ⟨rfl, bel5.out.andThen hb⟩
  · have F1 := Lib.hid (show worldB M = false by simpa only [Bool.not_eq_true] using f1)
    clear f1
    have TM := Lib.hid (show (⟨#[]⟩ : ByteArray) = strB (textM M) by rw [textM, if_neg (by rw [F1.out]; simp)]; rfl)
    go_wp2_with (go_at_call 30; refine (sWorldOk_any ca cc ta tc ga gc gh M _ q5 hF).mono ?_; rintro e w2 ⟨rfl, hb2⟩; rw [F1.out]; have r1 := (hb2.cell (p := ⟨w.heap.size, 0, none⟩) q0).trans q1; have r2 := (hb2.cell (p := ⟨w.heap.size, 1, none⟩) q0).trans q2; have r3 := (hb2.cell (p := ⟨w.heap.size, 2, none⟩) q0).trans q3; have r4 := (hb2.cell (p := ⟨w.heap.size, 3, none⟩) q0).trans q4; have r0 := Nat.lt_of_lt_of_le q0 hb2.size)
    go_ret
    exact ⟨ret_str TM.out, b1.andThen hb2⟩
end
end Go.Proofs.YtomllcclallcdaaGreatDoor
namespace Go.Proofs.YtomllcclallcdaaGreatDoor
section
open Go.RowKit Go.Sort
theorem wp_cut {P : Program} {c : Code} {Q : Exit → Act → World → Prop} {a : Act} {w : World} (F : Nat → Nat → Nat → Act) (R : Nat → Nat → Nat → World → Prop) (h1 : c.wp P (fun e a' w' => e = .normal ∧ ∃ i j k, a' = F i j k ∧ R i j k w') a w)
    (h2 : ∀ i j k w', R i j k w' → Q .normal (F i j k) w') : c.wp P Q a w :=
  Code.wp_mono (fun e a' w' h => by obtain ⟨rfl, i, j, k, rfl, h⟩ := h; exact h2 i j k w' h) h1
theorem al3 (W : World) (c1 c2 c3 : Array Value) (t1 t2 t3 : TypeId) : Below W.heap.size W (((W.alloc (.cells c1 t1)).alloc (.cells c2 t2)).alloc (.cells c3 t3)).drew ∧ Blk (((W.alloc (.cells c1 t1)).alloc (.cells c2 t2)).alloc (.cells c3 t3)).drew W.heap.size t1 c1 ∧
    Blk (((W.alloc (.cells c1 t1)).alloc (.cells c2 t2)).alloc (.cells c3 t3)).drew (W.heap.size + 1) t2 c2 ∧ Blk (((W.alloc (.cells c1 t1)).alloc (.cells c2 t2)).alloc (.cells c3 t3)).drew (W.heap.size + 1 + 1) t3 c3 := by
  refine gen3 (p := fun X => Below W.heap.size W X.drew ∧ Blk X.drew W.heap.size t1 c1 ∧ Blk X.drew (W.heap.size + 1) t2 c2 ∧ Blk X.drew (W.heap.size + 1 + 1) t3 c3) ?_
  intro X b s k0 k1 k2
  exact ⟨b.drew, k0.drew, k1.drew, k2.drew⟩
structure Bl3 (W w' : World) (C1 C2 : Array Value) (kt kg kb : Nat) : Prop where
  bel : Below W.heap.size W w'
  rt : Blk w' kt 62 C1
  rg : Blk w' kg 56 C2
  rb : Blk w' kb 26 #[.int .i64 0, .slice none 0 0, .slice (some ⟨kt, 0, none⟩) 12 12, .slice (some ⟨kg, 0, none⟩) 8 8]
  lt : W.heap.size ≤ kt
  lg : W.heap.size ≤ kg
  lb : W.heap.size ≤ kb
theorem blk_ne {w : World} {a b : Nat} {t u : TypeId} {c d : Array Value} (h : Blk w a t c) (k : Blk w b u d) (hn : t ≠ u) : a ≠ b := by
  rintro rfl
  unfold Blk at h k
  rw [h] at k
  simp only [Option.some.injEq, Obj.cells.injEq] at k
  exact hn k.2.1
def zT : Array Value := madeCells #[.int .i64 0, .int .i64 0, .int .i64 0, .int .i64 0, .int .i64 0, .int .i64 0, .int .i64 0, .int .i64 0, .int .i64 0] 108
def zG : Array Value := madeCells #[.bool false, .int .i64 0, .string .empty, .int .i64 0, .int .i64 0, .int .i64 0, .int .i64 0, .int .i64 0, .int .i64 0, .int .i64 0, .int .i64 0, .slice none 0 0, .slice none 0 0, .slice none 0 0] 112
theorem made_at (z : Array Value) (m k i : Nat) (hk : k < m) (hi : i < z.size) : (madeCells z (m * z.size))[k * z.size + i]? = z[i]? := by
  have hlt : k * z.size + i < m * z.size := by
    have := Nat.mul_le_mul_right z.size (show k + 1 ≤ m by omega)
    rw [Nat.succ_mul] at this
    omega
  have hm : (k * z.size + i) % z.size = i := by rw [Nat.mul_comm, Nat.mul_add_mod, Nat.mod_eq_of_lt hi]
  unfold madeCells
  simp only [Array.getElem?_map, Array.getElem?_range, hlt, if_true, Option.map_some, hm]
  simp [hi]
theorem zT_at (k i : Nat) (hk : k < 12) (hi : i < 9) : zT[k * 9 + i]? = some (taskF task0 i) := by
  have := made_at #[.int .i64 0, .int .i64 0, .int .i64 0, .int .i64 0, .int .i64 0, .int .i64 0, .int .i64 0, .int .i64 0, .int .i64 0] 12 k i hk hi
  have e : zT[k * 9 + i]? = _ := this
  rw [e]
  match i, hi with
  | 0, _ | 1, _ | 2, _ | 3, _ | 4, _ | 5, _ | 6, _ | 7, _ | 8, _ => rfl
  | i + 9, h => omega
theorem zG_at (k i : Nat) (hk : k < 8) (hi : i < 14) : zG[k * 14 + i]? = some (groupF group0 nilH i) := by
  have := made_at #[.bool false, .int .i64 0, .string .empty, .int .i64 0, .int .i64 0, .int .i64 0, .int .i64 0, .int .i64 0, .int .i64 0, .int .i64 0, .int .i64 0, .slice none 0 0, .slice none 0 0, .slice none 0 0] 8 k i hk hi
  have e : zG[k * 14 + i]? = _ := this
  rw [e]
  match i, hi with
  | 0, _ | 1, _ | 2, _ | 3, _ | 4, _ | 5, _ | 6, _ | 7, _ | 8, _ | 9, _ | 10, _ | 11, _ | 12, _ | 13, _ => rfl
  | i + 14, h => omega
theorem Bl3.own {W w' : World} {kt kg kb : Nat} (h : Bl3 W w' zT zG kt kg kb) : OwnR w' W.heap.size none 0 (some ⟨kt, 0, none⟩) (some ⟨kg, 0, none⟩) (fun _ => nilH) blankM := by
  have eg : ∀ k, grp blankM k = group0 := fun k => by
    rw [grp, blankM, List.getD_eq_getElem?_getD]
    show ((List.replicate 8 group0)[k]?).getD group0 = group0
    rw [List.getElem?_replicate]
    split <;> rfl
  refine ⟨⟨RowR.nil, RowR.mk_ h.lt h.rt fun k i hk hi => ?_, RowR.mk_ h.lg h.rg fun k i hk hi => ?_, fun k _ => ?_, fun k _ => ?_, fun k _ => ?_, fun _ _ _ _ _ _ h => (by cases h), fun _ _ _ _ _ _ h => (by cases h), fun _ _ _ _ _ _ h => (by cases h)⟩, World.ownsRow_nil _ _ _ _, fun k _ => ?_⟩
  · have hk' : k < 12 := by simpa [blankM] using hk
    rw [zT_at k i hk' hi]
    congr 2
    show task0 = (List.replicate 12 task0).getD k task0
    rw [List.getD_eq_getElem?_getD, List.getElem?_replicate, if_pos hk']
    rfl
  · have hk' : k < 8 := by simpa [blankM] using hk
    rw [zG_at k i hk' hi]
    have := eg k
    unfold grp at this
    rw [this]
  · rw [eg k]; exact RowR.nil
  · rw [eg k]; exact RowR.nil
  · rw [eg k]; exact RowR.nil
  · rw [eg k]; exact World.ownsRow_nil _ _ _ _
theorem madeX {P : Program} (t e : TypeId) (z : Value) (size bytes : Nat) (ht : P.underlying t = some (.slice e)) (hi : (P.info? e).map (fun i => (i.zero, i.size, i.bytes)) = some (some z, size, bytes))
    (n : Nat) (hbytes : bytes * n ≤ 281474976710656) (h63 : n ≤ 9223372036854775807) (w : World) :
    (Instr.makeSlice t (.int .i64 (n : Int)) (.int .i64 (n : Int))).run P w = .ok (.slice (some ⟨w.heap.size, 0, none⟩) n n) (w.alloc (.cells (madeCells z.cells (n * size)) e)) := by
  obtain ⟨i0, hi, hz0, hz1, hz2⟩ := info_parts hi
  have := run_make_rowN t e i0 z ht hi hz0 .i64 .i64 n n (Nat.le_refl _) (by rw [hz2]; exact hbytes) h63 w
  rw [hz1] at this
  exact this
theorem gmT (w : World) : (Instr.makeSlice 23 (.int .i64 12) (.int .i64 12)).run Tryz.prog w = .ok (.slice (some ⟨w.heap.size, 0, none⟩) 12 12) (w.alloc (.cells zT 62)) :=
  madeX 23 62 (.agg #[.int .i64 0, .int .i64 0, .int .i64 0, .int .i64 0, .int .i64 0, .int .i64 0, .int .i64 0, .int .i64 0, .int .i64 0]) 9 72 Tryz.underlying23 (by kernel_rfl) 12 (by omega) (by omega) w
theorem gmG (w : World) : (Instr.makeSlice 24 (.int .i64 8) (.int .i64 8)).run Tryz.prog w = .ok (.slice (some ⟨w.heap.size, 0, none⟩) 8 8) (w.alloc (.cells zG 56)) :=
  madeX 24 56 (.agg #[.bool false, .int .i64 0, .string .empty, .int .i64 0, .int .i64 0, .int .i64 0, .int .i64 0, .int .i64 0, .int .i64 0, .int .i64 0, .int .i64 0, .slice none 0 0, .slice none 0 0, .slice none 0 0]) 14 168 Tryz.underlying24 (by kernel_rfl) 8 (by omega) (by omega) w
def world0' : WorldM := ⟨0, [], [], []⟩
def RPost (M : WorldM) (b : Bool) (w : World) (e : Ending) (w' : World) : Prop := ∃ h : WH, e = .returned (.tuple #[.agg #[.int .i64 M.now, .slice h.ca M.cpus.length h.cc, .slice h.ta M.tasks.length h.tc, .slice h.ga M.groups.length h.gc], .bool b]) ∧ Below w.heap.size w w' ∧ Own w' w.heap.size h.ca h.ta h.ga h.gh M
theorem own0 (w : World) (B : Nat) : Own w B none none none (fun _ => nilH) world0' := ⟨RowR.nil, RowR.nil, RowR.nil, fun k hk => absurd hk (Nat.not_lt_zero _), fun k hk => absurd hk (Nat.not_lt_zero _), fun k hk => absurd hk (Nat.not_lt_zero _), fun j _ _ hj => absurd hj (Nat.not_lt_zero _), fun j _ _ hj => absurd hj (Nat.not_lt_zero _), fun j _ _ hj => absurd hj (Nat.not_lt_zero _)⟩
def readW (o : Option WorldM) : WorldM := o.getD world0'
def wh0 : WH := ⟨none, 0, none, 0, none, 0, fun _ => nilH⟩
structure RI (B K1 kt kg kb : Nat) (w2 wr : World) (ca : Option Addr) (cc : Nat) (gh : Nat → GH) (X : WorldM) : Prop where
  k1 : Blk wr K1 26 #[.int .i64 0, .slice none 0 0, .slice none 0 0, .slice none 0 0]
  bx : Blk wr kb 26 #[.int .i64 X.now, .slice ca X.cpus.length cc, .slice (some ⟨kt, 0, none⟩) X.tasks.length 12, .slice (some ⟨kg, 0, none⟩) X.groups.length 8]
  ow : OwnR wr B ca cc (some ⟨kt, 0, none⟩) (some ⟨kg, 0, none⟩) gh X
  has : ∀ g, Has ca (some ⟨kt, 0, none⟩) (some ⟨kg, 0, none⟩) gh X.groups.length g → g = kt ∨ g = kg ∨ w2.heap.size ≤ g
  keep : Keep (fun g => g = kt ∨ g = kg ∨ g = kb) w2 wr
set_option maxRecDepth 100000 in
set_option maxHeartbeats 4000000 in
theorem sRead_long (s : ByteArray) (w : World) (hs : 20000 < s.size) : Calls Tryz.prog 4 #[.string s] w (RPost world0' false w) := by
  have i1 : (20000 : Int) < (s.size : Int) := by omega
  clear hs
  go_enter Tryz.func4, Tryz.ntmps4
  go_upto_region 1 with (fail)
  refine gen1 (p := fun W => Code.wp _ _ _ _ W) ?_
  intro W b1 s1 k1
  have B1 := Lib.hid b1
  have K1 := Lib.hid k1
  have S1 := Lib.hid s1
  clear b1 s1 k1
  go_upto_region 2 with (fail)
  have d0 := K1.out.cell 0
  have d1 := K1.out.cell 1
  have d2 := K1.out.cell 2
  have d3 := K1.out.cell 3
  have df := fun i => K1.out.frozen i
  simp at d0 d1 d2 d3
  go_wp2
  have kk := Lib.hid (show Keep (fun i => i = w.heap.size) W ((((W.setCell ⟨w.heap.size, 0, none⟩ (.int .i64 0)).setCell ⟨w.heap.size, 1, none⟩ (.slice none 0 0)).setCell ⟨w.heap.size, 2, none⟩ (.slice none 0 0)).setCell ⟨w.heap.size, 3, none⟩ (.slice none 0 0)) from ((((Keep.set _ _ _ (by rfl)).trans (Keep.set _ _ _ (by rfl))).trans (Keep.set _ _ _ (by rfl))).trans (Keep.set _ _ _ (by rfl))))
  refine bodyPost_ret (v := .tuple #[.agg #[.int .i64 0, .slice none 0 0, .slice none 0 0, .slice none 0 0], .bool false]) (by simp [results, Tryz.results4, go_sem, *]) rfl ?_
  refine ⟨wh0, rfl, ?_, own0 _ _⟩
  exact B1.out.trans (kk.out.below B1.out.size fun i h => by omega)
theorem out_done {s : List UInt8} {L : List (List UInt8)} {X : WorldM} (hL : linesSp s = L) (hl : s.length ≤ 20000) (h : L.foldlM lineSp blankM = some X) : outSp s = if s ≠ [] ∧ textM X = s then some X else none := by
  unfold outSp
  rw [if_pos hl, hL, h]
  rfl
theorem RFit.fitG {X : WorldM} (h : RFit X) : FitG X := ⟨by have := h.cpu; omega, by have := h.task; omega, by have := h.gl; omega, fun k _ => by have := h.loc k; omega, fun k _ => by rw [h.dry k]; have := h.loc k; omega, fun k _ => by have := h.she k; omega, fun k _ => by have := h.nm k; omega⟩
theorem lines_count (s : List UInt8) : (linesSp s).length ≤ s.length + 1 := by
  have := cut_count 10 s
  unfold linesSp
  split
  · rw [List.length_dropLast]; omega
  · exact this
theorem out_none {s : List UInt8} {L : List (List UInt8)} (hL : linesSp s = L) {k : Nat} (hk : k < L.length) (h : (L.take (k + 1)).foldlM lineSp blankM = none) : outSp s = none := by
  unfold outSp
  split
  · rw [hL, ← List.take_append_drop (k + 1) L, List.foldlM_append, h]
    rfl
  · rfl
set_option maxRecDepth 100000 in
set_option maxHeartbeats 4000000 in
theorem sRead_main (s : ByteArray) (w : World) (hs : s.size ≤ 20000) : Calls Tryz.prog 4 #[.string s] w (RPost (readW (outSp s.data.toList)) (outSp s.data.toList).isSome w) := by
  have i1 : (s.size : Int) ≤ 20000 := by omega
  have i2 : decide ((20000 : Int) < (s.size : Int)) = false := decide_eq_false (by omega)
  have HS := Lib.hid hs
  obtain ⟨L, hL⟩ : ∃ L, linesSp s.data.toList = L := ⟨_, rfl⟩
  have HLE := Lib.hid hL
  have LN := Lib.hid (show ∀ W, Calls Tryz.prog 9 #[.string s] W (WordsOut L W) from fun W => by rw [← hL]; exact sLines_any s W hs)
  have HLN := Lib.hid (show ∀ a ∈ L, a.length ≤ 20000 from fun a ha => linesSp_len (s := s.data.toList) (by have := len_s s; omega) a (by rw [hL]; exact ha))
  have lc0 : (L.length : Int) ≤ 20001 := by rw [← hL]; have := lines_count s.data.toList; have := len_s s; omega
  clear hL hs
  go_enter Tryz.func4, Tryz.ntmps4
  go_upto_region 1 with (fail)
  refine gen1 (p := fun W => Code.wp _ _ _ _ W) ?_
  intro W b1 s1 k1
  have B1 := Lib.hid b1
  have K1 := Lib.hid k1
  have S1 := Lib.hid s1
  clear b1 s1 k1
  go_upto_region 3 with (fail)
  have gm1 := gmT
  have gm2 := gmG
  refine wp_cut (fun kt kg kb => { tmps := #[.string s, undef, .pointer (some ⟨w.heap.size, 0, none⟩), .bool false, .pointer (some ⟨kb, 0, none⟩), undef, undef, undef, .string s, .int .i64 s.size, .bool false, undef, .slice (some ⟨kt, 0, none⟩) 12 12, .slice (some ⟨kg, 0, none⟩) 8 8, .agg #[.int .i64 0, .slice none 0 0, .slice (some ⟨kt, 0, none⟩) 12 12, .slice (some ⟨kg, 0, none⟩) 8 8], undef, undef, undef, undef, undef, undef, undef, undef, undef, undef, undef, undef, undef, undef, undef, undef, undef, undef, undef, undef, undef, undef, undef, undef, undef, undef, undef, undef, undef, undef], defers := [] }) (fun kt kg kb w' => Bl3 W w' zT zG kt kg kb) ?_ ?_
  · go_region
    all_goals refine ⟨rfl, _, _, _, rfl, ?_⟩
    all_goals constructor
    all_goals first | exact (al3 W _ _ _ _ _ _).1 | exact (al3 W _ _ _ _ _ _).2.1 | exact (al3 W _ _ _ _ _ _).2.2.1 | exact (al3 W _ _ _ _ _ _).2.2.2 | exact Nat.le_refl _ | omega
  intro kt kg kb w1 hbl
  have HB := Lib.hid hbl
  clear gm1 gm2 hbl i2
  go_upto_region 5 with (go_at_call 9; refine (LN.out _).mono ?_; rintro e w2 ⟨A, c, rfl, hb2, hR, hcap⟩)
  have HRW := Lib.hid hR
  have HB2 := Lib.hid hb2
  have BW := Lib.hid (B1.out.andThen (HB.out.bel.andThen hb2))
  have HNE := Lib.hid (show kt ≠ kb ∧ kg ≠ kb ∧ kt < w1.heap.size ∧ kg < w1.heap.size ∧ kb < w1.heap.size from ⟨blk_ne HB.out.rt HB.out.rb (by decide), blk_ne HB.out.rg HB.out.rb (by decide), HB.out.rt.lt, HB.out.rg.lt, HB.out.rb.lt⟩)
  have HA0 : ∀ g, Has none (some ⟨kt, 0, none⟩) (some ⟨kg, 0, none⟩) (fun _ => nilH) blankM.groups.length g → g = kt ∨ g = kg ∨ w2.heap.size ≤ g := fun g hg => by
    rcases hg with h | h | h | ⟨k, _, h | h | h⟩
    · cases h
    · cases h; exact .inl rfl
    · cases h; exact .inr (.inl rfl)
    · cases h
    · cases h
    · cases h
  have I0 := Lib.hid (show RI W.heap.size w.heap.size kt kg kb w2 w2 none 0 (fun _ => nilH) blankM from ⟨K1.out.below (HB.out.bel.andThen hb2) K1.out.lt, HB.out.rb.below hb2 HB.out.rb.lt, HB.out.own.below hb2, HA0, Keep.refl _ _⟩)
  clear HA0
  have HLB := Lib.hid (show W.heap.size ≤ kt ∧ W.heap.size ≤ kg ∧ W.heap.size ≤ kb from ⟨HB.out.lt, HB.out.lg, HB.out.lb⟩)
  clear hb2 hR hcap LN HB K1 B1
  go_wp2
  go_loopw [3, 6, 7] (fun r3 i _ wr => ∃ (k : Nat) (X : WorldM) (ca : Option Addr) (cc : Nat) (gh : Nat → GH), k ≤ L.length ∧ i = .int .i64 k ∧ r3 = .bool false ∧ (L.take k).foldlM lineSp blankM = some X ∧ RFit X ∧ RI W.heap.size w.heap.size kt kg kb w2 wr ca cc gh X) (fun _ i _ _ => L.length - (intOf i).toNat)
  case atStart => exact ⟨0, blankM, none, 0, fun _ => nilH, Nat.zero_le _, rfl, rfl, rfl, blank_fit, I0.out⟩
  case round =>
    obtain ⟨k, X, ca, cc, gh, hk, rfl, rfl, hf, hx, hI⟩ := hrel
    have II := Lib.hid hI
    have HX := Lib.hid hx
    have HF := Lib.hid hf
    clear I0 hI hx hf
    have BR := Lib.hid (show Below w.heap.size w wr from BW.out.trans (II.out.keep.below (by have := BW.out.size; exact this) fun g hg => by have hg2 : g = kt ∨ g = kg ∨ g = kb := hg; have := S1.out; have := HLB.out; omega))
    by_cases hlt : k < L.length
    · have HLT := Lib.hid hlt
      obtain ⟨kl, rfl, hkl, cw⟩ := word_at (HRW.out.keep II.out.keep fun a ha hg => by have hg2 : a.block = kt ∨ a.block = kg ∨ a.block = kb := hg; have := (HRW.out.lt ha).1; have := HNE.out; omega) hlt
      have HWL := Lib.hid (HLN.out L[k] (List.getElem_mem hlt))
      have HFS := Lib.hid (show (L.take (k + 1)).foldlM lineSp blankM = lineSp X L[k] by rw [List.take_succ_eq_append_getElem hlt, List.foldlM_append, HF.out]; show (lineSp X L[k] >>= fun x => pure x) = _; cases lineSp X L[k] <;> rfl)
      have i3 : (0 : Int) ≤ (k : Int) := by omega
      have i4 : (k : Int) < (L.length : Int) := by omega
      have bd := (Below.refl wr.heap.size wr).drew
      have SL := Lib.hid (sLine_any kt kg ca cc 12 8 gh X W.heap.size wr.drew (II.out.ow.below bd) HX.out (by have := BR.out.size; have := S1.out; have := BW.out.size; have := II.out.bx.lt; have := HLB.out; have := bd.size; omega) (strB L[k]) (by rw [strB_size]; exact HWL.out) (cutB 32 L[k]) rfl (List.length_pos_iff.2 (cutB_ne 32 _)))
      have e0 : (strB L[k]).data.toList = L[k] := rfl
      rw [e0] at SL
      have K1d := Lib.hid (II.out.k1.below bd II.out.k1.lt)
      have KBd := Lib.hid (II.out.bx.below bd II.out.bx.lt)
      have BD := Lib.hid bd
      have cw2 := bd.cell hkl |>.trans cw
      clear e0 hk cw
      generalize strB L[k] = s0 at *
      cases hq : lineSp X L[k] with
      | none =>
        have HQ := Lib.hid hq
        rw [hq] at SL
        clear hq
        go_upto_region 9 with (fail)
        refine region_TT (.det 1 (.det 2 (.det 3 (.two 0 (.one 4 (.one 5 (.det 6 (.det 7 (.det 8 (.one 9 (.det 10 .done))))))) 4 (.one 0 (.one 5 (.det 6 (.det 7 (.det 8 (.one 9 (.det 10 .done))))))))))) (by kernel_rfl) (by kernel_rfl) rfl (by kernel_rfl) ?_
        generalize wr.drew = w3 at *
        have c0 := KBd.out.cell 0
        have c1 := KBd.out.cell 1
        have c2 := KBd.out.cell 2
        have c3 := KBd.out.cell 3
        have cf := fun i => KBd.out.frozen i
        simp at c0 c1 c2 c3
        refine wpT_det (by rfl) (by rfl) (fun K hK => ?_); go_big_quiet_op; refine hK _ ?_; clear hK K
        try simp only [Act.put, List.setIfInBounds_toArray, List.set_cons_zero, List.set_cons_succ]
        refine wpT_det (by rfl) (by rfl) (fun K hK => ?_); go_big_quiet_op; refine hK _ ?_; clear hK K
        try simp only [Act.put, List.setIfInBounds_toArray, List.set_cons_zero, List.set_cons_succ]
        refine wpT_det (by rfl) (by rfl) (fun K hK => ?_); go_big_quiet_op; refine hK _ ?_; clear hK K
        try simp only [Act.put, List.setIfInBounds_toArray, List.set_cons_zero, List.set_cons_succ]
        refine wpT_two (by rfl) (by rfl) (by rfl) (by rfl) (fun K hK => ?_) (fun K hK => ?_)
        · go_big_op
          refine hK _ _ trivial ?_
          clear hK K
          try simp only [Act.put, List.setIfInBounds_toArray, List.set_cons_zero, List.set_cons_succ]
          refine wpT_one (by rfl) (by rfl) (fun K hK => ?_)
          go_big_op
          refine hK _ _ trivial ?_
          clear hK K
          try simp only [Act.put, List.setIfInBounds_toArray, List.set_cons_zero, List.set_cons_succ]
          refine wpT_one (by rfl) (by rfl) (fun K hK => ?_)
          go_big_op
          go_at_call 10
          refine SL.out.mono ?_
          rintro e w4 ⟨hke, rfl⟩
          refine hK _ _ trivial ?_
          clear hK K
          have HNK := Lib.hid (show ∀ i, Has ca (some ⟨kt, 0, none⟩) (some ⟨kg, 0, none⟩) gh X.groups.length i → i ≠ kb ∧ i ≠ w.heap.size from fun i hi => by have := II.out.has i hi; have := HNE.out; have := HLB.out; have := S1.out; have := HB2.out.size; omega)
          have K1e := Lib.hid (hke.blk K1d.out fun e => (HNK.out _ e).2 rfl)
          have KBe := Lib.hid (hke.blk KBd.out fun e => (HNK.out _ e).1 rfl)
          refine wpT_det (by rfl) (by rfl) (fun K hK => ?_); go_big_quiet_op; refine hK _ ?_; clear hK K
          try simp only [Act.put, List.setIfInBounds_toArray, List.set_cons_zero, List.set_cons_succ]
          refine wpT_det (by rfl) (by rfl) (fun K hK => ?_); go_big_quiet_op; refine hK _ ?_; clear hK K
          try simp only [Act.put, List.setIfInBounds_toArray, List.set_cons_zero, List.set_cons_succ]
          refine wpT_det (by rfl) (by rfl) (fun K hK => ?_); go_big_quiet_op; refine hK _ ?_; clear hK K
          try simp only [Act.put, List.setIfInBounds_toArray, List.set_cons_zero, List.set_cons_succ]
          have b0 := KBe.out.cell 0
          have b1 := KBe.out.cell 1
          have b2 := KBe.out.cell 2
          have b3 := KBe.out.cell 3
          have bf := fun i => KBe.out.frozen i
          simp at b0 b1 b2 b3
          refine wpT_one (by rfl) (by rfl) (fun K hK => ?_)
          go_big_op
          refine hK _ _ trivial ?_
          clear hK K
          try simp only [Act.put, List.setIfInBounds_toArray, List.set_cons_zero, List.set_cons_succ]
          refine wpT_det (by rfl) (by rfl) (fun K hK => ?_); go_big_quiet_op; refine hK _ ?_; clear hK K
          try simp only [Act.put, List.setIfInBounds_toArray, List.set_cons_zero, List.set_cons_succ]
          refine wpT_nil ?_
          go_upto_region 10 with (fail)
          refine genR (p := fun W => Code.wp _ _ _ _ W) ?_
          intro w6 hw6
          have KS := Lib.hid (show Keep (fun j => j = kb) w4 w6 by rw [← hw6]; exact ((((Keep.set _ _ _ (by rfl)).trans (Keep.set _ _ _ (by rfl))).trans (Keep.set _ _ _ (by rfl))).trans (Keep.set _ _ _ (by rfl))))
          have K1f := Lib.hid (KS.out.blk K1e.out (by have := HLB.out; have := S1.out; omega))
          have B6 := Lib.hid (show Below w.heap.size w w6 from ((BR.out.andThen BD.out).trans (hke.below (by have := (BR.out.andThen BD.out).size; exact this) fun i hi => by have := II.out.has i hi; have := HLB.out; have := S1.out; have := BW.out.size; omega)).trans (KS.out.below (by have := (BR.out.andThen BD.out).size; have := hke.size; omega) fun i hi => by have := HLB.out; have := S1.out; omega))
          have HZ := Lib.hid (show outSp s.data.toList = none from out_none HLE.out HLT.out (HFS.out.trans HQ.out))
          clear hw6 KS hke K1e KBe HNK
          go_upto_region 11 with (fail)
          have d0 := K1f.out.cell 0
          have d1 := K1f.out.cell 1
          have d2 := K1f.out.cell 2
          have d3 := K1f.out.cell 3
          have df := fun i => K1f.out.frozen i
          simp at d0 d1 d2 d3
          go_wp2
          have kk := Lib.hid (show Keep (fun i => i = w.heap.size) w6 ((((w6.setCell ⟨w.heap.size, 0, none⟩ (.int .i64 0)).setCell ⟨w.heap.size, 1, none⟩ (.slice none 0 0)).setCell ⟨w.heap.size, 2, none⟩ (.slice none 0 0)).setCell ⟨w.heap.size, 3, none⟩ (.slice none 0 0)) from ((((Keep.set _ _ _ (by rfl)).trans (Keep.set _ _ _ (by rfl))).trans (Keep.set _ _ _ (by rfl))).trans (Keep.set _ _ _ (by rfl))))
          refine bodyPost_ret (v := .tuple #[.agg #[.int .i64 0, .slice none 0 0, .slice none 0 0, .slice none 0 0], .bool false]) (by simp [results, Tryz.results4, go_sem, *]) rfl ?_
          rw [HZ.out]
          refine ⟨wh0, rfl, ?_, own0 _ _⟩
          exact B6.out.trans (kk.out.below B6.out.size fun i h => by omega)
        · go_big_op
          refine hK _ _ trivial ?_
          clear hK K
          try simp only [Act.put, List.setIfInBounds_toArray, List.set_cons_zero, List.set_cons_succ]
          refine wpT_one (by rfl) (by rfl) (fun K hK => ?_)
          go_big_op
          refine hK _ _ trivial ?_
          clear hK K
          try simp only [Act.put, List.setIfInBounds_toArray, List.set_cons_zero, List.set_cons_succ]
          refine wpT_one (by rfl) (by rfl) (fun K hK => ?_)
          go_big_op
          go_at_call 10
          refine SL.out.mono ?_
          rintro e w4 ⟨hke, rfl⟩
          refine hK _ _ trivial ?_
          clear hK K
          have HNK := Lib.hid (show ∀ i, Has ca (some ⟨kt, 0, none⟩) (some ⟨kg, 0, none⟩) gh X.groups.length i → i ≠ kb ∧ i ≠ w.heap.size from fun i hi => by have := II.out.has i hi; have := HNE.out; have := HLB.out; have := S1.out; have := HB2.out.size; omega)
          have K1e := Lib.hid (hke.blk K1d.out fun e => (HNK.out _ e).2 rfl)
          have KBe := Lib.hid (hke.blk KBd.out fun e => (HNK.out _ e).1 rfl)
          refine wpT_det (by rfl) (by rfl) (fun K hK => ?_); go_big_quiet_op; refine hK _ ?_; clear hK K
          try simp only [Act.put, List.setIfInBounds_toArray, List.set_cons_zero, List.set_cons_succ]
          refine wpT_det (by rfl) (by rfl) (fun K hK => ?_); go_big_quiet_op; refine hK _ ?_; clear hK K
          try simp only [Act.put, List.setIfInBounds_toArray, List.set_cons_zero, List.set_cons_succ]
          refine wpT_det (by rfl) (by rfl) (fun K hK => ?_); go_big_quiet_op; refine hK _ ?_; clear hK K
          try simp only [Act.put, List.setIfInBounds_toArray, List.set_cons_zero, List.set_cons_succ]
          have b0 := KBe.out.cell 0
          have b1 := KBe.out.cell 1
          have b2 := KBe.out.cell 2
          have b3 := KBe.out.cell 3
          have bf := fun i => KBe.out.frozen i
          simp at b0 b1 b2 b3
          refine wpT_one (by rfl) (by rfl) (fun K hK => ?_)
          go_big_op
          refine hK _ _ trivial ?_
          clear hK K
          try simp only [Act.put, List.setIfInBounds_toArray, List.set_cons_zero, List.set_cons_succ]
          refine wpT_det (by rfl) (by rfl) (fun K hK => ?_); go_big_quiet_op; refine hK _ ?_; clear hK K
          try simp only [Act.put, List.setIfInBounds_toArray, List.set_cons_zero, List.set_cons_succ]
          refine wpT_nil ?_
          go_upto_region 10 with (fail)
          refine genR (p := fun W => Code.wp _ _ _ _ W) ?_
          intro w6 hw6
          have KS := Lib.hid (show Keep (fun j => j = kb) w4 w6 by rw [← hw6]; exact ((((Keep.set _ _ _ (by rfl)).trans (Keep.set _ _ _ (by rfl))).trans (Keep.set _ _ _ (by rfl))).trans (Keep.set _ _ _ (by rfl))))
          have K1f := Lib.hid (KS.out.blk K1e.out (by have := HLB.out; have := S1.out; omega))
          have B6 := Lib.hid (show Below w.heap.size w w6 from ((BR.out.andThen BD.out).trans (hke.below (by have := (BR.out.andThen BD.out).size; exact this) fun i hi => by have := II.out.has i hi; have := HLB.out; have := S1.out; have := BW.out.size; omega)).trans (KS.out.below (by have := (BR.out.andThen BD.out).size; have := hke.size; omega) fun i hi => by have := HLB.out; have := S1.out; omega))
          have HZ := Lib.hid (show outSp s.data.toList = none from out_none HLE.out HLT.out (HFS.out.trans HQ.out))
          clear hw6 KS hke K1e KBe HNK
          go_upto_region 11 with (fail)
          have d0 := K1f.out.cell 0
          have d1 := K1f.out.cell 1
          have d2 := K1f.out.cell 2
          have d3 := K1f.out.cell 3
          have df := fun i => K1f.out.frozen i
          simp at d0 d1 d2 d3
          go_wp2
          have kk := Lib.hid (show Keep (fun i => i = w.heap.size) w6 ((((w6.setCell ⟨w.heap.size, 0, none⟩ (.int .i64 0)).setCell ⟨w.heap.size, 1, none⟩ (.slice none 0 0)).setCell ⟨w.heap.size, 2, none⟩ (.slice none 0 0)).setCell ⟨w.heap.size, 3, none⟩ (.slice none 0 0)) from ((((Keep.set _ _ _ (by rfl)).trans (Keep.set _ _ _ (by rfl))).trans (Keep.set _ _ _ (by rfl))).trans (Keep.set _ _ _ (by rfl))))
          refine bodyPost_ret (v := .tuple #[.agg #[.int .i64 0, .slice none 0 0, .slice none 0 0, .slice none 0 0], .bool false]) (by simp [results, Tryz.results4, go_sem, *]) rfl ?_
          rw [HZ.out]
          refine ⟨wh0, rfl, ?_, own0 _ _⟩
          exact B6.out.trans (kk.out.below B6.out.size fun i h => by omega)
      | some X' =>
        have HQ := Lib.hid hq
        rw [hq] at SL
        clear hq
        go_upto_region 9 with (fail)
        refine region_TT (.det 1 (.det 2 (.det 3 (.two 0 (.one 4 (.one 5 (.det 6 (.det 7 (.det 8 (.one 9 (.det 10 .done))))))) 4 (.one 0 (.one 5 (.det 6 (.det 7 (.det 8 (.one 9 (.det 10 .done))))))))))) (by kernel_rfl) (by kernel_rfl) rfl (by kernel_rfl) ?_
        generalize wr.drew = w3 at *
        have c0 := KBd.out.cell 0
        have c1 := KBd.out.cell 1
        have c2 := KBd.out.cell 2
        have c3 := KBd.out.cell 3
        have cf := fun i => KBd.out.frozen i
        simp at c0 c1 c2 c3
        refine wpT_det (by rfl) (by rfl) (fun K hK => ?_); go_big_quiet_op; refine hK _ ?_; clear hK K
        try simp only [Act.put, List.setIfInBounds_toArray, List.set_cons_zero, List.set_cons_succ]
        refine wpT_det (by rfl) (by rfl) (fun K hK => ?_); go_big_quiet_op; refine hK _ ?_; clear hK K
        try simp only [Act.put, List.setIfInBounds_toArray, List.set_cons_zero, List.set_cons_succ]
        refine wpT_det (by rfl) (by rfl) (fun K hK => ?_); go_big_quiet_op; refine hK _ ?_; clear hK K
        try simp only [Act.put, List.setIfInBounds_toArray, List.set_cons_zero, List.set_cons_succ]
        refine wpT_two (by rfl) (by rfl) (by rfl) (by rfl) (fun K hK => ?_) (fun K hK => ?_)
        · go_big_op
          refine hK _ _ trivial ?_
          clear hK K
          try simp only [Act.put, List.setIfInBounds_toArray, List.set_cons_zero, List.set_cons_succ]
          refine wpT_one (by rfl) (by rfl) (fun K hK => ?_)
          go_big_op
          refine hK _ _ trivial ?_
          clear hK K
          try simp only [Act.put, List.setIfInBounds_toArray, List.set_cons_zero, List.set_cons_succ]
          refine wpT_one (by rfl) (by rfl) (fun K hK => ?_)
          go_big_op
          go_at_call 10
          refine SL.out.mono ?_
          rintro e w4 ⟨hke, ca', cc', gh', rfl, how, hnew⟩
          refine hK _ _ trivial ?_
          clear hK K
          have HNK := Lib.hid (show ∀ i, Has ca (some ⟨kt, 0, none⟩) (some ⟨kg, 0, none⟩) gh X.groups.length i → i ≠ kb ∧ i ≠ w.heap.size from fun i hi => by have := II.out.has i hi; have := HNE.out; have := HLB.out; have := S1.out; have := HB2.out.size; omega)
          have K1e := Lib.hid (hke.blk K1d.out fun e => (HNK.out _ e).2 rfl)
          have KBe := Lib.hid (hke.blk KBd.out fun e => (HNK.out _ e).1 rfl)
          refine wpT_det (by rfl) (by rfl) (fun K hK => ?_); go_big_quiet_op; refine hK _ ?_; clear hK K
          try simp only [Act.put, List.setIfInBounds_toArray, List.set_cons_zero, List.set_cons_succ]
          refine wpT_det (by rfl) (by rfl) (fun K hK => ?_); go_big_quiet_op; refine hK _ ?_; clear hK K
          try simp only [Act.put, List.setIfInBounds_toArray, List.set_cons_zero, List.set_cons_succ]
          refine wpT_det (by rfl) (by rfl) (fun K hK => ?_); go_big_quiet_op; refine hK _ ?_; clear hK K
          try simp only [Act.put, List.setIfInBounds_toArray, List.set_cons_zero, List.set_cons_succ]
          have b0 := KBe.out.cell 0
          have b1 := KBe.out.cell 1
          have b2 := KBe.out.cell 2
          have b3 := KBe.out.cell 3
          have bf := fun i => KBe.out.frozen i
          simp at b0 b1 b2 b3
          refine wpT_one (by rfl) (by rfl) (fun K hK => ?_)
          go_big_op
          refine hK _ _ trivial ?_
          clear hK K
          try simp only [Act.put, List.setIfInBounds_toArray, List.set_cons_zero, List.set_cons_succ]
          refine wpT_det (by rfl) (by rfl) (fun K hK => ?_); go_big_quiet_op; refine hK _ ?_; clear hK K
          try simp only [Act.put, List.setIfInBounds_toArray, List.set_cons_zero, List.set_cons_succ]
          refine wpT_nil ?_
          go_upto_region 10 with (fail)
          refine genR (p := fun W => Code.wp _ _ _ _ W) ?_
          intro w6 hw6
          have KS := Lib.hid (show Keep (fun j => j = kb) w4 w6 by rw [← hw6]; exact ((((Keep.set _ _ _ (by rfl)).trans (Keep.set _ _ _ (by rfl))).trans (Keep.set _ _ _ (by rfl))).trans (Keep.set _ _ _ (by rfl))))
          have K1f := Lib.hid (KS.out.blk K1e.out (by have := HLB.out; have := S1.out; omega))
          have KBf := Lib.hid (show Blk w6 kb 26 #[.int .i64 X'.now, .slice ca' X'.cpus.length cc', .slice (some ⟨kt, 0, none⟩) X'.tasks.length 12, .slice (some ⟨kg, 0, none⟩) X'.groups.length 8] by rw [← hw6]; exact ((((KBe.out.set_ 0 _).set_ 1 _).set_ 2 _).set_ 3 _))
          have I2 := Lib.hid (show RI W.heap.size w.heap.size kt kg kb w2 w6 ca' cc' gh' X' from ⟨K1f.out, KBf.out, how.keep KS.out fun i hi e => by
            rcases hnew i hi with h | h
            · exact (HNK.out i h).1 e
            · have e2 : i = kb := e; have := II.out.bx.lt; have := BD.out.size; omega,
            fun i hi => by
            rcases hnew i hi with h | h
            · exact II.out.has i h
            · have := II.out.keep.size; have := BD.out.size; exact .inr (.inr (by omega)),
            ((II.out.keep.trans (Keep.of_below BD.out)).then_ hke fun i hi h => by rcases II.out.has i h with h | h | h; exact .inl h; exact .inr (.inl h); omega).trans (KS.out.mono fun i _ e => .inr (.inr e))⟩)
          clear hw6 KS K1f KBf how hnew hke K1e KBe HNK
          go_wp2
          go_roundw
          case rel => exact ⟨k + 1, X', ca', cc', gh', HLT.out, by go_num, rfl, HFS.out.trans HQ.out, sp_fit HX.out HWL.out HQ.out, I2.out⟩
          case measure => have := HLT.out; simp [intOf]; omega
        · go_big_op
          refine hK _ _ trivial ?_
          clear hK K
          try simp only [Act.put, List.setIfInBounds_toArray, List.set_cons_zero, List.set_cons_succ]
          refine wpT_one (by rfl) (by rfl) (fun K hK => ?_)
          go_big_op
          refine hK _ _ trivial ?_
          clear hK K
          try simp only [Act.put, List.setIfInBounds_toArray, List.set_cons_zero, List.set_cons_succ]
          refine wpT_one (by rfl) (by rfl) (fun K hK => ?_)
          go_big_op
          go_at_call 10
          refine SL.out.mono ?_
          rintro e w4 ⟨hke, ca', cc', gh', rfl, how, hnew⟩
          refine hK _ _ trivial ?_
          clear hK K
          have HNK := Lib.hid (show ∀ i, Has ca (some ⟨kt, 0, none⟩) (some ⟨kg, 0, none⟩) gh X.groups.length i → i ≠ kb ∧ i ≠ w.heap.size from fun i hi => by have := II.out.has i hi; have := HNE.out; have := HLB.out; have := S1.out; have := HB2.out.size; omega)
          have K1e := Lib.hid (hke.blk K1d.out fun e => (HNK.out _ e).2 rfl)
          have KBe := Lib.hid (hke.blk KBd.out fun e => (HNK.out _ e).1 rfl)
          refine wpT_det (by rfl) (by rfl) (fun K hK => ?_); go_big_quiet_op; refine hK _ ?_; clear hK K
          try simp only [Act.put, List.setIfInBounds_toArray, List.set_cons_zero, List.set_cons_succ]
          refine wpT_det (by rfl) (by rfl) (fun K hK => ?_); go_big_quiet_op; refine hK _ ?_; clear hK K
          try simp only [Act.put, List.setIfInBounds_toArray, List.set_cons_zero, List.set_cons_succ]
          refine wpT_det (by rfl) (by rfl) (fun K hK => ?_); go_big_quiet_op; refine hK _ ?_; clear hK K
          try simp only [Act.put, List.setIfInBounds_toArray, List.set_cons_zero, List.set_cons_succ]
          have b0 := KBe.out.cell 0
          have b1 := KBe.out.cell 1
          have b2 := KBe.out.cell 2
          have b3 := KBe.out.cell 3
          have bf := fun i => KBe.out.frozen i
          simp at b0 b1 b2 b3
          refine wpT_one (by rfl) (by rfl) (fun K hK => ?_)
          go_big_op
          refine hK _ _ trivial ?_
          clear hK K
          try simp only [Act.put, List.setIfInBounds_toArray, List.set_cons_zero, List.set_cons_succ]
          refine wpT_det (by rfl) (by rfl) (fun K hK => ?_); go_big_quiet_op; refine hK _ ?_; clear hK K
          try simp only [Act.put, List.setIfInBounds_toArray, List.set_cons_zero, List.set_cons_succ]
          refine wpT_nil ?_
          go_upto_region 10 with (fail)
          refine genR (p := fun W => Code.wp _ _ _ _ W) ?_
          intro w6 hw6
          have KS := Lib.hid (show Keep (fun j => j = kb) w4 w6 by rw [← hw6]; exact ((((Keep.set _ _ _ (by rfl)).trans (Keep.set _ _ _ (by rfl))).trans (Keep.set _ _ _ (by rfl))).trans (Keep.set _ _ _ (by rfl))))
          have K1f := Lib.hid (KS.out.blk K1e.out (by have := HLB.out; have := S1.out; omega))
          have KBf := Lib.hid (show Blk w6 kb 26 #[.int .i64 X'.now, .slice ca' X'.cpus.length cc', .slice (some ⟨kt, 0, none⟩) X'.tasks.length 12, .slice (some ⟨kg, 0, none⟩) X'.groups.length 8] by rw [← hw6]; exact ((((KBe.out.set_ 0 _).set_ 1 _).set_ 2 _).set_ 3 _))
          have I2 := Lib.hid (show RI W.heap.size w.heap.size kt kg kb w2 w6 ca' cc' gh' X' from ⟨K1f.out, KBf.out, how.keep KS.out fun i hi e => by
            rcases hnew i hi with h | h
            · exact (HNK.out i h).1 e
            · have e2 : i = kb := e; have := II.out.bx.lt; have := BD.out.size; omega,
            fun i hi => by
            rcases hnew i hi with h | h
            · exact II.out.has i h
            · have := II.out.keep.size; have := BD.out.size; exact .inr (.inr (by omega)),
            ((II.out.keep.trans (Keep.of_below BD.out)).then_ hke fun i hi h => by rcases II.out.has i h with h | h | h; exact .inl h; exact .inr (.inl h); omega).trans (KS.out.mono fun i _ e => .inr (.inr e))⟩)
          clear hw6 KS K1f KBf how hnew hke K1e KBe HNK
          go_wp2
          go_roundw
          case rel => exact ⟨k + 1, X', ca', cc', gh', HLT.out, by go_num, rfl, HFS.out.trans HQ.out, sp_fit HX.out HWL.out HQ.out, I2.out⟩
          case measure => have := HLT.out; simp [intOf]; omega
    · obtain rfl : k = L.length := by omega
      have HFA := Lib.hid (show L.foldlM lineSp blankM = some X by have := HF.out; rw [List.take_length] at this; exact this)
      have HOUT := Lib.hid (out_done HLE.out (by have := len_s s; have := HS.out; omega) HFA.out)
      have TX := Lib.hid (fun (W' : World) (hw : WA W' ca (some ⟨kt, 0, none⟩) (some ⟨kg, 0, none⟩) gh X) => sText_any ca cc (some ⟨kt, 0, none⟩) 12 (some ⟨kg, 0, none⟩) 8 gh X W' hw HX.out.fitG HX.out.next)
      have i4 : (L.length : Int) ≤ (L.length : Int) := Int.le_refl _
      clear hlt hk
      by_cases he : s.data.toList = []
      · have HZ := Lib.hid (show outSp s.data.toList = none by rw [HOUT.out, if_neg]; exact fun h => h.1 he)
        have q0 : (s.toList == []) = true := by rw [ByteArray.toList_eq, he]; rfl
        have K1r := Lib.hid II.out.k1
        clear he
        go_upto_region 13 with (fail)
        clear q0
        have d0 := K1r.out.cell 0
        have d1 := K1r.out.cell 1
        have d2 := K1r.out.cell 2
        have d3 := K1r.out.cell 3
        have df := fun i => K1r.out.frozen i
        simp at d0 d1 d2 d3
        go_wp2
        have kk := Lib.hid (show Keep (fun i => i = w.heap.size) wr ((((wr.setCell ⟨w.heap.size, 0, none⟩ (.int .i64 0)).setCell ⟨w.heap.size, 1, none⟩ (.slice none 0 0)).setCell ⟨w.heap.size, 2, none⟩ (.slice none 0 0)).setCell ⟨w.heap.size, 3, none⟩ (.slice none 0 0)) from ((((Keep.set _ _ _ (by rfl)).trans (Keep.set _ _ _ (by rfl))).trans (Keep.set _ _ _ (by rfl))).trans (Keep.set _ _ _ (by rfl))))
        refine bodyPost_ret (v := .tuple #[.agg #[.int .i64 0, .slice none 0 0, .slice none 0 0, .slice none 0 0], .bool false]) (by simp [results, Tryz.results4, go_sem, *]) rfl ?_
        rw [HZ.out]
        refine ⟨wh0, rfl, ?_, own0 _ _⟩
        exact BR.out.trans (kk.out.below BR.out.size fun i h => by omega)
      · have q0 : (s.toList == []) = false := by rw [ByteArray.toList_eq]; simpa using he
        have KBr := Lib.hid II.out.bx
        by_cases ht : textM X = s.data.toList
        · have HZ := Lib.hid (show outSp s.data.toList = some X by rw [HOUT.out, if_pos ⟨he, ht⟩])
          have q1 : ((strB (textM X)).toList == s.toList) = true := by rw [ht]; exact beq_self_eq_true _
          have q2 : ((strB (textM X)).toList != s.toList) = false := by simp [bne, q1]
          clear he ht
          have c0 := KBr.out.cell 0
          have c1 := KBr.out.cell 1
          have c2 := KBr.out.cell 2
          have c3 := KBr.out.cell 3
          have cf := fun i => KBr.out.frozen i
          simp at c0 c1 c2 c3
          go_upto_region 14 with (go_at_call 11; refine (TX.out _ (II.out.ow.own.wa)).mono ?_; rintro e w5 ⟨rfl, hb5⟩)
          clear q0 q1 q2
          clear c0 c1 c2 c3 cf
          have K1r := Lib.hid (II.out.k1.below hb5 II.out.k1.lt)
          have KBs := Lib.hid (KBr.out.below hb5 KBr.out.lt)
          have OW5 := Lib.hid (II.out.ow.own.below hb5)
          have B5 := Lib.hid (BR.out.andThen hb5)
          have c0 := KBs.out.cell 0
          have c1 := KBs.out.cell 1
          have c2 := KBs.out.cell 2
          have c3 := KBs.out.cell 3
          have cf := fun i => KBs.out.frozen i
          simp at c0 c1 c2 c3
          have d0 := K1r.out.cell 0
          have d1 := K1r.out.cell 1
          have d2 := K1r.out.cell 2
          have d3 := K1r.out.cell 3
          have df := fun i => K1r.out.frozen i
          simp at d0 d1 d2 d3
          go_wp2
          have kk := Lib.hid (show Keep (fun i => i = w.heap.size) w5 ((((w5.setCell ⟨w.heap.size, 0, none⟩ (.int .i64 X.now)).setCell ⟨w.heap.size, 1, none⟩ (.slice ca X.cpus.length cc)).setCell ⟨w.heap.size, 2, none⟩ (.slice (some ⟨kt, 0, none⟩) X.tasks.length 12)).setCell ⟨w.heap.size, 3, none⟩ (.slice (some ⟨kg, 0, none⟩) X.groups.length 8)) from ((((Keep.set _ _ _ (by rfl)).trans (Keep.set _ _ _ (by rfl))).trans (Keep.set _ _ _ (by rfl))).trans (Keep.set _ _ _ (by rfl))))
          refine bodyPost_ret (v := .tuple #[.agg #[.int .i64 X.now, .slice ca X.cpus.length cc, .slice (some ⟨kt, 0, none⟩) X.tasks.length 12, .slice (some ⟨kg, 0, none⟩) X.groups.length 8], .bool true]) (by simp [results, Tryz.results4, go_sem, *]) rfl ?_
          rw [HZ.out]
          refine ⟨⟨ca, cc, some ⟨kt, 0, none⟩, 12, some ⟨kg, 0, none⟩, 8, gh⟩, rfl, B5.out.trans (kk.out.below B5.out.size fun i h => by omega), ?_⟩
          exact (OW5.out.keep kk.out fun i hi e => by have e2 : i = w.heap.size := e; have := (OW5.out.has hi).1; have := S1.out; omega).mono (by have := S1.out; omega)
        · have HZ := Lib.hid (show outSp s.data.toList = none by rw [HOUT.out, if_neg]; exact fun h => ht h.2)
          have q1 : ((strB (textM X)).toList == s.toList) = false := by rw [ByteArray.toList_eq, ByteArray.toList_eq]; show (textM X == s.data.toList) = false; simpa using ht
          have q2 : ((strB (textM X)).toList != s.toList) = true := by simp [bne, q1]
          clear he ht
          have c0 := KBr.out.cell 0
          have c1 := KBr.out.cell 1
          have c2 := KBr.out.cell 2
          have c3 := KBr.out.cell 3
          have cf := fun i => KBr.out.frozen i
          simp at c0 c1 c2 c3
          go_upto_region 13 with (go_at_call 11; refine (TX.out _ (II.out.ow.own.wa)).mono ?_; rintro e w5 ⟨rfl, hb5⟩)
          clear q0 q1 q2
          clear c0 c1 c2 c3 cf
          have K1r := Lib.hid (II.out.k1.below hb5 II.out.k1.lt)
          have B5 := Lib.hid (BR.out.andThen hb5)
          have d0 := K1r.out.cell 0
          have d1 := K1r.out.cell 1
          have d2 := K1r.out.cell 2
          have d3 := K1r.out.cell 3
          have df := fun i => K1r.out.frozen i
          simp at d0 d1 d2 d3
          go_wp2
          have kk := Lib.hid (show Keep (fun i => i = w.heap.size) w5 ((((w5.setCell ⟨w.heap.size, 0, none⟩ (.int .i64 0)).setCell ⟨w.heap.size, 1, none⟩ (.slice none 0 0)).setCell ⟨w.heap.size, 2, none⟩ (.slice none 0 0)).setCell ⟨w.heap.size, 3, none⟩ (.slice none 0 0)) from ((((Keep.set _ _ _ (by rfl)).trans (Keep.set _ _ _ (by rfl))).trans (Keep.set _ _ _ (by rfl))).trans (Keep.set _ _ _ (by rfl))))
          refine bodyPost_ret (v := .tuple #[.agg #[.int .i64 0, .slice none 0 0, .slice none 0 0, .slice none 0 0], .bool false]) (by simp [results, Tryz.results4, go_sem, *]) rfl ?_
          rw [HZ.out]
          refine ⟨wh0, rfl, ?_, own0 _ _⟩
          exact B5.out.trans (kk.out.below B5.out.size fun i h => by omega)
theorem sRead_any (s : ByteArray) (w : World) : Calls Tryz.prog 4 #[.string s] w (RPost (readW (outSp s.data.toList)) (outSp s.data.toList).isSome w) := by
  by_cases h : s.size ≤ 20000
  · exact sRead_main s w h
  · have e : outSp s.data.toList = none := by unfold outSp; rw [if_neg]; have := len_s s; omega
    rw [e]
    exact sRead_long s w (by omega)
end
end Go.Proofs.YtomllcclallcdaaGreatDoor
