/- A world in writing: the reference. A world in writing: the reference, whole. -/
import Derived.Test.YtknfpigaognklaaGreatDoorZn
import Derived.Test.YtknfpigaognklaaGreatDoorAl
import Derived.Laws.OwnMore
namespace Go.Proofs.YtknfpigaognklaaGreatDoor
open Go.RowKit Go.Sort
attribute [local go_sem] strB_size
theorem IntS.fresh0 (L : List Int) (cs : Array Value) (T : TypeId) (hcs : cs = (L.map (Value.int .i64)).toArray) (w : World) : IntS (w.alloc (.cells cs T)) (some ⟨w.heap.size, 0, none⟩) L := by
  subst hcs
  refine ⟨fun k hk => ⟨w.heap.size, 0, rfl, by simp, ?_⟩⟩
  have := (Blk.new w T (L.map (Value.int .i64)).toArray).cell k
  rw [Nat.zero_add, this]
  simp [hk]
theorem row_below {w W : World} {base : Nat} {e : TypeId} {size : Nat} {v : Value} {n : Nat} {xs : List Value} (h : w.ownsRow base e size v n xs) (hb : Below w.heap.size w W) : W.ownsRow base e size v n xs :=
  h.kept (row := none) ⟨hb.os, hb.tape, hb.output, hb.size, fun k hk _ => hb.block k hk⟩ (by cases v.ownBlock <;> simp)
theorem row_form {w : World} {base : Nat} {e : TypeId} {size : Nat} {v : Value} {n : Nat} {xs : List Value} (h : w.ownsRow base e size v n xs) : ∃ a cap, v = .slice a n cap := by
  rcases h.2 with ⟨rfl, rfl⟩ | ⟨g, cap, cur, rfl, _⟩
  · exact ⟨none, 0, rfl⟩
  · exact ⟨_, cap, rfl⟩
/-- a row of its own, read as numbers -/
theorem IntS.own {w : World} {base : Nat} {e : TypeId} {a : Option Addr} {n cap : Nat} {L : List Int} (h : w.ownsRow base e 1 (.slice a n cap) n (L.map (Value.int .i64))) : IntS w a L := by
  refine ⟨fun k hk => ?_⟩
  have hn : n = L.length := by have := h.1; simp at this; omega
  rcases h.2 with ⟨_, h0⟩ | ⟨g, cap', cur, h1, _, hg, _⟩
  · omega
  · injection h1 with h1 _ _
    subst h1
    refine ⟨g, 0, rfl, (Array.getElem?_eq_some_iff.1 hg).1, ?_⟩
    have := h.cells (g := g) rfl k (.int .i64 L[k]) (by rw [List.getElem?_map, List.getElem?_eq_getElem hk]; rfl)
    rw [← this]
    congr 1
    unfold Addr.add
    simp
theorem one_new (w : World) (v : Value) (t : TypeId) : ∀ j u, [v][j]? = some u → (w.alloc (.cells #[v] t)).cell? ((⟨w.heap.size, 0, none⟩ : Addr).add j) = some u := by
  intro j u hj
  match j, hj with
  | 0, hj => simp at hj; subst hj; simp [Addr.add]
theorem two_new (w : World) (v v2 : Value) (t : TypeId) : ∀ j u, [v, v2][j]? = some u → (w.alloc (.cells #[v, v2] t)).cell? ((⟨w.heap.size, 0, none⟩ : Addr).add j) = some u := by
  intro j u hj
  match j, hj with
  | 0, hj => simp at hj; subst hj; simp [Addr.add]
  | 1, hj => simp at hj; subst hj; simp [Addr.add]
theorem infoInt : (Tryz.prog.info? 3).map (fun i => (i.zero, i.size, i.bytes)) = some (some (Value.int .i64 0), 1, 8) := by kernel_rfl
set_option maxHeartbeats 400000 in
theorem sBit_any (b : Bool) (w : World) : Calls Tryz.prog 25 #[.bool b] w fun e w' => e = .returned (.int .i64 (bitM b)) ∧ w = w' := by
  cases b
  all_goals
    go_enter Tryz.func25, Tryz.ntmps25
    go_wp2
    go_ret
    exact ⟨rfl, rfl⟩
theorem head_name (s : ByteArray) : ((⟨#[103, 114, 111, 117, 112, 32]⟩ : ByteArray) ++ s).data.toList = [103, 114, 111, 117, 112, 32] ++ s.data.toList := by simp
/-- the texts so far are short -/
theorem headT_len {M : WorldM} (NO : NumOk M) {k : Nat} (hk : k < 8) (hu : (grp M k).used = true) : (headT M k).length ≤ 200 := by
  have h1 := lineB_len (w := [103, 114, 111, 117, 112, 32] ++ nameT M k) (NO.grpF k hk hu)
  have h2 : (nameT M k).length ≤ 8 := by
    unfold nameT
    split
    · simp
    · have := NO.nameF k hk (by assumption) hu; rw [Array.length_toList]; exact this
  simp only [List.length_append, List.length_cons, List.length_nil] at h1
  unfold headT
  omega
theorem shelfT_len {M : WorldM} (NO : NumOk M) {k c : Nat} (hk : k < 8) (hu : (grp M k).used = true) (hc : c < (grp M k).shelves.length) : (shelfT M k c).length ≤ 200 := by
  have h1 := lineB_len (w := [115, 104, 101, 108, 102]) (NO.sheF k c hk hu hc)
  simp only [List.length_cons, List.length_nil] at h1
  unfold shelfT
  omega
theorem pairsN_len (x : BandM) : ∀ n, (pairsN x n).length = 2 * n
  | 0 => rfl
  | n + 1 => by simp [pairsN, pairsN_len x n]; omega
theorem bandN_len (k : Nat) (x : BandM) (n : Nat) : (bandN k x n).length = 4 + 2 * n := by simp [bandN, pairsN_len]; omega
theorem bandN_snoc (k : Nat) (x : BandM) (n : Nat) : bandN k x (n + 1) = bandN k x n ++ [x.locals.getD n 0, bitM (x.dry.getD n false)] := by simp [bandN, pairsN]
set_option maxRecDepth 100000 in
set_option maxHeartbeats 8000000 in
theorem sGroup_any (ca : Option Addr) (cc : Nat) (ta : Option Addr) (tc : Nat) (ga : Option Addr) (gc : Nat) (gh : Nat → GH) (M : WorldM) (w : World) (hs : WA w ca ta ga gh M) (FA : Facts M) (NO : NumOk M) (k : Nat) (hk : k < 8) (hu : (grp M k).used = true) :
    Calls Tryz.prog 26 #[.agg #[.int .i64 M.now, .slice ca M.cpus.length cc, .slice ta M.tasks.length tc, .slice ga M.groups.length gc], .int .i64 k] w fun e w' => e = .returned (.string (strB (groupT M k))) ∧ Below w.heap.size w w' := by
  have HFA := Lib.hid FA
  have HNO := Lib.hid NO
  have HU := Lib.hid hu
  have hlg : k < M.groups.length := by have := FA.tree.len; omega
  clear FA NO
  go_enter Tryz.func26, Tryz.ntmps26
  go_upto_region 1 with (fail)
  refine PA.gen (P := fun W => Code.wp _ _ _ _ W) hs ?_
  intro W b1 s1 pw
  have PW0 := Lib.hid pw
  obtain ⟨q0, q1, q2, q3, q4, q5⟩ := pw
  clear s1
  obtain ⟨b, o, rfl, hB, c0, c1, c2, c3, c4, c5, c6, c7, c8, c9, c10, c11, c12, c13⟩ := q5.group_ hlg
  have hi0 : (0 : Int) ≤ (k : Int) := by omega
  have hi1 : (k : Int) < (M.groups.length : Int) := by omega
  go_upto_region 2 with (fail)
  refine gen1 (p := fun W => Code.wp _ _ _ _ W) ?_
  intro W2 b2 s2 kx
  have y1 := kx.cell 1
  have y2 := kx.cell 2
  have y3 := kx.cell 3
  have y4 := kx.cell 4
  have y5 := kx.cell 5
  have y6 := kx.cell 6
  have y7 := kx.cell 7
  have y8 := kx.cell 8
  have y9 := kx.cell 9
  have y10 := kx.cell 10
  have y11 := kx.cell 11
  have y12 := kx.cell 12
  have y13 := kx.cell 13
  simp at y1 y2 y3 y4 y5 y6 y7 y8 y9 y10 y11 y12 y13
  have hx := kx.lt
  have PW2 := Lib.hid (PW0.out.keep b2)
  have bel := Lib.hid (b1.andThen b2)
  clear kx s2 c0 c1 c2 c3 c4 c5 c6 c7 c8 c9 c10 c11 c12 c13 q0 q1 q2 q3 q4 q5 PW0 b1 b2 hs hB hu
  by_cases h0 : k = 0
  · have hz : ((k : Int) == 0) = true := by simp [h0]
    have hnm : (⟨#[45]⟩ : ByteArray).data.toList = nameT M k := by rw [nameT, if_pos h0]
    have hns : (⟨#[45]⟩ : ByteArray).size ≤ 8 := by decide
    have HNM := Lib.hid hnm
    clear hnm
    clear h0
    go_upto_region 6 with (go_at_call 24; refine (sRow_any _ _ _ [(k : Int), (grp M k).parent, (grp M k).weight, (grp M k).cpus, (grp M k).period, (grp M k).next, (grp M k).sum] _ (IntS.fresh0 _ _ _ rfl _) (by rw [ByteArray.size_append']; have : (⟨#[103, 114, 111, 117, 112, 32]⟩ : ByteArray).size = 6 := rfl; omega) (by simp) (HNO.out.grpF k hk HU.out)).mono ?_; rintro e w3 ⟨rfl, hb3⟩; rw [head_name, show (⟨#[45]⟩ : ByteArray).data.toList = nameT M k from HNM.out, show lineB ([103, 114, 111, 117, 112, 32] ++ nameT M k) [(k : Int), (grp M k).parent, (grp M k).weight, (grp M k).cpus, (grp M k).period, (grp M k).next, (grp M k).sum] = headT M k from rfl])
    have hb3' := ((Below.refl _ W2).alloc (Nat.le_refl _) _).andThen hb3
    have y8 := (hb3'.cell (p := ⟨W.heap.size, 8, none⟩) hx).trans y8
    have y9 := (hb3'.cell (p := ⟨W.heap.size, 9, none⟩) hx).trans y9
    have y10 := (hb3'.cell (p := ⟨W.heap.size, 10, none⟩) hx).trans y10
    have y11 := (hb3'.cell (p := ⟨W.heap.size, 11, none⟩) hx).trans y11
    have y12 := (hb3'.cell (p := ⟨W.heap.size, 12, none⟩) hx).trans y12
    have y13 := (hb3'.cell (p := ⟨W.heap.size, 13, none⟩) hx).trans y13
    have hx := Nat.lt_of_lt_of_le hx hb3'.size
    have PW3 := Lib.hid (PW2.out.keep hb3')
    have bel3 := Lib.hid (bel.out.andThen hb3')
    clear hb3 hb3' PW2 bel
    go_wp2
    go_loopw [7, 8] (fun t i wr => ∃ c : Nat, c ≤ (grp M k).shelves.length ∧ i = .int .i64 c ∧ t = .string (strB (headT M k ++ catB (shelfT M k) c)) ∧ Below w3.heap.size w3 wr) (fun _ i _ => (grp M k).shelves.length - (intOf i).toNat)
    case atStart => exact ⟨0, by omega, rfl, str_eq (by rw [catB, List.append_nil]), Below.refl _ _⟩
    case round =>
      obtain ⟨c, hc, rfl, rfl, hb⟩ := hrel
      have y8 := (hb.cell (p := ⟨W.heap.size, 8, none⟩) hx).trans y8
      have y9 := (hb.cell (p := ⟨W.heap.size, 9, none⟩) hx).trans y9
      have y10 := (hb.cell (p := ⟨W.heap.size, 10, none⟩) hx).trans y10
      have y11 := (hb.cell (p := ⟨W.heap.size, 11, none⟩) hx).trans y11
      have y12 := (hb.cell (p := ⟨W.heap.size, 12, none⟩) hx).trans y12
      have y13 := (hb.cell (p := ⟨W.heap.size, 13, none⟩) hx).trans y13
      have hx := Nat.lt_of_lt_of_le hx hb.size
      have PW4 := Lib.hid (PW3.out.keep hb)
      have HX := Lib.hid (show (headT M k ++ catB (shelfT M k) c).length ≤ 1000 by rw [List.length_append]; have := headT_len HNO.out hk HU.out; have := catB_len (f := shelfT M k) (B := 200) c (fun j hj => shelfT_len HNO.out hk HU.out (by omega)); have := HFA.out.gok.she k hk HU.out; have := HFA.out.c4; omega)
      by_cases hlt : c < (grp M k).shelves.length
      · have pw4 := PW4.out
        obtain ⟨p0, p1, p2, p3, p4, p5⟩ := pw4
        obtain ⟨bs, os, es, hBs, f0, f1, f2, f3, f4⟩ := p5.shelf_ hlg hlt
        rw [es] at y13
        have hc0 : (0 : Int) ≤ (c : Int) := by omega
        have hc9 : (c : Int) < 9 := by have := HFA.out.gok.she k hk HU.out; have := HFA.out.c4; omega
        have hc1 : (c : Int) < ((grp M k).shelves.length : Int) := by omega
        go_upto_region 10 with (fail)
        refine gen1 (p := fun W => Code.wp _ _ _ _ W) ?_
        intro W5 b5 s5 kz
        have z0 := kz.cell 0
        have z1 := kz.cell 1
        have z2 := kz.cell 2
        have z3 := kz.cell 3
        have z4 := kz.cell 4
        simp at z0 z1 z2 z3 z4
        have hz := kz.lt
        have HBEL := Lib.hid (hb.andThen b5)
        have bd : Below W5.heap.size W5 W5.drew := ⟨rfl, rfl, rfl, Nat.le_refl _, fun _ _ => rfl⟩
        have q0 := fun d os => cell_regrown z0 d os
        have q1 := fun d os => cell_regrown z1 d os
        have q2 := fun d os => cell_regrown z2 d os
        have q3 := fun d os => cell_regrown z3 d os
        have q4 := fun d os => cell_regrown z4 d os
        have HC := Lib.hid (show strB (headT M k ++ catB (shelfT M k) c) ++ strB (shelfT M k c) = strB (headT M k ++ catB (shelfT M k) (c + 1)) by rw [strB_append, catB, List.append_assoc])
        have HY := Lib.hid (shelfT_len HNO.out hk HU.out hlt)
        have HSR := Lib.hid (HNO.out.sheF k c hk HU.out hlt)
        have HSH := Lib.hid (show lineB [115, 104, 101, 108, 102] [(k : Int), (c : Int), (she M k c).floor, bitM (she M k c).on, (she M k c).v, (she M k c).w, (she M k c).sum] = shelfT M k c from rfl)
        have hX1 : ((headT M k ++ catB (shelfT M k) c).length : Int) ≤ 1000 := by have := HX.out; omega
        have hY1 : ((shelfT M k c).length : Int) ≤ 200 := by have := HY.out; omega
        clear kz s5 f0 f1 f2 f3 f4 y8 y9 y10 y11 y12 y13 p0 p1 p2 p3 p4 p5 z0 z1 z2 z3 z4 b5 hb
        refine region_or [false, false, false, false, false, false, false, false, false, false, false, false, false, true, true, true, false, false] [0, 1, 2, 3, 4, 5, 6, 8, 9, 10, 11, 12, 13, 7, 14, 15, 16, 17] (by kernel_rfl) (by kernel_rfl) rfl (by kernel_rfl) (by kernel_rfl) ?_
        simp only [permL, List.getElem?_cons_zero, List.getElem?_cons_succ, Option.toList_some, List.cons_append, List.nil_append]
        repeat (first | (refine wpR_skip (by rfl) ?_; simp only [Act.put, List.setIfInBounds_toArray, List.set_cons_zero, List.set_cons_succ]) | (refine wpR_det (by rfl) (fun K hK => ?_); go_big_quiet_op; refine hK _ ?_; clear hK K))
        refine wpR_bar (by rfl) (fun K hK => ?_)
        go_big_op
        go_at_call 25
        refine (sBit_any _ _).mono ?_
        rintro e w' ⟨rfl, rfl⟩
        refine hK _ _ (regrown_of_below bd) ?_
        clear hK K
        refine wpR_bar (by rfl) (fun K hK => ?_)
        go_big_op
        refine hK _ _ (regrown_of_below (bd.andThen ((Below.refl _ _).alloc (Nat.le_refl _) _))) ?_
        clear hK K
        refine wpR_bar (by rfl) (fun K hK => ?_)
        go_big_op
        go_at_call 24
        refine (sRow_any ⟨#[115, 104, 101, 108, 102]⟩ _ _ [(k : Int), (c : Int), (she M k c).floor, bitM (she M k c).on, (she M k c).v, (she M k c).w, (she M k c).sum] _ (IntS.fresh _ _ _ rfl _) (by decide) (by simp) HSR.out).mono ?_
        rintro e w6 ⟨rfl, hb6⟩
        rw [show (⟨#[115, 104, 101, 108, 102]⟩ : ByteArray).data.toList = [115, 104, 101, 108, 102] from rfl, HSH.out]
        refine hK _ _ (regrown_of_below ((bd.andThen ((Below.refl _ _).alloc (Nat.le_refl _) _)).andThen hb6)) ?_
        clear hK K
        generalize headT M k ++ catB (shelfT M k) c = X at *
        generalize shelfT M k c = Y at *
        repeat (first | (refine wpR_skip (by rfl) ?_; simp only [Act.put, List.setIfInBounds_toArray, List.set_cons_zero, List.set_cons_succ]) | (refine wpR_det (by rfl) (fun K hK => ?_); go_big_quiet_op; refine hK _ ?_; clear hK K))
        refine wpR_nil ?_
        go_wp2
        skip
        go_roundw
        case rel => exact ⟨c + 1, by omega, by go_num, str_eq HC.out, HBEL.out.andThen ((bd.andThen ((Below.refl _ _).alloc (Nat.le_refl _) _)).andThen hb6)⟩
        case measure => simp [intOf]; omega
      · have hcl : c = (grp M k).shelves.length := by omega
        have HT := Lib.hid (show headT M k ++ catB (shelfT M k) c ++ bandT k (grp M k).band = groupT M k by rw [hcl]; rfl)
        have hge : ((grp M k).shelves.length : Int) ≤ (c : Int) := by omega
        have hdec : decide ((c : Int) < ((grp M k).shelves.length : Int)) = false := decide_eq_false (by omega)
        have HBEL := Lib.hid (bel3.out.andThen hb)
        clear hlt hcl hc
        have hX1 : ((headT M k ++ catB (shelfT M k) c).length : Int) ≤ 1000 := by have := HX.out; omega
        generalize headT M k ++ catB (shelfT M k) c = X at *
        by_cases hq : 0 < (grp M k).band.quota
        · have HQ := Lib.hid hq
          have hdq : decide (0 < (grp M k).band.quota) = true := decide_eq_true hq
          have HB := Lib.hid (show bandT k (grp M k).band = lineB [98, 97, 110, 100] (bandN k (grp M k).band (grp M k).band.locals.length) by rw [bandT, if_pos hq])
          have hbd := HFA.out.gok.dry k hk HU.out hq
          have HLC := Lib.hid (show (grp M k).band.locals.length ≤ 4 by have := HFA.out.c4; omega)
          have HDL := Lib.hid (show (grp M k).band.dry.length = (grp M k).band.locals.length by omega)
          clear hbd
          go_upto_region 13 with (fail)
          have HR0 := Lib.hid (World.ownsRow_lit (base := wr.heap.size) (e := 3) (size := 1) wr #[.int .i64 (k : Int), .int .i64 (grp M k).band.quota, .int .i64 (grp M k).band.pool, .int .i64 (grp M k).band.spent] 4 (Nat.le_refl _) (by decide) rfl)
          obtain ⟨i0, hi, hz0, hz1, hz2⟩ := info_parts infoInt
          have bwr : Below wr.heap.size wr (wr.alloc (.cells #[.int .i64 (k : Int), .int .i64 (grp M k).band.quota, .int .i64 (grp M k).band.pool, .int .i64 (grp M k).band.spent] 3)) := (Below.refl _ _).alloc (Nat.le_refl _) _
          have PWR := PW4
          have HXR := Lib.hid hx
          have Y11 := Lib.hid y11
          have Y12 := Lib.hid y12
          have e11 := (bwr.cell (p := ⟨W.heap.size, 11, none⟩) hx).trans y11
          clear y8 y9 y10 y11 y12 y13 hq
          go_wp2
          obtain ⟨wq, hwq⟩ : ∃ wq, wr.alloc (.cells #[.int .i64 (k : Int), .int .i64 (grp M k).band.quota, .int .i64 (grp M k).band.pool, .int .i64 (grp M k).band.spent] 3) = wq := ⟨_, rfl⟩
          rw [hwq] at bwr HR0 ⊢
          have hwb := Lib.hid hwq
          clear hwq e11
          obtain ⟨wo, hwo⟩ : ∃ wo : World, wo = wr := ⟨_, rfl⟩
          subst hwo
          go_loopw [10, 11] (fun l i wr => ∃ c2 : Nat, c2 ≤ (grp M k).band.locals.length ∧ i = .int .i64 c2 ∧ wr.ownsRow wo.heap.size 3 1 l (bandN k (grp M k).band c2).length ((bandN k (grp M k).band c2).map (Value.int .i64)) ∧ Below wo.heap.size wo wr) (fun _ i _ => (grp M k).band.locals.length - (intOf i).toNat)
          case atStart => exact ⟨0, by omega, rfl, by simpa [bandN, pairsN] using HR0.out, bwr⟩
          case round =>
            obtain ⟨c2, hc2, rfl, hown, hb2⟩ := hrel
            have e11 := (hb2.cell (p := ⟨W.heap.size, 11, none⟩) hx).trans Y11.out
            have e12 := (hb2.cell (p := ⟨W.heap.size, 12, none⟩) hx).trans Y12.out
            have HL2 := Lib.hid (show (bandN k (grp M k).band c2).length ≤ 12 by rw [bandN_len]; have := HLC.out; omega)
            by_cases hlt2 : c2 < (grp M k).band.locals.length
            · have pw5 := (PWR.out.keep hb2)
              obtain ⟨p0, p1, p2, p3, p4, p5⟩ := pw5
              obtain ⟨bl, ol, el, hBl, l0⟩ := p5.local_ hlg hlt2
              obtain ⟨bd2, od, ed, hBd, d0⟩ := p5.dry_ hlg (k := c2) (by rw [HDL.out]; exact hlt2)
              have ED := Lib.hid ed
              have d0q := d0
              obtain ⟨lv, hlv⟩ : ∃ lv, (grp M k).band.locals.getD c2 0 = lv := ⟨_, rfl⟩
              obtain ⟨dv, hdv⟩ : ∃ dv, (grp M k).band.dry.getD c2 false = dv := ⟨_, rfl⟩
              rw [hlv] at l0
              rw [hdv] at d0
              have HLV := Lib.hid hlv
              have HDV := Lib.hid hdv
              clear hlv hdv d0q
              rw [el] at e11
              rw [ed] at e12
              have hj0 : (0 : Int) ≤ (c2 : Int) := by omega
              have hj1 : (c2 : Int) < ((grp M k).band.locals.length : Int) := by omega
              have hj9 : (c2 : Int) < 9 := by have := HLC.out; omega
              have hj2 : (c2 : Int) < ((grp M k).band.dry.length : Int) := by rw [HDL.out]; omega
              have hsz2 := hb2.size
              clear p0 p1 p2 p3 p4 p5 el ed
              go_upto_region 17 with (at_builtin; refine wpList_append_own _ rfl _ _ 46 rfl wo.heap.size 3 i0 (.int .i64 0) 1 8 Tryz.underlying46 hi hz0 hz1 hz2 rfl (by decide) _ (bandN k (grp M k).band c2).length _ rfl (hown.alloc _) ⟨wr.heap.size, 0, none⟩ 1 1 [.int .i64 lv] rfl rfl (one_new _ _ _) (by intro u hu; simp at hu; subst hu; rfl) (by unfold maxLen; have := HL2.out; omega) (by have := HL2.out; omega) (by simp; omega) ?_; intro vA w4 hownA hgrowA _)
              have hb3 : Below wo.heap.size wo w4 := (hb2.alloc hsz2 _).grown hgrowA (by simp; omega) (fun j e => (hown.lt j e).1)
              have hA := hgrowA.size
              have hsz3 := hb3.size
              have e12 := (hb3.cell (p := ⟨W.heap.size, 12, none⟩) hx).trans Y12.out
              rw [ED.out] at e12
              have pw6 := (PWR.out.keep hb3)
              obtain ⟨p0, p1, p2, p3, p4, p5⟩ := pw6
              obtain ⟨bd3, od3, ed3, hBd3, d0⟩ := p5.dry_ hlg (k := c2) (by rw [HDL.out]; exact hlt2)
              rw [HDV.out] at d0
              rw [ED.out] at ed3
              obtain ⟨rfl, rfl⟩ : bd2 = bd3 ∧ od = od3 := by injection ed3 with e; injection e with e1 e2; exact ⟨e1, e2⟩
              clear p0 p1 p2 p3 p4 p5 ed3 hBd l0 hBl e11
              go_wp2_with (first | (go_at_call 25; refine (sBit_any _ _).mono ?_; rintro e w' ⟨rfl, rfl⟩) | (at_builtin; refine wpList_append_own _ rfl _ _ 46 rfl wo.heap.size 3 i0 (.int .i64 0) 1 8 Tryz.underlying46 hi hz0 hz1 hz2 rfl (by decide) _ ((bandN k (grp M k).band c2).length + 1) _ rfl (hownA.alloc _) ⟨w4.heap.size, 0, none⟩ 1 1 [.int .i64 (bitM dv)] rfl rfl (one_new _ _ _) (by intro u hu; simp at hu; subst hu; rfl) (by unfold maxLen; have := HL2.out; omega) (by have := HL2.out; omega) (by simp; omega) ?_; intro vB w5 hownB hgrowB _))
              have hb5 : Below wo.heap.size wo w5 := (hb3.alloc hsz3 _).grown hgrowB (by simp; omega) (fun j e => (hownA.lt j e).1)
              go_roundw
              case rel => exact ⟨c2 + 1, by omega, by go_num, by rw [bandN_snoc, HLV.out, HDV.out]; simpa using hownB, hb5⟩
              case measure => simp [intOf]; omega
            · have hcl : c2 = (grp M k).band.locals.length := by omega
              have hge2 : ((grp M k).band.locals.length : Int) ≤ (c2 : Int) := by omega
              have HO := Lib.hid hown
              obtain ⟨al, cl, rfl⟩ := row_form hown
              have HFB := Lib.hid (HNO.out.bandF k hk HU.out HQ.out c2 hc2)
              have HB2 := Lib.hid (show lineB [98, 97, 110, 100] (bandN k (grp M k).band c2) = bandT k (grp M k).band by rw [hcl, HB.out])
              have HY := Lib.hid (show (bandT k (grp M k).band).length ≤ 300 by rw [← HB2.out]; have := lineB_len (w := [98, 97, 110, 100]) HFB.out; have := HL2.out; simp only [List.length_cons, List.length_nil] at *; omega)
              have hY1 : ((bandT k (grp M k).band).length : Int) ≤ 300 := by have := HY.out; omega
              clear hlt2 hcl hown hc2
              go_wp2_with (go_at_call 24; refine (sRow_any ⟨#[98, 97, 110, 100]⟩ _ _ _ _ (IntS.own HO.out) (by decide) (by have := HL2.out; omega) HFB.out).mono ?_; rintro e w6 ⟨rfl, hb6⟩; rw [show (⟨#[98, 97, 110, 100]⟩ : ByteArray).data.toList = [98, 97, 110, 100] from rfl, HB2.out])
              go_ret
              exact ⟨ret_str (by rw [strB_append, ← HT.out]), HBEL.out.andThen (hb2.andThen hb6)⟩
        · have HB := Lib.hid (show bandT k (grp M k).band = [] by rw [bandT, if_neg hq])
          have hq2 : (grp M k).band.quota ≤ 0 := by omega
          clear hq
          go_wp2
          go_ret
          exact ⟨ret_str (by rw [← HT.out, HB.out, List.append_nil]), HBEL.out⟩
  · have hz : ((k : Int) == 0) = false := by simp [h0]
    have hnm : ((grp M k).name : ByteArray).data.toList = nameT M k := by rw [nameT, if_neg h0]
    have hns : ((grp M k).name : ByteArray).size ≤ 8 := by exact HNO.out.nameF k hk h0 HU.out
    have HNM := Lib.hid hnm
    clear hnm
    clear h0
    go_upto_region 6 with (go_at_call 24; refine (sRow_any _ _ _ [(k : Int), (grp M k).parent, (grp M k).weight, (grp M k).cpus, (grp M k).period, (grp M k).next, (grp M k).sum] _ (IntS.fresh0 _ _ _ rfl _) (by rw [ByteArray.size_append']; have : (⟨#[103, 114, 111, 117, 112, 32]⟩ : ByteArray).size = 6 := rfl; omega) (by simp) (HNO.out.grpF k hk HU.out)).mono ?_; rintro e w3 ⟨rfl, hb3⟩; rw [head_name, show ((grp M k).name : ByteArray).data.toList = nameT M k from HNM.out, show lineB ([103, 114, 111, 117, 112, 32] ++ nameT M k) [(k : Int), (grp M k).parent, (grp M k).weight, (grp M k).cpus, (grp M k).period, (grp M k).next, (grp M k).sum] = headT M k from rfl])
    have hb3' := ((Below.refl _ W2).alloc (Nat.le_refl _) _).andThen hb3
    have y8 := (hb3'.cell (p := ⟨W.heap.size, 8, none⟩) hx).trans y8
    have y9 := (hb3'.cell (p := ⟨W.heap.size, 9, none⟩) hx).trans y9
    have y10 := (hb3'.cell (p := ⟨W.heap.size, 10, none⟩) hx).trans y10
    have y11 := (hb3'.cell (p := ⟨W.heap.size, 11, none⟩) hx).trans y11
    have y12 := (hb3'.cell (p := ⟨W.heap.size, 12, none⟩) hx).trans y12
    have y13 := (hb3'.cell (p := ⟨W.heap.size, 13, none⟩) hx).trans y13
    have hx := Nat.lt_of_lt_of_le hx hb3'.size
    have PW3 := Lib.hid (PW2.out.keep hb3')
    have bel3 := Lib.hid (bel.out.andThen hb3')
    clear hb3 hb3' PW2 bel
    go_wp2
    go_loopw [7, 8] (fun t i wr => ∃ c : Nat, c ≤ (grp M k).shelves.length ∧ i = .int .i64 c ∧ t = .string (strB (headT M k ++ catB (shelfT M k) c)) ∧ Below w3.heap.size w3 wr) (fun _ i _ => (grp M k).shelves.length - (intOf i).toNat)
    case atStart => exact ⟨0, by omega, rfl, str_eq (by rw [catB, List.append_nil]), Below.refl _ _⟩
    case round =>
      obtain ⟨c, hc, rfl, rfl, hb⟩ := hrel
      have y8 := (hb.cell (p := ⟨W.heap.size, 8, none⟩) hx).trans y8
      have y9 := (hb.cell (p := ⟨W.heap.size, 9, none⟩) hx).trans y9
      have y10 := (hb.cell (p := ⟨W.heap.size, 10, none⟩) hx).trans y10
      have y11 := (hb.cell (p := ⟨W.heap.size, 11, none⟩) hx).trans y11
      have y12 := (hb.cell (p := ⟨W.heap.size, 12, none⟩) hx).trans y12
      have y13 := (hb.cell (p := ⟨W.heap.size, 13, none⟩) hx).trans y13
      have hx := Nat.lt_of_lt_of_le hx hb.size
      have PW4 := Lib.hid (PW3.out.keep hb)
      have HX := Lib.hid (show (headT M k ++ catB (shelfT M k) c).length ≤ 1000 by rw [List.length_append]; have := headT_len HNO.out hk HU.out; have := catB_len (f := shelfT M k) (B := 200) c (fun j hj => shelfT_len HNO.out hk HU.out (by omega)); have := HFA.out.gok.she k hk HU.out; have := HFA.out.c4; omega)
      by_cases hlt : c < (grp M k).shelves.length
      · have pw4 := PW4.out
        obtain ⟨p0, p1, p2, p3, p4, p5⟩ := pw4
        obtain ⟨bs, os, es, hBs, f0, f1, f2, f3, f4⟩ := p5.shelf_ hlg hlt
        rw [es] at y13
        have hc0 : (0 : Int) ≤ (c : Int) := by omega
        have hc9 : (c : Int) < 9 := by have := HFA.out.gok.she k hk HU.out; have := HFA.out.c4; omega
        have hc1 : (c : Int) < ((grp M k).shelves.length : Int) := by omega
        go_upto_region 10 with (fail)
        refine gen1 (p := fun W => Code.wp _ _ _ _ W) ?_
        intro W5 b5 s5 kz
        have z0 := kz.cell 0
        have z1 := kz.cell 1
        have z2 := kz.cell 2
        have z3 := kz.cell 3
        have z4 := kz.cell 4
        simp at z0 z1 z2 z3 z4
        have hz := kz.lt
        have HBEL := Lib.hid (hb.andThen b5)
        have bd : Below W5.heap.size W5 W5.drew := ⟨rfl, rfl, rfl, Nat.le_refl _, fun _ _ => rfl⟩
        have q0 := fun d os => cell_regrown z0 d os
        have q1 := fun d os => cell_regrown z1 d os
        have q2 := fun d os => cell_regrown z2 d os
        have q3 := fun d os => cell_regrown z3 d os
        have q4 := fun d os => cell_regrown z4 d os
        have HC := Lib.hid (show strB (headT M k ++ catB (shelfT M k) c) ++ strB (shelfT M k c) = strB (headT M k ++ catB (shelfT M k) (c + 1)) by rw [strB_append, catB, List.append_assoc])
        have HY := Lib.hid (shelfT_len HNO.out hk HU.out hlt)
        have HSR := Lib.hid (HNO.out.sheF k c hk HU.out hlt)
        have HSH := Lib.hid (show lineB [115, 104, 101, 108, 102] [(k : Int), (c : Int), (she M k c).floor, bitM (she M k c).on, (she M k c).v, (she M k c).w, (she M k c).sum] = shelfT M k c from rfl)
        have hX1 : ((headT M k ++ catB (shelfT M k) c).length : Int) ≤ 1000 := by have := HX.out; omega
        have hY1 : ((shelfT M k c).length : Int) ≤ 200 := by have := HY.out; omega
        clear kz s5 f0 f1 f2 f3 f4 y8 y9 y10 y11 y12 y13 p0 p1 p2 p3 p4 p5 z0 z1 z2 z3 z4 b5 hb
        refine region_or [false, false, false, false, false, false, false, false, false, false, false, false, false, true, true, true, false, false] [0, 1, 2, 3, 4, 5, 6, 8, 9, 10, 11, 12, 13, 7, 14, 15, 16, 17] (by kernel_rfl) (by kernel_rfl) rfl (by kernel_rfl) (by kernel_rfl) ?_
        simp only [permL, List.getElem?_cons_zero, List.getElem?_cons_succ, Option.toList_some, List.cons_append, List.nil_append]
        repeat (first | (refine wpR_skip (by rfl) ?_; simp only [Act.put, List.setIfInBounds_toArray, List.set_cons_zero, List.set_cons_succ]) | (refine wpR_det (by rfl) (fun K hK => ?_); go_big_quiet_op; refine hK _ ?_; clear hK K))
        refine wpR_bar (by rfl) (fun K hK => ?_)
        go_big_op
        go_at_call 25
        refine (sBit_any _ _).mono ?_
        rintro e w' ⟨rfl, rfl⟩
        refine hK _ _ (regrown_of_below bd) ?_
        clear hK K
        refine wpR_bar (by rfl) (fun K hK => ?_)
        go_big_op
        refine hK _ _ (regrown_of_below (bd.andThen ((Below.refl _ _).alloc (Nat.le_refl _) _))) ?_
        clear hK K
        refine wpR_bar (by rfl) (fun K hK => ?_)
        go_big_op
        go_at_call 24
        refine (sRow_any ⟨#[115, 104, 101, 108, 102]⟩ _ _ [(k : Int), (c : Int), (she M k c).floor, bitM (she M k c).on, (she M k c).v, (she M k c).w, (she M k c).sum] _ (IntS.fresh _ _ _ rfl _) (by decide) (by simp) HSR.out).mono ?_
        rintro e w6 ⟨rfl, hb6⟩
        rw [show (⟨#[115, 104, 101, 108, 102]⟩ : ByteArray).data.toList = [115, 104, 101, 108, 102] from rfl, HSH.out]
        refine hK _ _ (regrown_of_below ((bd.andThen ((Below.refl _ _).alloc (Nat.le_refl _) _)).andThen hb6)) ?_
        clear hK K
        generalize headT M k ++ catB (shelfT M k) c = X at *
        generalize shelfT M k c = Y at *
        repeat (first | (refine wpR_skip (by rfl) ?_; simp only [Act.put, List.setIfInBounds_toArray, List.set_cons_zero, List.set_cons_succ]) | (refine wpR_det (by rfl) (fun K hK => ?_); go_big_quiet_op; refine hK _ ?_; clear hK K))
        refine wpR_nil ?_
        go_wp2
        skip
        go_roundw
        case rel => exact ⟨c + 1, by omega, by go_num, str_eq HC.out, HBEL.out.andThen ((bd.andThen ((Below.refl _ _).alloc (Nat.le_refl _) _)).andThen hb6)⟩
        case measure => simp [intOf]; omega
      · have hcl : c = (grp M k).shelves.length := by omega
        have HT := Lib.hid (show headT M k ++ catB (shelfT M k) c ++ bandT k (grp M k).band = groupT M k by rw [hcl]; rfl)
        have hge : ((grp M k).shelves.length : Int) ≤ (c : Int) := by omega
        have hdec : decide ((c : Int) < ((grp M k).shelves.length : Int)) = false := decide_eq_false (by omega)
        have HBEL := Lib.hid (bel3.out.andThen hb)
        clear hlt hcl hc
        have hX1 : ((headT M k ++ catB (shelfT M k) c).length : Int) ≤ 1000 := by have := HX.out; omega
        generalize headT M k ++ catB (shelfT M k) c = X at *
        by_cases hq : 0 < (grp M k).band.quota
        · have HQ := Lib.hid hq
          have hdq : decide (0 < (grp M k).band.quota) = true := decide_eq_true hq
          have HB := Lib.hid (show bandT k (grp M k).band = lineB [98, 97, 110, 100] (bandN k (grp M k).band (grp M k).band.locals.length) by rw [bandT, if_pos hq])
          have hbd := HFA.out.gok.dry k hk HU.out hq
          have HLC := Lib.hid (show (grp M k).band.locals.length ≤ 4 by have := HFA.out.c4; omega)
          have HDL := Lib.hid (show (grp M k).band.dry.length = (grp M k).band.locals.length by omega)
          clear hbd
          go_upto_region 13 with (fail)
          have HR0 := Lib.hid (World.ownsRow_lit (base := wr.heap.size) (e := 3) (size := 1) wr #[.int .i64 (k : Int), .int .i64 (grp M k).band.quota, .int .i64 (grp M k).band.pool, .int .i64 (grp M k).band.spent] 4 (Nat.le_refl _) (by decide) rfl)
          obtain ⟨i0, hi, hz0, hz1, hz2⟩ := info_parts infoInt
          have bwr : Below wr.heap.size wr (wr.alloc (.cells #[.int .i64 (k : Int), .int .i64 (grp M k).band.quota, .int .i64 (grp M k).band.pool, .int .i64 (grp M k).band.spent] 3)) := (Below.refl _ _).alloc (Nat.le_refl _) _
          have PWR := PW4
          have HXR := Lib.hid hx
          have Y11 := Lib.hid y11
          have Y12 := Lib.hid y12
          have e11 := (bwr.cell (p := ⟨W.heap.size, 11, none⟩) hx).trans y11
          clear y8 y9 y10 y11 y12 y13 hq
          go_wp2
          obtain ⟨wq, hwq⟩ : ∃ wq, wr.alloc (.cells #[.int .i64 (k : Int), .int .i64 (grp M k).band.quota, .int .i64 (grp M k).band.pool, .int .i64 (grp M k).band.spent] 3) = wq := ⟨_, rfl⟩
          rw [hwq] at bwr HR0 ⊢
          have hwb := Lib.hid hwq
          clear hwq e11
          obtain ⟨wo, hwo⟩ : ∃ wo : World, wo = wr := ⟨_, rfl⟩
          subst hwo
          go_loopw [10, 11] (fun l i wr => ∃ c2 : Nat, c2 ≤ (grp M k).band.locals.length ∧ i = .int .i64 c2 ∧ wr.ownsRow wo.heap.size 3 1 l (bandN k (grp M k).band c2).length ((bandN k (grp M k).band c2).map (Value.int .i64)) ∧ Below wo.heap.size wo wr) (fun _ i _ => (grp M k).band.locals.length - (intOf i).toNat)
          case atStart => exact ⟨0, by omega, rfl, by simpa [bandN, pairsN] using HR0.out, bwr⟩
          case round =>
            obtain ⟨c2, hc2, rfl, hown, hb2⟩ := hrel
            have e11 := (hb2.cell (p := ⟨W.heap.size, 11, none⟩) hx).trans Y11.out
            have e12 := (hb2.cell (p := ⟨W.heap.size, 12, none⟩) hx).trans Y12.out
            have HL2 := Lib.hid (show (bandN k (grp M k).band c2).length ≤ 12 by rw [bandN_len]; have := HLC.out; omega)
            by_cases hlt2 : c2 < (grp M k).band.locals.length
            · have pw5 := (PWR.out.keep hb2)
              obtain ⟨p0, p1, p2, p3, p4, p5⟩ := pw5
              obtain ⟨bl, ol, el, hBl, l0⟩ := p5.local_ hlg hlt2
              obtain ⟨bd2, od, ed, hBd, d0⟩ := p5.dry_ hlg (k := c2) (by rw [HDL.out]; exact hlt2)
              have ED := Lib.hid ed
              have d0q := d0
              obtain ⟨lv, hlv⟩ : ∃ lv, (grp M k).band.locals.getD c2 0 = lv := ⟨_, rfl⟩
              obtain ⟨dv, hdv⟩ : ∃ dv, (grp M k).band.dry.getD c2 false = dv := ⟨_, rfl⟩
              rw [hlv] at l0
              rw [hdv] at d0
              have HLV := Lib.hid hlv
              have HDV := Lib.hid hdv
              clear hlv hdv d0q
              rw [el] at e11
              rw [ed] at e12
              have hj0 : (0 : Int) ≤ (c2 : Int) := by omega
              have hj1 : (c2 : Int) < ((grp M k).band.locals.length : Int) := by omega
              have hj9 : (c2 : Int) < 9 := by have := HLC.out; omega
              have hj2 : (c2 : Int) < ((grp M k).band.dry.length : Int) := by rw [HDL.out]; omega
              have hsz2 := hb2.size
              clear p0 p1 p2 p3 p4 p5 el ed
              go_upto_region 17 with (at_builtin; refine wpList_append_own _ rfl _ _ 46 rfl wo.heap.size 3 i0 (.int .i64 0) 1 8 Tryz.underlying46 hi hz0 hz1 hz2 rfl (by decide) _ (bandN k (grp M k).band c2).length _ rfl (hown.alloc _) ⟨wr.heap.size, 0, none⟩ 1 1 [.int .i64 lv] rfl rfl (one_new _ _ _) (by intro u hu; simp at hu; subst hu; rfl) (by unfold maxLen; have := HL2.out; omega) (by have := HL2.out; omega) (by simp; omega) ?_; intro vA w4 hownA hgrowA _)
              have hb3 : Below wo.heap.size wo w4 := (hb2.alloc hsz2 _).grown hgrowA (by simp; omega) (fun j e => (hown.lt j e).1)
              have hA := hgrowA.size
              have hsz3 := hb3.size
              have e12 := (hb3.cell (p := ⟨W.heap.size, 12, none⟩) hx).trans Y12.out
              rw [ED.out] at e12
              have pw6 := (PWR.out.keep hb3)
              obtain ⟨p0, p1, p2, p3, p4, p5⟩ := pw6
              obtain ⟨bd3, od3, ed3, hBd3, d0⟩ := p5.dry_ hlg (k := c2) (by rw [HDL.out]; exact hlt2)
              rw [HDV.out] at d0
              rw [ED.out] at ed3
              obtain ⟨rfl, rfl⟩ : bd2 = bd3 ∧ od = od3 := by injection ed3 with e; injection e with e1 e2; exact ⟨e1, e2⟩
              clear p0 p1 p2 p3 p4 p5 ed3 hBd l0 hBl e11
              go_wp2_with (first | (go_at_call 25; refine (sBit_any _ _).mono ?_; rintro e w' ⟨rfl, rfl⟩) | (at_builtin; refine wpList_append_own _ rfl _ _ 46 rfl wo.heap.size 3 i0 (.int .i64 0) 1 8 Tryz.underlying46 hi hz0 hz1 hz2 rfl (by decide) _ ((bandN k (grp M k).band c2).length + 1) _ rfl (hownA.alloc _) ⟨w4.heap.size, 0, none⟩ 1 1 [.int .i64 (bitM dv)] rfl rfl (one_new _ _ _) (by intro u hu; simp at hu; subst hu; rfl) (by unfold maxLen; have := HL2.out; omega) (by have := HL2.out; omega) (by simp; omega) ?_; intro vB w5 hownB hgrowB _))
              have hb5 : Below wo.heap.size wo w5 := (hb3.alloc hsz3 _).grown hgrowB (by simp; omega) (fun j e => (hownA.lt j e).1)
              go_roundw
              case rel => exact ⟨c2 + 1, by omega, by go_num, by rw [bandN_snoc, HLV.out, HDV.out]; simpa using hownB, hb5⟩
              case measure => simp [intOf]; omega
            · have hcl : c2 = (grp M k).band.locals.length := by omega
              have hge2 : ((grp M k).band.locals.length : Int) ≤ (c2 : Int) := by omega
              have HO := Lib.hid hown
              obtain ⟨al, cl, rfl⟩ := row_form hown
              have HFB := Lib.hid (HNO.out.bandF k hk HU.out HQ.out c2 hc2)
              have HB2 := Lib.hid (show lineB [98, 97, 110, 100] (bandN k (grp M k).band c2) = bandT k (grp M k).band by rw [hcl, HB.out])
              have HY := Lib.hid (show (bandT k (grp M k).band).length ≤ 300 by rw [← HB2.out]; have := lineB_len (w := [98, 97, 110, 100]) HFB.out; have := HL2.out; simp only [List.length_cons, List.length_nil] at *; omega)
              have hY1 : ((bandT k (grp M k).band).length : Int) ≤ 300 := by have := HY.out; omega
              clear hlt2 hcl hown hc2
              go_wp2_with (go_at_call 24; refine (sRow_any ⟨#[98, 97, 110, 100]⟩ _ _ _ _ (IntS.own HO.out) (by decide) (by have := HL2.out; omega) HFB.out).mono ?_; rintro e w6 ⟨rfl, hb6⟩; rw [show (⟨#[98, 97, 110, 100]⟩ : ByteArray).data.toList = [98, 97, 110, 100] from rfl, HB2.out])
              go_ret
              exact ⟨ret_str (by rw [strB_append, ← HT.out]), HBEL.out.andThen (hb2.andThen hb6)⟩
        · have HB := Lib.hid (show bandT k (grp M k).band = [] by rw [bandT, if_neg hq])
          have hq2 : (grp M k).band.quota ≤ 0 := by omega
          clear hq
          go_wp2
          go_ret
          exact ⟨ret_str (by rw [← HT.out, HB.out, List.append_nil]), HBEL.out⟩
end Go.Proofs.YtknfpigaognklaaGreatDoor
namespace Go.Proofs.YtknfpigaognklaaGreatDoor
open Go.RowKit Go.Sort
attribute [local go_sem] strB_size
theorem cpuT_len {M : WorldM} (NO : NumOk M) {c : Nat} (hc : c < M.cpus.length) : (cpuT M c).length ≤ 200 := by
  have h1 := lineB_len (w := [99, 112, 117]) (NO.cpuF c hc)
  simp only [List.length_cons, List.length_nil] at h1
  unfold cpuT
  omega
theorem taskT_len {M : WorldM} (NO : NumOk M) {t : Nat} (ht : t < M.tasks.length) (hst : (tsk M t).st ≠ 0) : (taskT M t).length ≤ 300 := by
  have h1 := lineB_len (w := [116, 97, 115, 107]) (NO.tskF t ht hst)
  simp only [List.length_cons, List.length_nil] at h1
  unfold taskT
  omega
theorem bandT_len {M : WorldM} (FA : Facts M) (NO : NumOk M) {k : Nat} (hk : k < 8) (hu : (grp M k).used = true) : (bandT k (grp M k).band).length ≤ 300 := by
  unfold bandT
  split
  · rename_i hq
    have h1 := lineB_len (w := [98, 97, 110, 100]) (NO.bandF k hk hu hq (grp M k).band.locals.length (Nat.le_refl _))
    have h2 := FA.gok.dry k hk hu hq
    have := FA.c4
    rw [bandN_len] at h1
    simp only [List.length_cons, List.length_nil] at h1
    omega
  · simp
theorem groupT_len {M : WorldM} (FA : Facts M) (NO : NumOk M) {k : Nat} (hk : k < 8) (hu : (grp M k).used = true) : (groupT M k).length ≤ 1300 := by
  have h1 := headT_len NO hk hu
  have h2 := catB_len (f := shelfT M k) (B := 200) _ (fun j hj => shelfT_len NO hk hu hj)
  have h3 := bandT_len FA NO hk hu
  have h4 := FA.gok.she k hk hu
  have := FA.c4
  simp only [groupT, List.length_append]
  omega
def preC (M : WorldM) (c : Nat) : List UInt8 := lineB [110, 111, 119] [M.now] ++ catB (cpuT M) c
def preG (M : WorldM) (k : Nat) : List UInt8 := preC M M.cpus.length ++ groupsT M k
def preT (M : WorldM) (t : Nat) : List UInt8 := preG M M.groups.length ++ tasksT M t
theorem preC_succ (M : WorldM) (c : Nat) : preC M (c + 1) = preC M c ++ cpuT M c := by simp [preC, catB]
theorem preG_t {M : WorldM} {k : Nat} (h : (grp M k).used = true) : preG M (k + 1) = preG M k ++ groupT M k := by simp [preG, groupsT, catB, h]
theorem preG_f {M : WorldM} {k : Nat} (h : (grp M k).used = false) : preG M (k + 1) = preG M k := by simp [preG, groupsT, catB, h]
theorem preT_t {M : WorldM} {t : Nat} (h : (tsk M t).st ≠ 0) : preT M (t + 1) = preT M t ++ taskT M t := by simp [preT, tasksT, catB, h]
theorem preT_f {M : WorldM} {t : Nat} (h : (tsk M t).st = 0) : preT M (t + 1) = preT M t := by simp [preT, tasksT, catB, h]
theorem pre_body (M : WorldM) : preT M M.tasks.length = bodyT M := rfl
theorem preC_len {M : WorldM} (FA : Facts M) (NO : NumOk M) {c : Nat} (hc : c ≤ M.cpus.length) : (preC M c).length ≤ 1000 := by
  have h1 := lineB_len (w := [110, 111, 119]) NO.nowF
  have h2 := catB_len (f := cpuT M) (B := 200) c (fun j hj => cpuT_len NO (by omega))
  have := FA.c4
  simp only [preC, List.length_append, List.length_cons, List.length_nil] at *
  omega
theorem preG_len {M : WorldM} (FA : Facts M) (NO : NumOk M) {k : Nat} (hk : k ≤ 8) : (preG M k).length ≤ 12000 := by
  have h1 := preC_len FA NO (Nat.le_refl _)
  have h2 := catB_len (f := fun k => if (grp M k).used = true then groupT M k else []) (B := 1300) k (fun j hj => by
    show (if _ then _ else _ : List UInt8).length ≤ _
    split
    · exact groupT_len FA NO (by omega) (by assumption)
    · simp)
  simp only [preG, groupsT, List.length_append] at *
  omega
theorem preT_len {M : WorldM} (FA : Facts M) (NO : NumOk M) {t : Nat} (ht : t ≤ M.tasks.length) : (preT M t).length ≤ 16000 := by
  have h1 := preG_len FA NO (k := M.groups.length) (by have := FA.tree.len; omega)
  have h2 := catB_len (f := fun t => if (tsk M t).st = 0 then [] else taskT M t) (B := 300) t (fun j hj => by
    show (if _ then _ else _ : List UInt8).length ≤ _
    split
    · simp
    · exact taskT_len NO (by omega) (by assumption))
  have := FA.t12
  simp only [preT, tasksT, List.length_append] at *
  omega
set_option maxRecDepth 100000 in
set_option maxHeartbeats 8000000 in
theorem sText_any (ca : Option Addr) (cc : Nat) (ta : Option Addr) (tc : Nat) (ga : Option Addr) (gc : Nat) (gh : Nat → GH) (M : WorldM) (w : World) (hs : WA w ca ta ga gh M) (hF : FitG M) (hx : NextOk M) :
    Calls Tryz.prog 8 #[.agg #[.int .i64 M.now, .slice ca M.cpus.length cc, .slice ta M.tasks.length tc, .slice ga M.groups.length gc]] w fun e w' => e = .returned (.string (strB (textM M))) ∧ Below w.heap.size w w' := by
  have HX := Lib.hid hx
  clear hx
  go_enter Tryz.func8, Tryz.ntmps8
  go_upto_region 1 with (fail)
  refine PA.gen (P := fun W => Code.wp _ _ _ _ W) hs ?_
  intro W b1 s1 pw
  have hcm := hF.cpu
  have htm := hF.task
  have hgm := hF.group
  have PW0 := Lib.hid pw
  obtain ⟨q0, q1, q2, q3, q4, q5⟩ := pw
  clear s1
  by_cases f1 : worldB M = true
  · have F1 := Lib.hid f1
    clear f1
    have HFA := Lib.hid (facts_of F1.out)
    have HNO := Lib.hid (numOk_of F1.out HX.out)
    have TM := Lib.hid (show textM M = bodyT M by rw [textM, if_pos F1.out])
    go_upto_region 4 with (first | (go_at_call 23; refine (sWorldOk_any ca cc ta tc ga gc gh M _ q5 hF).mono ?_; rintro e w2 ⟨rfl, hb2⟩; rw [F1.out]; have r1 := (hb2.cell (p := ⟨w.heap.size, 0, none⟩) q0).trans q1; have r2 := (hb2.cell (p := ⟨w.heap.size, 1, none⟩) q0).trans q2; have r3 := (hb2.cell (p := ⟨w.heap.size, 2, none⟩) q0).trans q3; have r4 := (hb2.cell (p := ⟨w.heap.size, 3, none⟩) q0).trans q4; have r0 := Nat.lt_of_lt_of_le q0 hb2.size) | (go_at_call 24; refine (sRow_any ⟨#[110, 111, 119]⟩ _ _ [M.now] _ (IntS.fresh0 _ _ _ rfl _) (by decide) (by simp) HNO.out.nowF).mono ?_; rintro e w3 ⟨rfl, hb3⟩; rw [show lineB (⟨#[110, 111, 119]⟩ : ByteArray).data.toList [M.now] = preC M 0 by simp [preC, catB]]))
    have hb3' := hb2.andThen (((Below.refl _ w2).alloc (Nat.le_refl _) _).andThen hb3)
    have PW3 := Lib.hid (PW0.out.keep hb3')
    have bel3 := Lib.hid (b1.andThen hb3')
    clear q0 q1 q2 q3 q4 q5 r0 r1 r2 r3 r4 hb3 hb3' hb2 b1 PW0
    have pw3 := PW3.out
    obtain ⟨q0, q1, q2, q3, q4, q5⟩ := pw3
    go_wp2
    go_loopw [3, 4] (fun t i wr => ∃ c : Nat, c ≤ M.cpus.length ∧ i = .int .i64 c ∧ t = .string (strB (preC M c)) ∧ Below w3.heap.size w3 wr) (fun _ i _ => M.cpus.length - (intOf i).toNat)
    case atStart => exact ⟨0, by omega, rfl, rfl, Below.refl _ _⟩
    case round =>
      obtain ⟨c, hc, rfl, rfl, hb⟩ := hrel
      have PW4 := Lib.hid (PW3.out.keep hb)
      have pw4 := PW4.out
      clear q0 q1 q2 q3 q4 q5
      obtain ⟨q0, q1, q2, q3, q4, q5⟩ := pw4
      have HXL := Lib.hid (preC_len HFA.out HNO.out hc)
      by_cases hlt : c < M.cpus.length
      · obtain ⟨b, o, rfl, hB, c0, c1, c2, c3, c4⟩ := q5.cpu_ hlt
        have hc0 : (0 : Int) ≤ (c : Int) := by omega
        have hc1 : (c : Int) < (M.cpus.length : Int) := by omega
        have hc9 : (c : Int) < 9 := by have := HFA.out.c4; omega
        go_upto_region 8 with (fail)
        refine gen1 (p := fun W => Code.wp _ _ _ _ W) ?_
        intro W5 b5 s5 kz
        have z0 := kz.cell 0
        have z1 := kz.cell 1
        have z2 := kz.cell 2
        have z3 := kz.cell 3
        have z4 := kz.cell 4
        simp at z0 z1 z2 z3 z4
        have HBEL := Lib.hid (hb.andThen b5)
        have bd : Below W5.heap.size W5 W5.drew := ⟨rfl, rfl, rfl, Nat.le_refl _, fun _ _ => rfl⟩
        have q_0 := fun d os => cell_regrown z0 d os
        have q_1 := fun d os => cell_regrown z1 d os
        have q_2 := fun d os => cell_regrown z2 d os
        have q_3 := fun d os => cell_regrown z3 d os
        have q_4 := fun d os => cell_regrown z4 d os
        have HC := Lib.hid (show strB (preC M c) ++ strB (cpuT M c) = strB (preC M (c + 1)) by rw [strB_append, preC_succ])
        have HY := Lib.hid (cpuT_len HNO.out hlt)
        have HSR := Lib.hid (HNO.out.cpuF c hlt)
        have HSH := Lib.hid (show lineB [99, 112, 117] [bitM (cpo M c).up, (cpo M c).cur, (cpo M c).ran, (cpo M c).busy, (cpo M c).idle] = cpuT M c from rfl)
        have hX1 : ((preC M c).length : Int) ≤ 1000 := by have := HXL.out; omega
        have hY1 : ((cpuT M c).length : Int) ≤ 200 := by have := HY.out; omega
        clear kz s5 c0 c1 c2 c3 c4 q0 q1 q2 q3 q4 q5 z0 z1 z2 z3 z4 b5 hb
        refine region_or [false, false, false, false, false, false, false, false, false, false, false, true, true, true, false, false] [0, 1, 2, 4, 5, 6, 7, 8, 9, 10, 11, 3, 12, 13, 14, 15] (by kernel_rfl) (by kernel_rfl) rfl (by kernel_rfl) (by kernel_rfl) ?_
        simp only [permL, List.getElem?_cons_zero, List.getElem?_cons_succ, Option.toList_some, List.cons_append, List.nil_append]
        repeat (first | (refine wpR_skip (by rfl) ?_; simp only [Act.put, List.setIfInBounds_toArray, List.set_cons_zero, List.set_cons_succ]) | (refine wpR_det (by rfl) (fun K hK => ?_); go_big_quiet_op; refine hK _ ?_; clear hK K))
        refine wpR_bar (by rfl) (fun K hK => ?_)
        go_big_op
        go_at_call 25
        refine (sBit_any _ _).mono ?_
        rintro e w' ⟨rfl, rfl⟩
        refine hK _ _ (regrown_of_below bd) ?_
        clear hK K
        refine wpR_bar (by rfl) (fun K hK => ?_)
        go_big_op
        refine hK _ _ (regrown_of_below (bd.andThen ((Below.refl _ _).alloc (Nat.le_refl _) _))) ?_
        clear hK K
        refine wpR_bar (by rfl) (fun K hK => ?_)
        go_big_op
        go_at_call 24
        refine (sRow_any ⟨#[99, 112, 117]⟩ _ _ [bitM (cpo M c).up, (cpo M c).cur, (cpo M c).ran, (cpo M c).busy, (cpo M c).idle] _ (IntS.fresh _ _ _ rfl _) (by decide) (by simp) HSR.out).mono ?_
        rintro e w6 ⟨rfl, hb6⟩
        rw [show (⟨#[99, 112, 117]⟩ : ByteArray).data.toList = [99, 112, 117] from rfl, HSH.out]
        refine hK _ _ (regrown_of_below ((bd.andThen ((Below.refl _ _).alloc (Nat.le_refl _) _)).andThen hb6)) ?_
        clear hK K
        generalize preC M c = X at *
        generalize cpuT M c = Y at *
        repeat (first | (refine wpR_skip (by rfl) ?_; simp only [Act.put, List.setIfInBounds_toArray, List.set_cons_zero, List.set_cons_succ]) | (refine wpR_det (by rfl) (fun K hK => ?_); go_big_quiet_op; refine hK _ ?_; clear hK K))
        refine wpR_nil ?_
        go_wp2
        go_roundw
        case rel => exact ⟨c + 1, by omega, by go_num, str_eq HC.out, HBEL.out.andThen ((bd.andThen ((Below.refl _ _).alloc (Nat.le_refl _) _)).andThen hb6)⟩
        case measure => simp [intOf]; omega
      · have HE := Lib.hid (show preC M c = preG M 0 by rw [show c = M.cpus.length by omega]; simp [preG, groupsT, catB])
        have hge : (M.cpus.length : Int) ≤ (c : Int) := by omega
        have hdec : decide (c < M.cpus.length) = false := decide_eq_false (by omega)
        have bel4 := Lib.hid (bel3.out.andThen hb)
        clear hlt hc hb PW3
        rw [HE.out]
        go_wp2
        clear hge hdec
        obtain ⟨wo, hwo⟩ : ∃ wo : World, wo = wr := ⟨_, rfl⟩
        subst hwo
        go_loopw [3, 6] (fun t i wr => ∃ k : Nat, k ≤ M.groups.length ∧ i = .int .i64 k ∧ t = .string (strB (preG M k)) ∧ Below wo.heap.size wo wr) (fun _ i _ => M.groups.length - (intOf i).toNat)
        case atStart => exact ⟨0, by omega, rfl, rfl, Below.refl _ _⟩
        case round =>
          obtain ⟨k, hk, rfl, rfl, hb⟩ := hrel
          have PW5 := Lib.hid (PW4.out.keep hb)
          have pw5 := PW5.out
          clear q0 q1 q2 q3 q4 q5
          obtain ⟨q0, q1, q2, q3, q4, q5⟩ := pw5
          have HXL := Lib.hid (preG_len HFA.out HNO.out (k := k) (by have := HFA.out.tree.len; omega))
          have hX1 : ((preG M k).length : Int) ≤ 12000 := by have := HXL.out; omega
          by_cases hlt : k < M.groups.length
          · obtain ⟨b, o, rfl, hB, c0, _⟩ := q5.group_ hlt
            have hk8 : k < 8 := by have := HFA.out.tree.len; omega
            have hc0 : (0 : Int) ≤ (k : Int) := by omega
            have hc1 : (k : Int) < (M.groups.length : Int) := by omega
            have hc9 : (k : Int) < 9 := by omega
            cases hu : (grp M k).used with
            | true =>
              have HU := Lib.hid hu
              rw [hu] at c0
              clear hu
              have HC := Lib.hid (show strB (preG M k) ++ strB (groupT M k) = strB (preG M (k + 1)) by rw [strB_append, preG_t HU.out])
              have HY := Lib.hid (groupT_len HFA.out HNO.out hk8 HU.out)
              have hY1 : ((groupT M k).length : Int) ≤ 1300 := by have := HY.out; omega
              go_wp2_with (go_at_call 26; refine (sGroup_any _ _ _ _ _ _ gh M _ q5 HFA.out HNO.out k hk8 HU.out).mono ?_; rintro e w6 ⟨rfl, hb6⟩; generalize preG M k = X at *; generalize groupT M k = Y at *)
              go_roundw
              case rel => exact ⟨k + 1, by omega, by go_num, str_eq HC.out, hb.andThen hb6⟩
              case measure => simp [intOf]; omega
            | false =>
              have HU := Lib.hid hu
              rw [hu] at c0
              clear hu
              have HC := Lib.hid (show strB (preG M k) = strB (preG M (k + 1)) by rw [preG_f HU.out])
              go_wp2
              go_roundw
              case rel => exact ⟨k + 1, by omega, by go_num, str_eq HC.out, hb⟩
              case measure => simp [intOf]; omega
          · have HE := Lib.hid (show preG M k = preT M 0 by rw [show k = M.groups.length by omega]; simp [preT, tasksT, catB])
            have hge : (M.groups.length : Int) ≤ (k : Int) := by omega
            have hdec : decide (k < M.groups.length) = false := decide_eq_false (by omega)
            have bel5 := Lib.hid (bel4.out.andThen hb)
            clear hlt hk hb PW4 hX1 HXL
            rw [HE.out]
            go_wp2
            clear hge hdec
            obtain ⟨wp, hwp⟩ : ∃ wp : World, wp = wr := ⟨_, rfl⟩
            subst hwp
            go_loopw [3, 7] (fun x i wr => ∃ t : Nat, t ≤ M.tasks.length ∧ i = .int .i64 t ∧ x = .string (strB (preT M t)) ∧ Below wp.heap.size wp wr) (fun _ i _ => M.tasks.length - (intOf i).toNat)
            case atStart => exact ⟨0, by omega, rfl, rfl, Below.refl _ _⟩
            case round =>
              obtain ⟨t, ht, rfl, rfl, hb⟩ := hrel
              have PW6 := Lib.hid (PW5.out.keep hb)
              have pw6 := PW6.out
              clear q0 q1 q2 q3 q4 q5
              obtain ⟨q0, q1, q2, q3, q4, q5⟩ := pw6
              have HXL := Lib.hid (preT_len HFA.out HNO.out ht)
              have hX1 : ((preT M t).length : Int) ≤ 16000 := by have := HXL.out; omega
              by_cases hlt : t < M.tasks.length
              · obtain ⟨b, o, rfl, hB, c0, c1, c2, c3, c4, c5, c6, c7, c8⟩ := q5.task_ hlt
                have hc0 : (0 : Int) ≤ (t : Int) := by omega
                have hc1 : (t : Int) < (M.tasks.length : Int) := by omega
                have hc9 : (t : Int) < 13 := by have := HFA.out.t12; omega
                go_upto_region 18 with (fail)
                refine gen1 (p := fun W => Code.wp _ _ _ _ W) ?_
                intro W5 b5 s5 kz
                have z0 := kz.cell 0
                have z1 := kz.cell 1
                have z2 := kz.cell 2
                have z3 := kz.cell 3
                have z4 := kz.cell 4
                have z5 := kz.cell 5
                have z6 := kz.cell 6
                have z7 := kz.cell 7
                have z8 := kz.cell 8
                simp at z0 z1 z2 z3 z4 z5 z6 z7 z8
                have HBEL := Lib.hid (hb.andThen b5)
                clear kz s5 c0 c1 c2 c3 c4 c5 c6 c7 c8 q0 q1 q2 q3 q4 q5 b5 hb
                by_cases hst : (tsk M t).st = 0
                · have hz : ((tsk M t).st != 0) = false := by simp [hst]
                  have HC := Lib.hid (show strB (preT M t) = strB (preT M (t + 1)) by rw [preT_f hst])
                  clear hst
                  go_wp2
                  go_roundw
                  case rel => exact ⟨t + 1, by omega, by go_num, str_eq HC.out, HBEL.out⟩
                  case measure => simp [intOf]; omega
                · have hz : ((tsk M t).st != 0) = true := by simp [hst]
                  have HC := Lib.hid (show strB (preT M t) ++ strB (taskT M t) = strB (preT M (t + 1)) by rw [strB_append, preT_t hst])
                  have HY := Lib.hid (taskT_len HNO.out hlt hst)
                  have hY1 : ((taskT M t).length : Int) ≤ 300 := by have := HY.out; omega
                  have HSR := Lib.hid (HNO.out.tskF t hlt hst)
                  have HSH := Lib.hid (show lineB [116, 97, 115, 107] [(t : Int), (tsk M t).st, (tsk M t).gr, (tsk M t).cpu, (tsk M t).nice, (tsk M t).mask, (tsk M t).v, (tsk M t).sum, (tsk M t).used, (tsk M t).load] = taskT M t from rfl)
                  clear hst
                  go_wp2_with (go_at_call 24; refine (sRow_any ⟨#[116, 97, 115, 107]⟩ _ _ [(t : Int), (tsk M t).st, (tsk M t).gr, (tsk M t).cpu, (tsk M t).nice, (tsk M t).mask, (tsk M t).v, (tsk M t).sum, (tsk M t).used, (tsk M t).load] _ (IntS.fresh0 _ _ _ rfl _) (by decide) (by simp) HSR.out).mono ?_; rintro e w6 ⟨rfl, hb6⟩; rw [show (⟨#[116, 97, 115, 107]⟩ : ByteArray).data.toList = [116, 97, 115, 107] from rfl, HSH.out]; generalize preT M t = X at *; generalize taskT M t = Y at *)
                  go_roundw
                  case rel => exact ⟨t + 1, by omega, by go_num, str_eq HC.out, HBEL.out.andThen (((Below.refl _ _).alloc (Nat.le_refl _) _).andThen hb6)⟩
                  case measure => simp [intOf]; omega
              · have HE2 := Lib.hid (show preT M t = textM M by rw [TM.out, ← pre_body, show t = M.tasks.length by omega])
                have hge2 : (M.tasks.length : Int) ≤ (t : Int) := by omega
                rw [HE2.out]
                clear hlt
                go_wp2
                go_ret
                exact ⟨rfl, bel5.out.andThen hb⟩
  · have F1 := Lib.hid (show worldB M = false by simpa only [Bool.not_eq_true] using f1)
    clear f1
    have TM := Lib.hid (show (⟨#[]⟩ : ByteArray) = strB (textM M) by rw [textM, if_neg (by rw [F1.out]; simp)]; rfl)
    go_wp2_with (go_at_call 23; refine (sWorldOk_any ca cc ta tc ga gc gh M _ q5 hF).mono ?_; rintro e w2 ⟨rfl, hb2⟩; rw [F1.out]; have r1 := (hb2.cell (p := ⟨w.heap.size, 0, none⟩) q0).trans q1; have r2 := (hb2.cell (p := ⟨w.heap.size, 1, none⟩) q0).trans q2; have r3 := (hb2.cell (p := ⟨w.heap.size, 2, none⟩) q0).trans q3; have r4 := (hb2.cell (p := ⟨w.heap.size, 3, none⟩) q0).trans q4; have r0 := Nat.lt_of_lt_of_le q0 hb2.size)
    go_ret
    exact ⟨ret_str TM.out, b1.andThen hb2⟩
end Go.Proofs.YtknfpigaognklaaGreatDoor
