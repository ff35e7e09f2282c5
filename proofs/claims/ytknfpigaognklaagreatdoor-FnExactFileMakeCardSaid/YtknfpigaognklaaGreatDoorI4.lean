/- The program's own walks over the queues of a world. -/
import Derived.Test.YtknfpigaognklaaGreatDoorI3
import Derived.Test.YtknfpigaognklaaGreatDoorS9
import Derived.Deep.Cut
import Derived.BigQuiet
namespace Go.Proofs.YtknfpigaognklaaGreatDoor
open Go.RowKit
theorem iLane_any (p : Nat) (c : Int) (w : World) :
    Calls Tryz.prog 88 #[.pointer (some ⟨p, 0, none⟩), .int .i64 c] w fun e w' => e = .returned (.agg #[.pointer (some ⟨p, 0, none⟩), .int .i64 c]) ∧ Below w.heap.size w w' := by
  go_enter Tryz.func88, Tryz.ntmps88
  go_wp2
  exact bodyPost_ret (results_cell_row rfl _ _ w.heap.size 119 _ (0, 0) _ rfl (heap_alloc_new w _) Tryz.underlying119 rfl (by kernel_rfl)) rfl ⟨rfl, (Below.refl _ _).alloc (Nat.le_refl _) _⟩
set_option maxRecDepth 100000 in
set_option maxHeartbeats 1000000 in
theorem iShelf_any (p : Nat) (ca : Option Addr) (cc : Nat) (ta : Option Addr) (tc : Nat) (ga : Option Addr) (gc : Nat) (gh : Nat → GH) (M : WorldM) (w : World) (hs : PA w p ca cc ta tc ga gc gh M) (g c : Nat) (b o : Nat) (hsa : (gh g).sa = some ⟨b, o, none⟩) (hg : g < M.groups.length) (hc : c < (grp M g).shelves.length) :
    Calls Tryz.prog 148 #[.agg #[.pointer (some ⟨p, 0, none⟩), .int .i64 (c : Int)], .int .i64 g] w fun e w' => e = .returned (.pointer (some ⟨b, o + c * 5, none⟩)) ∧ Below w.heap.size w w' := by
  have HSA := Lib.hid hsa
  clear hsa
  obtain ⟨q0, q1, q2, q3, q4, q5⟩ := hs
  obtain ⟨b2, o2, rfl, hB, f0, f1, f2, f3, f4, f5, f6, f7, f8, f9, f10, f11, f12, f13⟩ := q5.group_ hg
  rw [HSA.out] at f13
  clear f0 f1 f2 f3 f4 f5 f6 f7 f8 f9 f10 f11 f12 q1 q2 q3
  go_enter Tryz.func148, Tryz.ntmps148
  go_upto_region 1 with (fail)
  refine gen1 (p := fun W => Code.wp _ _ _ _ W) ?_
  intro W b1 s1 k1
  have x0 := k1.cell 0
  have x1 := k1.cell 1
  simp at x0 x1
  have r0 := Nat.lt_of_lt_of_le q0 b1.size
  have r4 := (b1.cell (p := ⟨p, 3, none⟩) q0).trans q4
  have hB2 := Nat.lt_of_lt_of_le hB b1.size
  have g13 := (b1.cell (p := ⟨b2, o2 + g * 14 + 13, none⟩) hB).trans f13
  have hl := k1.lt
  clear k1 f13 q4 q5
  go_wp2_with fail
  go_quiet (fail)
  go_wp2
  go_ret
  exact ⟨rfl, b1.drewN _⟩
set_option maxRecDepth 100000 in
set_option maxHeartbeats 1000000 in
theorem iQueues_any (p : Nat) (ca : Option Addr) (cc : Nat) (ta : Option Addr) (tc : Nat) (ga : Option Addr) (gc : Nat) (gh : Nat → GH) (M : WorldM) (w : World) (hs : PA w p ca cc ta tc ga gc gh M) (t : Nat) (ht : t < M.tasks.length) (g : Int) (c : Nat) :
    Calls Tryz.prog 184 #[.agg #[.pointer (some ⟨p, 0, none⟩), .int .i64 (c : Int)], .int .i64 t, .int .i64 g] w fun e w' => e = .returned (.bool (tq M t g c)) ∧ Below w.heap.size w w' := by
  obtain ⟨q0, q1, q2, q3, q4, q5⟩ := hs
  obtain ⟨b, o, rfl, hB, c0, c1, c2, c3, c4, c5, c6, c7, c8⟩ := q5.task_ ht
  have TN := Lib.hid (show tq M t g c = ((tsk M t).st == 1 && (tsk M t).gr == g && (tsk M t).cpu == c) from rfl)
  clear q1 q2 q4 q5
  go_enter Tryz.func184, Tryz.ntmps184
  go_upto_region 2 with (fail)
  refine gen2 (p := fun W => Code.wp _ _ _ _ W) ?_
  intro W b1 s1 k1 k2
  have x1 := k1.cell 1
  have t0 := k2.cell 0
  have t1 := k2.cell 1
  have t2 := k2.cell 2
  simp at x1 t0 t1 t2
  have h1 := k1.lt
  have h2 := k2.lt
  clear k1 k2 c0 c1 c2 c3 c4 c5 c6 c7 c8
  go_wp2
  all_goals
    go_ret
    exact ⟨ret_bool (by rw [TN.out]; simp [*]), b1⟩
set_option maxRecDepth 100000 in
set_option maxHeartbeats 1000000 in
theorem iHolds_any (p : Nat) (ca : Option Addr) (cc : Nat) (ta : Option Addr) (tc : Nat) (ga : Option Addr) (gc : Nat) (gh : Nat → GH) (M : WorldM) (w : World) (hs : PA w p ca cc ta tc ga gc gh M) (h : Nat) (hh : h < M.groups.length) (g : Int) (c : Nat) (hc : (grp M h).used = true → c < (grp M h).shelves.length) :
    Calls Tryz.prog 185 #[.agg #[.pointer (some ⟨p, 0, none⟩), .int .i64 (c : Int)], .int .i64 h, .int .i64 g] w fun e w' => e = .returned (.bool (gq M h g c)) ∧ Below w.heap.size w w' := by
  have HS := Lib.hid hs
  obtain ⟨q0, q1, q2, q3, q4, q5⟩ := hs
  obtain ⟨b, o, rfl, hB, f0, f1, f2, f3, f4, f5, f6, f7, f8, f9, f10, f11, f12, f13⟩ := q5.group_ hh
  clear q1 q2 q3 f2 f3 f4 f5 f6 f7 f8 f9 f10 f11 f12 f13
  go_enter Tryz.func185, Tryz.ntmps185
  go_upto_region 1 with (fail)
  refine gen1 (p := fun W => Code.wp _ _ _ _ W) ?_
  intro W b1 s1 k1
  have x0 := k1.cell 0
  have x1 := k1.cell 1
  simp at x0 x1
  have r0 := Nat.lt_of_lt_of_le q0 b1.size
  have r4 := (b1.cell (p := ⟨p, 3, none⟩) q0).trans q4
  have hB2 := Nat.lt_of_lt_of_le hB b1.size
  have g0 := (b1.cell (p := ⟨b, o + h * 14, none⟩) hB).trans f0
  have g1 := (b1.cell (p := ⟨b, o + h * 14 + 1, none⟩) hB).trans f1
  have hl := k1.lt
  clear k1 f0 f1 q4 q5
  by_cases h0 : h = 0
  · subst h0
    go_wp2
    go_ret
    exact ⟨rfl, b1⟩
  · have hne : ((h : Int) != 0) = true := by simpa using h0
    have hne2 : (h != 0) = true := by simpa using h0
    by_cases hu : (grp M h).used = true
    · rw [hu] at g0
      by_cases hp : (grp M h).parent = g
      · have hp' : ((grp M h).parent == g) = true := by simpa using hp
        have GN := Lib.hid (show gq M h g c = (she M h c).on by rw [gq, hne2, hu, hp']; rfl)
        have hcs := hc hu
        obtain ⟨b5, o5, e5, hB5, k0, k1, k2, k3, k4⟩ := (HS.out.keep b1).wa.shelf_ hh hcs
        have E5 := Lib.hid e5
        clear hp hu e5 k0 k2 k3 k4 hc h0 hne2
        go_wp2_with (go_at_call 148; refine (iShelf_any p ca cc ta tc _ gc gh M _ (HS.out.keep b1) h c b5 o5 E5.out hh hcs).mono ?_; rintro e w3 ⟨rfl, hb3⟩; have k5 := (hb3.cell (p := ⟨b5, o5 + c * 5 + 1, none⟩) hB5).trans k1)
        go_ret
        exact ⟨ret_bool GN.out.symm, b1.andThen hb3⟩
      · have hp' : ((grp M h).parent == g) = false := by simpa using hp
        have GN := Lib.hid (show gq M h g c = false by rw [gq, hp']; simp)
        clear hp hu hc h0
        go_wp2
        go_ret
        exact ⟨ret_bool GN.out.symm, b1⟩
    · have hu' : (grp M h).used = false := by simpa using hu
      rw [hu'] at g0
      have GN := Lib.hid (show gq M h g c = false by rw [gq, hu']; simp)
      clear hu hu' hc h0
      go_wp2
      go_ret
      exact ⟨ret_bool GN.out.symm, b1⟩
set_option maxRecDepth 100000 in
set_option maxHeartbeats 1000000 in
theorem iActive_any (p : Nat) (ca : Option Addr) (cc : Nat) (ta : Option Addr) (tc : Nat) (ga : Option Addr) (gc : Nat) (gh : Nat → GH) (M : WorldM) (w : World) (hs : PA w p ca cc ta tc ga gc gh M) (hF : FitG M) (hG : ∀ k, k < M.groups.length → (grp M k).used = true → (grp M k).shelves.length = M.cpus.length) (g : Int) (c : Nat) (hc : c < M.cpus.length) :
    Calls Tryz.prog 151 #[.agg #[.pointer (some ⟨p, 0, none⟩), .int .i64 (c : Int)], .int .i64 g] w fun e w' => e = .returned (.bool (act M g c)) ∧ Below w.heap.size w w' := by
  have htm := hF.task
  have hgm := hF.group
  have HG := Lib.hid hG
  clear hG
  go_enter Tryz.func151, Tryz.ntmps151
  go_upto_region 1 with (fail)
  refine gen1 (p := fun W => Code.wp _ _ _ _ W) ?_
  intro W b1 s1 k1
  have x0 := k1.cell 0
  have x1 := k1.cell 1
  simp at x0 x1
  have hl := k1.lt
  clear k1
  have pw := hs.keep b1
  obtain ⟨q0, q1, q2, q3, q4, q5⟩ := pw
  go_wp2
  have pw : PA W p ca cc ta tc ga gc gh M := ⟨q0, q1, q2, q3, q4, q5⟩
  clear q0 q1 q2 q3 q4 q5 hs
  go_loopw [4, 5, 13] (fun r _ i wr => ∃ k : Nat, k ≤ M.tasks.length ∧ i = .int .i64 k ∧ r = .bool false ∧ (List.range k).any (fun t => tq M t g c) = false ∧ Below W.heap.size W wr) (fun _ _ i _ => M.tasks.length - (intOf i).toNat)
  case atStart => exact ⟨0, by omega, rfl, rfl, rfl, Below.refl _ _⟩
  case round =>
    obtain ⟨k, hk, rfl, rfl, hany, hb⟩ := hrel
    have HA := Lib.hid hany
    clear hany
    have y0 := (hb.cell (p := ⟨w.heap.size, 0, none⟩) hl).trans x0
    have y1 := (hb.cell (p := ⟨w.heap.size, 1, none⟩) hl).trans x1
    have hl2 := Nat.lt_of_lt_of_le hl hb.size
    by_cases hlt : k < M.tasks.length
    · by_cases hq : tq M k g c = true
      · have HQ := Lib.hid hq
        clear hq
        go_wp2_with (go_at_call 184; refine (iQueues_any p ca cc ta tc ga gc gh M _ (pw.keep hb) k hlt g c).mono ?_; rintro e w3 ⟨rfl, hb3⟩; rw [HQ.out])
        go_ret
        exact ⟨ret_bool (by rw [act, any_of hlt HQ.out]; rfl), b1.andThen (hb.andThen hb3)⟩
      · have HQ := Lib.hid (show tq M k g c = false by simpa using hq)
        clear hq
        go_wp2_with (go_at_call 184; refine (iQueues_any p ca cc ta tc ga gc gh M _ (pw.keep hb) k hlt g c).mono ?_; rintro e w3 ⟨rfl, hb3⟩; rw [HQ.out])
        go_roundw
        case rel => exact ⟨k + 1, by omega, by go_num, rfl, by rw [any_succ, HA.out, HQ.out]; rfl, hb.andThen hb3⟩
        case measure => simp [intOf]; omega
    · have hk8 : k = M.tasks.length := by omega
      have HT := Lib.hid (show (List.range M.tasks.length).any (fun t => tq M t g c) = false by rw [← hk8]; exact HA.out)
      clear hk8
      obtain ⟨q0, q1, q2, q3, q4, q5⟩ := pw.keep hb
      go_wp2
      have b3 := b1.andThen hb
      have pwr : PA wr p ca cc ta tc ga gc gh M := ⟨q0, q1, q2, q3, q4, q5⟩
      clear q0 q1 q2 q3 q4 q5 HA hb
      obtain ⟨wo, hwo⟩ : ∃ wo : World, wo = wr := ⟨_, rfl⟩
      subst hwo
      go_loopw [4, 6, 27] (fun r _ i wr => ∃ k : Nat, k ≤ M.groups.length ∧ i = .int .i64 k ∧ r = .bool false ∧ (List.range k).any (fun h => gq M h g c) = false ∧ Below wo.heap.size wo wr) (fun _ _ i _ => M.groups.length - (intOf i).toNat)
      case atStart => exact ⟨0, by omega, rfl, rfl, rfl, Below.refl _ _⟩
      case round =>
        obtain ⟨k2, hk2, rfl, rfl, hany, hb⟩ := hrel
        have HA := Lib.hid hany
        clear hany
        have z0 := (hb.cell (p := ⟨w.heap.size, 0, none⟩) hl2).trans y0
        have z1 := (hb.cell (p := ⟨w.heap.size, 1, none⟩) hl2).trans y1
        have hl3 := Nat.lt_of_lt_of_le hl2 hb.size
        by_cases hlt2 : k2 < M.groups.length
        · have HC := Lib.hid (show (grp M k2).used = true → c < (grp M k2).shelves.length from fun hu => by rw [HG.out k2 hlt2 hu]; exact hc)
          by_cases hq : gq M k2 g c = true
          · have HQ := Lib.hid hq
            clear hq
            go_wp2_with (go_at_call 185; refine (iHolds_any p ca cc ta tc ga gc gh M _ (pwr.keep hb) k2 hlt2 g c HC.out).mono ?_; rintro e w3 ⟨rfl, hb3⟩; rw [HQ.out])
            go_ret
            exact ⟨ret_bool (by rw [act, HT.out, any_of hlt2 HQ.out]; rfl), b3.andThen (hb.andThen hb3)⟩
          · have HQ := Lib.hid (show gq M k2 g c = false by simpa using hq)
            clear hq
            go_wp2_with (go_at_call 185; refine (iHolds_any p ca cc ta tc ga gc gh M _ (pwr.keep hb) k2 hlt2 g c HC.out).mono ?_; rintro e w3 ⟨rfl, hb3⟩; rw [HQ.out])
            go_roundw
            case rel => exact ⟨k2 + 1, by omega, by go_num, rfl, by rw [any_succ, HA.out, HQ.out]; rfl, hb.andThen hb3⟩
            case measure => simp [intOf]; omega
        · have hk9 : k2 = M.groups.length := by omega
          have HG2 := Lib.hid (show (List.range M.groups.length).any (fun h => gq M h g c) = false by rw [← hk9]; exact HA.out)
          clear hk9
          go_wp2
          go_ret
          exact ⟨ret_bool (by rw [act, HT.out, HG2.out]; rfl), b3.andThen hb⟩
set_option maxRecDepth 100000 in
set_option maxHeartbeats 1000000 in
theorem iDry_any (p : Nat) (ca : Option Addr) (cc : Nat) (ta : Option Addr) (tc : Nat) (ga : Option Addr) (gc : Nat) (gh : Nat → GH) (M : WorldM) (w : World) (hs : PA w p ca cc ta tc ga gc gh M) (g c : Nat) (hg : g < M.groups.length) (hd : 0 < (grp M g).band.quota → c < (grp M g).band.dry.length) :
    Calls Tryz.prog 152 #[.agg #[.pointer (some ⟨p, 0, none⟩), .int .i64 (c : Int)], .int .i64 g] w fun e w' => e = .returned (.bool (dryM M g c)) ∧ Below w.heap.size w w' := by
  obtain ⟨q0, q1, q2, q3, q4, q5⟩ := hs
  have HQ5 := Lib.hid q5
  obtain ⟨b, o, rfl, hB, f0, f1, f2, f3, f4, f5, f6, f7, f8, f9, f10, f11, f12, f13⟩ := q5.group_ hg
  clear f0 f1 f2 f3 f4 f5 f6 f7 f13 q1 q2 q3
  go_enter Tryz.func152, Tryz.ntmps152
  go_upto_region 2 with (fail)
  refine gen2 (p := fun W => Code.wp _ _ _ _ W) ?_
  intro W b1 s1 k1 k2
  have x1 := k1.cell 1
  have t0 := k2.cell 0
  have t4 := k2.cell 4
  simp at x1 t0 t4
  have h1 := k1.lt
  have h2 := k2.lt
  clear k1 k2 f8 f9 f10 f11 f12 q4 q5
  by_cases hq : 0 < (grp M g).band.quota
  · have hcd := hd hq
    have DN := Lib.hid (show dryM M g c = (grp M g).band.dry.getD c false by rw [dryM, decide_eq_true hq]; rfl)
    obtain ⟨b5, o5, e5, hB5, k0⟩ := (HQ5.out.keep b1).dry_ hg hcd
    rw [e5] at t4
    clear e5 hd
    go_wp2
    go_ret
    exact ⟨ret_bool (by rw [DN.out]; simp [hcd]), b1⟩
  · have DN := Lib.hid (show dryM M g c = false by rw [dryM, decide_eq_false hq]; rfl)
    have hq' : (grp M g).band.quota ≤ 0 := by omega
    clear hq hd
    go_wp2
    go_ret
    exact ⟨ret_bool DN.out.symm, b1⟩
/-- is a task in line here -/
def lineI (M : WorldM) (t c : Nat) : Bool := (tsk M t).st == 1 && (tsk M t).cpu == c && onL M c (ch M (tsk M t).gr.toNat)
set_option maxRecDepth 100000 in
set_option maxHeartbeats 2000000 in
theorem iInLine_any (p : Nat) (ca : Option Addr) (cc : Nat) (ta : Option Addr) (tc : Nat) (ga : Option Addr) (gc : Nat) (gh : Nat → GH) (M : WorldM) (w : World) (hs : PA w p ca cc ta tc ga gc gh M) (hT : Tree M) (hG : ∀ k, k < 8 → (grp M k).used = true → (grp M k).shelves.length = M.cpus.length) (t c : Nat) (ht : t < M.tasks.length) (hc : c < M.cpus.length)
    (hr : (tsk M t).st = 1 → ∃ g : Nat, (tsk M t).gr = g ∧ g < 8 ∧ (grp M g).used = true) :
    Calls Tryz.prog 90 #[.agg #[.pointer (some ⟨p, 0, none⟩), .int .i64 (c : Int)], .int .i64 t] w fun e w' => e = .returned (.bool (lineI M t c)) ∧ Below w.heap.size w w' := by
  have HL := Lib.hid hT.len
  have HG := Lib.hid hG
  have HS := Lib.hid hs
  obtain ⟨q0, q1, q2, q3, q4, q5⟩ := hs
  obtain ⟨b, o, rfl, hB, c0, c1, c2, c3, c4, c5, c6, c7, c8⟩ := q5.task_ ht
  clear hG q1 q2 q4 q5
  go_enter Tryz.func90, Tryz.ntmps90
  go_upto_region 2 with (fail)
  refine gen2 (p := fun W => Code.wp _ _ _ _ W) ?_
  intro W b1 s1 k1 k2
  have x0 := k1.cell 0
  have x1 := k1.cell 1
  have t0 := k2.cell 0
  have t1 := k2.cell 1
  have t2 := k2.cell 2
  simp at x0 x1 t0 t1 t2
  have h1 := k1.lt
  have h2 := k2.lt
  clear k1 k2 c0 c1 c2 c3 c4 c5 c6 c7 c8 q0 q3
  have pw := HS.out.keep b1
  by_cases hst : (tsk M t).st = 1
  · obtain ⟨g, hgr, hg8, hgu⟩ := hr hst
    rw [hst] at t0
    by_cases hcp : (tsk M t).cpu = c
    · have LN := Lib.hid (show lineI M t c = onL M c (ch M g) by rw [lineI, hst, hcp, hgr]; simp)
      rw [hcp] at t2
      rw [hgr] at t1
      have HGU := Lib.hid hgu
      clear hst hcp hgr hr hgu
      go_wp2
      go_loopw [4, 6] (fun r i wr => ∃ k : Nat, k < 8 ∧ (grp M k).used = true ∧ i = .int .i64 k ∧ r = .bool false ∧ onL M c (ch M k) = onL M c (ch M g) ∧ Below W.heap.size W wr) (fun _ i _ => dp M (intOf i).toNat)
      case atStart => exact ⟨g, hg8, HGU.out, rfl, rfl, rfl, Below.refl _ _⟩
      case round =>
        obtain ⟨k, hk, huk, rfl, rfl, hon, hb⟩ := hrel
        have HUK := Lib.hid huk
        have HO := Lib.hid hon
        have y0 := (hb.cell (p := ⟨w.heap.size, 0, none⟩) h1).trans x0
        have y1 := (hb.cell (p := ⟨w.heap.size, 1, none⟩) h1).trans x1
        have hl2 := Nat.lt_of_lt_of_le h1 hb.size
        have pw2 := pw.keep hb
        by_cases h0 : k = 0
        · subst h0
          clear hon huk
          go_wp2
          go_ret
          exact ⟨ret_bool (by rw [LN.out, ← HO.out, ch_zero]; rfl), b1.andThen hb⟩
        · obtain ⟨hp1, hp2, hp3, hp4⟩ := hT.up k hk huk h0
          have hst := Lib.hid (hT.ch_step hk huk h0)
          have hlk : k < M.groups.length := by have := HL.out; omega
          have hck : c < (grp M k).shelves.length := by rw [HG.out k hk huk]; exact hc
          have hne2 : ((k : Int) != 0) = true := by simpa using h0
          obtain ⟨b9, o9, e10, hB9, k0, k1, k2, k3, k4⟩ := pw2.wa.shelf_ hlk hck
          have E10 := Lib.hid e10
          have HP1 := Lib.hid hp1
          have HP3 := Lib.hid hp3
          have HP4 := Lib.hid hp4
          have ON := Lib.hid (show onL M c (k :: ch M (par M k)) = ((she M k c).on && onL M c (ch M (par M k))) by simp only [onL, List.all_cons, show (k == 0) = false by simpa using h0, Bool.false_or])
          clear e10 hp1 hp3 hp4 hon huk k0 k2 k3 k4
          by_cases hson : (she M k c).on = true
          · rw [hson] at k1
            have HSON := Lib.hid hson
            clear hson h0
            go_wp2_with (go_at_call 148; refine (iShelf_any p ca cc _ tc ga gc gh M _ pw2 k c b9 o9 E10.out hlk hck).mono ?_; rintro e w3 ⟨rfl, hb3⟩; have k5 := (hb3.cell (p := ⟨b9, o9 + c * 5 + 1, none⟩) hB9).trans k1; have z0 := (hb3.cell (p := ⟨w.heap.size, 0, none⟩) hl2).trans y0; have hl3 := Nat.lt_of_lt_of_le hl2 hb3.size; obtain ⟨p0, p1, p2, p3, p4, p5⟩ := pw2.keep hb3; obtain ⟨b8, o8, rfl, hB8, f0, f1, f2⟩ := p5.group_ hlk; rw [HP1.out] at f1)
            go_roundw
            case rel => exact ⟨par M k, hp2, HP3.out, rfl, rfl, by rw [← HO.out, hst.out, ON.out, HSON.out]; rfl, hb.andThen hb3⟩
            case measure => simp [intOf]; have := HP4.out; omega
          · have hson' : (she M k c).on = false := by simpa using hson
            rw [hson'] at k1
            have HSON := Lib.hid hson'
            clear hson hson' h0
            go_wp2_with (go_at_call 148; refine (iShelf_any p ca cc _ tc ga gc gh M _ pw2 k c b9 o9 E10.out hlk hck).mono ?_; rintro e w3 ⟨rfl, hb3⟩; have k5 := (hb3.cell (p := ⟨b9, o9 + c * 5 + 1, none⟩) hB9).trans k1)
            go_ret
            exact ⟨ret_bool (by rw [LN.out, ← HO.out, hst.out, ON.out, HSON.out]; rfl), b1.andThen (hb.andThen hb3)⟩
    · have LN := Lib.hid (show lineI M t c = false by rw [lineI, show ((tsk M t).cpu == c) = false by simpa using hcp]; simp)
      have hcp' : ((tsk M t).cpu != c) = true := by simpa using hcp
      clear hst hcp hgr hr hgu
      go_wp2
      go_ret
      exact ⟨ret_bool LN.out.symm, b1⟩
  · have LN := Lib.hid (show lineI M t c = false by rw [lineI, show ((tsk M t).st == 1) = false by simpa using hst]; simp)
    have hst' : ((tsk M t).st != 1) = true := by simpa using hst
    clear hst hr
    go_wp2
    go_ret
    exact ⟨ret_bool LN.out.symm, b1⟩
end Go.Proofs.YtknfpigaognklaaGreatDoor
