/- A part of the proof. -/
import Derived.Test.YtomllcclallcdaaGreatDoorWr1
import Derived.Test.YtomllcclallcdaaGreatDoorWr2
import Derived.Deep.Cut
import Derived.BigQuiet
import Derived.Lib.QuietBelow
import Derived.Deep.RegionWith
import Derived.OrdersHeld
import Derived.Deep.RegionHeld3
import Derived.Deep.DrawnRows
namespace Go.Proofs.YtomllcclallcdaaGreatDoor
section
open Go.RowKit
theorem iLane_any (p : Nat) (c : Int) (w : World) :
    Calls Tryz.prog 121 #[.pointer (some ⟨p, 0, none⟩), .int .i64 c] w fun e w' => e = .returned (.agg #[.pointer (some ⟨p, 0, none⟩), .int .i64 c]) ∧ Below w.heap.size w w' := by
  go_enter Tryz.func121, Tryz.ntmps121
  go_wp2
  exact bodyPost_ret (results_cell_row rfl _ _ w.heap.size 128 _ (0, 0) _ rfl (heap_alloc_new w _) Tryz.underlying128 rfl (by kernel_rfl)) rfl ⟨rfl, (Below.refl _ _).alloc (Nat.le_refl _) _⟩
set_option maxRecDepth 100000 in
set_option maxHeartbeats 1000000 in
theorem iShelf_any (p : Nat) (ca : Option Addr) (cc : Nat) (ta : Option Addr) (tc : Nat) (ga : Option Addr) (gc : Nat) (gh : Nat → GH) (M : WorldM) (w : World) (hs : PA w p ca cc ta tc ga gc gh M) (g c : Nat) (b o : Nat) (hsa : (gh g).sa = some ⟨b, o, none⟩) (hg : g < M.groups.length) (hc : c < (grp M g).shelves.length) :
    Calls Tryz.prog 122 #[.agg #[.pointer (some ⟨p, 0, none⟩), .int .i64 (c : Int)], .int .i64 g] w fun e w' => e = .returned (.pointer (some ⟨b, o + c * 5, none⟩)) ∧ Below w.heap.size w w' := by
  have HSA := Lib.hid hsa
  clear hsa
  obtain ⟨q0, q1, q2, q3, q4, q5⟩ := hs
  obtain ⟨b2, o2, rfl, hB, f0, f1, f2, f3, f4, f5, f6, f7, f8, f9, f10, f11, f12, f13⟩ := q5.group_ hg
  rw [HSA.out] at f13
  clear f0 f1 f2 f3 f4 f5 f6 f7 f8 f9 f10 f11 f12 q1 q2 q3
  go_enter Tryz.func122, Tryz.ntmps122
  go_upto_region 1 with (fail)
  refine gen1 (p := fun W => Code.wp _ _ _ _ W) ?_
  intro W b1 s1 k1
  have x0 := k1.cell 0
  have x1 := k1.cell 1
  simp at x0 x1
  have r0 := Nat.lt_of_lt_of_le q0 b1.size
  have r4 := (b1.cell (p := ⟨p, 3, none⟩) q0).trans q4
  have hB2 := Nat.lt_of_lt_of_le hB b1.size
  have g13 := (b1.cell (p := ⟨b2, o2 + g * 14 + 13, none⟩) hB).trans f13
  have hl := k1.lt
  clear k1 f13 q4 q5
  go_wp2_with fail
  go_quiet (fail)
  go_wp2
  go_ret
  exact ⟨rfl, b1.drewN _⟩
set_option maxRecDepth 100000 in
set_option maxHeartbeats 1000000 in
theorem iQueues_any (p : Nat) (ca : Option Addr) (cc : Nat) (ta : Option Addr) (tc : Nat) (ga : Option Addr) (gc : Nat) (gh : Nat → GH) (M : WorldM) (w : World) (hs : PA w p ca cc ta tc ga gc gh M) (t : Nat) (ht : t < M.tasks.length) (g : Int) (c : Nat) :
    Calls Tryz.prog 156 #[.agg #[.pointer (some ⟨p, 0, none⟩), .int .i64 (c : Int)], .int .i64 t, .int .i64 g] w fun e w' => e = .returned (.bool (tq M t g c)) ∧ Below w.heap.size w w' := by
  obtain ⟨q0, q1, q2, q3, q4, q5⟩ := hs
  obtain ⟨b, o, rfl, hB, c0, c1, c2, c3, c4, c5, c6, c7, c8⟩ := q5.task_ ht
  have TN := Lib.hid (show tq M t g c = ((tsk M t).st == 1 && (tsk M t).gr == g && (tsk M t).cpu == c) from rfl)
  clear q1 q2 q4 q5
  go_enter Tryz.func156, Tryz.ntmps156
  go_upto_region 2 with (fail)
  refine gen2 (p := fun W => Code.wp _ _ _ _ W) ?_
  intro W b1 s1 k1 k2
  have x1 := k1.cell 1
  have t0 := k2.cell 0
  have t1 := k2.cell 1
  have t2 := k2.cell 2
  simp at x1 t0 t1 t2
  have h1 := k1.lt
  have h2 := k2.lt
  clear k1 k2 c0 c1 c2 c3 c4 c5 c6 c7 c8
  go_wp2
  all_goals
    go_ret
    exact ⟨ret_bool (by rw [TN.out]; simp [*]), b1⟩
set_option maxRecDepth 100000 in
set_option maxHeartbeats 1000000 in
theorem iHolds_any (p : Nat) (ca : Option Addr) (cc : Nat) (ta : Option Addr) (tc : Nat) (ga : Option Addr) (gc : Nat) (gh : Nat → GH) (M : WorldM) (w : World) (hs : PA w p ca cc ta tc ga gc gh M) (h : Nat) (hh : h < M.groups.length) (g : Int) (c : Nat) (hc : (grp M h).used = true → c < (grp M h).shelves.length) :
    Calls Tryz.prog 157 #[.agg #[.pointer (some ⟨p, 0, none⟩), .int .i64 (c : Int)], .int .i64 h, .int .i64 g] w fun e w' => e = .returned (.bool (gq M h g c)) ∧ Below w.heap.size w w' := by
  have HS := Lib.hid hs
  obtain ⟨q0, q1, q2, q3, q4, q5⟩ := hs
  obtain ⟨b, o, rfl, hB, f0, f1, f2, f3, f4, f5, f6, f7, f8, f9, f10, f11, f12, f13⟩ := q5.group_ hh
  clear q1 q2 q3 f2 f3 f4 f5 f6 f7 f8 f9 f10 f11 f12 f13
  go_enter Tryz.func157, Tryz.ntmps157
  go_upto_region 1 with (fail)
  refine gen1 (p := fun W => Code.wp _ _ _ _ W) ?_
  intro W b1 s1 k1
  have x0 := k1.cell 0
  have x1 := k1.cell 1
  simp at x0 x1
  have r0 := Nat.lt_of_lt_of_le q0 b1.size
  have r4 := (b1.cell (p := ⟨p, 3, none⟩) q0).trans q4
  have hB2 := Nat.lt_of_lt_of_le hB b1.size
  have g0 := (b1.cell (p := ⟨b, o + h * 14, none⟩) hB).trans f0
  have g1 := (b1.cell (p := ⟨b, o + h * 14 + 1, none⟩) hB).trans f1
  have hl := k1.lt
  clear k1 f0 f1 q4 q5
  by_cases h0 : h = 0
  · subst h0
    go_wp2
    go_ret
    exact ⟨rfl, b1⟩
  · have hne : ((h : Int) != 0) = true := by simpa using h0
    have hne2 : (h != 0) = true := by simpa using h0
    by_cases hu : (grp M h).used = true
    · rw [hu] at g0
      by_cases hp : (grp M h).parent = g
      · have hp' : ((grp M h).parent == g) = true := by simpa using hp
        have GN := Lib.hid (show gq M h g c = (she M h c).on by rw [gq, hne2, hu, hp']; rfl)
        have hcs := hc hu
        obtain ⟨b5, o5, e5, hB5, k0, k1, k2, k3, k4⟩ := (HS.out.keep b1).wa.shelf_ hh hcs
        have E5 := Lib.hid e5
        clear hp hu e5 k0 k2 k3 k4 hc h0 hne2
        go_wp2_with (go_at_call 122; refine (iShelf_any p ca cc ta tc _ gc gh M _ (HS.out.keep b1) h c b5 o5 E5.out hh hcs).mono ?_; rintro e w3 ⟨rfl, hb3⟩; have k5 := (hb3.cell (p := ⟨b5, o5 + c * 5 + 1, none⟩) hB5).trans k1)
        go_ret
        exact ⟨ret_bool GN.out.symm, b1.andThen hb3⟩
      · have hp' : ((grp M h).parent == g) = false := by simpa using hp
        have GN := Lib.hid (show gq M h g c = false by rw [gq, hp']; simp)
        clear hp hu hc h0
        go_wp2
        go_ret
        exact ⟨ret_bool GN.out.symm, b1⟩
    · have hu' : (grp M h).used = false := by simpa using hu
      rw [hu'] at g0
      have GN := Lib.hid (show gq M h g c = false by rw [gq, hu']; simp)
      clear hu hu' hc h0
      go_wp2
      go_ret
      exact ⟨ret_bool GN.out.symm, b1⟩
set_option maxRecDepth 100000 in
set_option maxHeartbeats 1000000 in
theorem iActive_any (p : Nat) (ca : Option Addr) (cc : Nat) (ta : Option Addr) (tc : Nat) (ga : Option Addr) (gc : Nat) (gh : Nat → GH) (M : WorldM) (w : World) (hs : PA w p ca cc ta tc ga gc gh M) (hF : FitG M) (hG : ∀ k, k < M.groups.length → (grp M k).used = true → (grp M k).shelves.length = M.cpus.length) (g : Int) (c : Nat) (hc : c < M.cpus.length) :
    Calls Tryz.prog 125 #[.agg #[.pointer (some ⟨p, 0, none⟩), .int .i64 (c : Int)], .int .i64 g] w fun e w' => e = .returned (.bool (act M g c)) ∧ Below w.heap.size w w' := by
  have htm := hF.task
  have hgm := hF.group
  have HG := Lib.hid hG
  clear hG
  go_enter Tryz.func125, Tryz.ntmps125
  go_upto_region 1 with (fail)
  refine gen1 (p := fun W => Code.wp _ _ _ _ W) ?_
  intro W b1 s1 k1
  have x0 := k1.cell 0
  have x1 := k1.cell 1
  simp at x0 x1
  have hl := k1.lt
  clear k1
  have pw := hs.keep b1
  obtain ⟨q0, q1, q2, q3, q4, q5⟩ := pw
  go_wp2
  have pw : PA W p ca cc ta tc ga gc gh M := ⟨q0, q1, q2, q3, q4, q5⟩
  clear q0 q1 q2 q3 q4 q5 hs
  go_loopw [4, 5, 13] (fun r _ i wr => ∃ k : Nat, k ≤ M.tasks.length ∧ i = .int .i64 k ∧ r = .bool false ∧ (List.range k).any (fun t => tq M t g c) = false ∧ Below W.heap.size W wr) (fun _ _ i _ => M.tasks.length - (intOf i).toNat)
  case atStart => exact ⟨0, by omega, rfl, rfl, rfl, Below.refl _ _⟩
  case round =>
    obtain ⟨k, hk, rfl, rfl, hany, hb⟩ := hrel
    have HA := Lib.hid hany
    clear hany
    have y0 := (hb.cell (p := ⟨w.heap.size, 0, none⟩) hl).trans x0
    have y1 := (hb.cell (p := ⟨w.heap.size, 1, none⟩) hl).trans x1
    have hl2 := Nat.lt_of_lt_of_le hl hb.size
    by_cases hlt : k < M.tasks.length
    · by_cases hq : tq M k g c = true
      · have HQ := Lib.hid hq
        clear hq
        go_wp2_with (go_at_call 156; refine (iQueues_any p ca cc ta tc ga gc gh M _ (pw.keep hb) k hlt g c).mono ?_; rintro e w3 ⟨rfl, hb3⟩; rw [HQ.out])
        go_ret
        exact ⟨ret_bool (by rw [act, any_of hlt HQ.out]; rfl), b1.andThen (hb.andThen hb3)⟩
      · have HQ := Lib.hid (show tq M k g c = false by simpa using hq)
        clear hq
        go_wp2_with (go_at_call 156; refine (iQueues_any p ca cc ta tc ga gc gh M _ (pw.keep hb) k hlt g c).mono ?_; rintro e w3 ⟨rfl, hb3⟩; rw [HQ.out])
        go_roundw
        case rel => exact ⟨k + 1, by omega, by go_num, rfl, by rw [any_succ, HA.out, HQ.out]; rfl, hb.andThen hb3⟩
        case measure => simp [intOf]; omega
    · have hk8 : k = M.tasks.length := by omega
      have HT := Lib.hid (show (List.range M.tasks.length).any (fun t => tq M t g c) = false by rw [← hk8]; exact HA.out)
      clear hk8
      obtain ⟨q0, q1, q2, q3, q4, q5⟩ := pw.keep hb
      go_wp2
      have b3 := b1.andThen hb
      have pwr : PA wr p ca cc ta tc ga gc gh M := ⟨q0, q1, q2, q3, q4, q5⟩
      clear q0 q1 q2 q3 q4 q5 HA hb
      obtain ⟨wo, hwo⟩ : ∃ wo : World, wo = wr := ⟨_, rfl⟩
      subst hwo
      go_loopw [4, 6, 27] (fun r _ i wr => ∃ k : Nat, k ≤ M.groups.length ∧ i = .int .i64 k ∧ r = .bool false ∧ (List.range k).any (fun h => gq M h g c) = false ∧ Below wo.heap.size wo wr) (fun _ _ i _ => M.groups.length - (intOf i).toNat)
      case atStart => exact ⟨0, by omega, rfl, rfl, rfl, Below.refl _ _⟩
      case round =>
        obtain ⟨k2, hk2, rfl, rfl, hany, hb⟩ := hrel
        have HA := Lib.hid hany
        clear hany
        have z0 := (hb.cell (p := ⟨w.heap.size, 0, none⟩) hl2).trans y0
        have z1 := (hb.cell (p := ⟨w.heap.size, 1, none⟩) hl2).trans y1
        have hl3 := Nat.lt_of_lt_of_le hl2 hb.size
        by_cases hlt2 : k2 < M.groups.length
        · have HC := Lib.hid (show (grp M k2).used = true → c < (grp M k2).shelves.length from fun hu => by rw [HG.out k2 hlt2 hu]; exact hc)
          by_cases hq : gq M k2 g c = true
          · have HQ := Lib.hid hq
            clear hq
            go_wp2_with (go_at_call 157; refine (iHolds_any p ca cc ta tc ga gc gh M _ (pwr.keep hb) k2 hlt2 g c HC.out).mono ?_; rintro e w3 ⟨rfl, hb3⟩; rw [HQ.out])
            go_ret
            exact ⟨ret_bool (by rw [act, HT.out, any_of hlt2 HQ.out]; rfl), b3.andThen (hb.andThen hb3)⟩
          · have HQ := Lib.hid (show gq M k2 g c = false by simpa using hq)
            clear hq
            go_wp2_with (go_at_call 157; refine (iHolds_any p ca cc ta tc ga gc gh M _ (pwr.keep hb) k2 hlt2 g c HC.out).mono ?_; rintro e w3 ⟨rfl, hb3⟩; rw [HQ.out])
            go_roundw
            case rel => exact ⟨k2 + 1, by omega, by go_num, rfl, by rw [any_succ, HA.out, HQ.out]; rfl, hb.andThen hb3⟩
            case measure => simp [intOf]; omega
        · have hk9 : k2 = M.groups.length := by omega
          have HG2 := Lib.hid (show (List.range M.groups.length).any (fun h => gq M h g c) = false by rw [← hk9]; exact HA.out)
          clear hk9
          go_wp2
          go_ret
          exact ⟨ret_bool (by rw [act, HT.out, HG2.out]; rfl), b3.andThen hb⟩
set_option maxRecDepth 100000 in
set_option maxHeartbeats 1000000 in
theorem iDry_any (p : Nat) (ca : Option Addr) (cc : Nat) (ta : Option Addr) (tc : Nat) (ga : Option Addr) (gc : Nat) (gh : Nat → GH) (M : WorldM) (w : World) (hs : PA w p ca cc ta tc ga gc gh M) (g c : Nat) (hg : g < M.groups.length) (hd : 0 < (grp M g).band.quota → c < (grp M g).band.dry.length) :
    Calls Tryz.prog 126 #[.agg #[.pointer (some ⟨p, 0, none⟩), .int .i64 (c : Int)], .int .i64 g] w fun e w' => e = .returned (.bool (dryM M g c)) ∧ Below w.heap.size w w' := by
  obtain ⟨q0, q1, q2, q3, q4, q5⟩ := hs
  have HQ5 := Lib.hid q5
  obtain ⟨b, o, rfl, hB, f0, f1, f2, f3, f4, f5, f6, f7, f8, f9, f10, f11, f12, f13⟩ := q5.group_ hg
  clear f0 f1 f2 f3 f4 f5 f6 f7 f13 q1 q2 q3
  go_enter Tryz.func126, Tryz.ntmps126
  go_upto_region 2 with (fail)
  refine gen2 (p := fun W => Code.wp _ _ _ _ W) ?_
  intro W b1 s1 k1 k2
  have x1 := k1.cell 1
  have t0 := k2.cell 0
  have t4 := k2.cell 4
  simp at x1 t0 t4
  have h1 := k1.lt
  have h2 := k2.lt
  clear k1 k2 f8 f9 f10 f11 f12 q4 q5
  by_cases hq : 0 < (grp M g).band.quota
  · have hcd := hd hq
    have DN := Lib.hid (show dryM M g c = (grp M g).band.dry.getD c false by rw [dryM, decide_eq_true hq]; rfl)
    obtain ⟨b5, o5, e5, hB5, k0⟩ := (HQ5.out.keep b1).dry_ hg hcd
    rw [e5] at t4
    clear e5 hd
    go_wp2
    go_ret
    exact ⟨ret_bool (by rw [DN.out]; simp [hcd]), b1⟩
  · have DN := Lib.hid (show dryM M g c = false by rw [dryM, decide_eq_false hq]; rfl)
    have hq' : (grp M g).band.quota ≤ 0 := by omega
    clear hq hd
    go_wp2
    go_ret
    exact ⟨ret_bool DN.out.symm, b1⟩
def lineI (M : WorldM) (t c : Nat) : Bool := (tsk M t).st == 1 && (tsk M t).cpu == c && onL M c (ch M (tsk M t).gr.toNat)
set_option maxRecDepth 100000 in
set_option maxHeartbeats 2000000 in
theorem iInLine_any (p : Nat) (ca : Option Addr) (cc : Nat) (ta : Option Addr) (tc : Nat) (ga : Option Addr) (gc : Nat) (gh : Nat → GH) (M : WorldM) (w : World) (hs : PA w p ca cc ta tc ga gc gh M) (hT : Tree M) (hG : ∀ k, k < 8 → (grp M k).used = true → (grp M k).shelves.length = M.cpus.length) (t c : Nat) (ht : t < M.tasks.length) (hc : c < M.cpus.length)
    (hr : (tsk M t).st = 1 → ∃ g : Nat, (tsk M t).gr = g ∧ g < 8 ∧ (grp M g).used = true) :
    Calls Tryz.prog 128 #[.agg #[.pointer (some ⟨p, 0, none⟩), .int .i64 (c : Int)], .int .i64 t] w fun e w' => e = .returned (.bool (lineI M t c)) ∧ Below w.heap.size w w' := by
  have HL := Lib.hid hT.len
  have HG := Lib.hid hG
  have HS := Lib.hid hs
  obtain ⟨q0, q1, q2, q3, q4, q5⟩ := hs
  obtain ⟨b, o, rfl, hB, c0, c1, c2, c3, c4, c5, c6, c7, c8⟩ := q5.task_ ht
  clear hG q1 q2 q4 q5
  go_enter Tryz.func128, Tryz.ntmps128
  go_upto_region 2 with (fail)
  refine gen2 (p := fun W => Code.wp _ _ _ _ W) ?_
  intro W b1 s1 k1 k2
  have x0 := k1.cell 0
  have x1 := k1.cell 1
  have t0 := k2.cell 0
  have t1 := k2.cell 1
  have t2 := k2.cell 2
  simp at x0 x1 t0 t1 t2
  have h1 := k1.lt
  have h2 := k2.lt
  clear k1 k2 c0 c1 c2 c3 c4 c5 c6 c7 c8 q0 q3
  have pw := HS.out.keep b1
  by_cases hst : (tsk M t).st = 1
  · obtain ⟨g, hgr, hg8, hgu⟩ := hr hst
    rw [hst] at t0
    by_cases hcp : (tsk M t).cpu = c
    · have LN := Lib.hid (show lineI M t c = onL M c (ch M g) by rw [lineI, hst, hcp, hgr]; simp)
      rw [hcp] at t2
      rw [hgr] at t1
      have HGU := Lib.hid hgu
      clear hst hcp hgr hr hgu
      go_wp2
      go_loopw [4, 6] (fun r i wr => ∃ k : Nat, k < 8 ∧ (grp M k).used = true ∧ i = .int .i64 k ∧ r = .bool false ∧ onL M c (ch M k) = onL M c (ch M g) ∧ Below W.heap.size W wr) (fun _ i _ => dp M (intOf i).toNat)
      case atStart => exact ⟨g, hg8, HGU.out, rfl, rfl, rfl, Below.refl _ _⟩
      case round =>
        obtain ⟨k, hk, huk, rfl, rfl, hon, hb⟩ := hrel
        have HUK := Lib.hid huk
        have HO := Lib.hid hon
        have y0 := (hb.cell (p := ⟨w.heap.size, 0, none⟩) h1).trans x0
        have y1 := (hb.cell (p := ⟨w.heap.size, 1, none⟩) h1).trans x1
        have hl2 := Nat.lt_of_lt_of_le h1 hb.size
        have pw2 := pw.keep hb
        by_cases h0 : k = 0
        · subst h0
          clear hon huk
          go_wp2
          go_ret
          exact ⟨ret_bool (by rw [LN.out, ← HO.out, ch_zero]; rfl), b1.andThen hb⟩
        · obtain ⟨hp1, hp2, hp3, hp4⟩ := hT.up k hk huk h0
          have hst := Lib.hid (hT.ch_step hk huk h0)
          have hlk : k < M.groups.length := by have := HL.out; omega
          have hck : c < (grp M k).shelves.length := by rw [HG.out k hk huk]; exact hc
          have hne2 : ((k : Int) != 0) = true := by simpa using h0
          obtain ⟨b9, o9, e10, hB9, k0, k1, k2, k3, k4⟩ := pw2.wa.shelf_ hlk hck
          have E10 := Lib.hid e10
          have HP1 := Lib.hid hp1
          have HP3 := Lib.hid hp3
          have HP4 := Lib.hid hp4
          have ON := Lib.hid (show onL M c (k :: ch M (par M k)) = ((she M k c).on && onL M c (ch M (par M k))) by simp only [onL, List.all_cons, show (k == 0) = false by simpa using h0, Bool.false_or])
          clear e10 hp1 hp3 hp4 hon huk k0 k2 k3 k4
          by_cases hson : (she M k c).on = true
          · rw [hson] at k1
            have HSON := Lib.hid hson
            clear hson h0
            go_wp2_with (go_at_call 122; refine (iShelf_any p ca cc _ tc ga gc gh M _ pw2 k c b9 o9 E10.out hlk hck).mono ?_; rintro e w3 ⟨rfl, hb3⟩; have k5 := (hb3.cell (p := ⟨b9, o9 + c * 5 + 1, none⟩) hB9).trans k1; have z0 := (hb3.cell (p := ⟨w.heap.size, 0, none⟩) hl2).trans y0; have hl3 := Nat.lt_of_lt_of_le hl2 hb3.size; obtain ⟨p0, p1, p2, p3, p4, p5⟩ := pw2.keep hb3; obtain ⟨b8, o8, rfl, hB8, f0, f1, f2⟩ := p5.group_ hlk; rw [HP1.out] at f1)
            go_roundw
            case rel => exact ⟨par M k, hp2, HP3.out, rfl, rfl, by rw [← HO.out, hst.out, ON.out, HSON.out]; rfl, hb.andThen hb3⟩
            case measure => simp [intOf]; have := HP4.out; omega
          · have hson' : (she M k c).on = false := by simpa using hson
            rw [hson'] at k1
            have HSON := Lib.hid hson'
            clear hson hson' h0
            go_wp2_with (go_at_call 122; refine (iShelf_any p ca cc _ tc ga gc gh M _ pw2 k c b9 o9 E10.out hlk hck).mono ?_; rintro e w3 ⟨rfl, hb3⟩; have k5 := (hb3.cell (p := ⟨b9, o9 + c * 5 + 1, none⟩) hB9).trans k1)
            go_ret
            exact ⟨ret_bool (by rw [LN.out, ← HO.out, hst.out, ON.out, HSON.out]; rfl), b1.andThen (hb.andThen hb3)⟩
    · have LN := Lib.hid (show lineI M t c = false by rw [lineI, show ((tsk M t).cpu == c) = false by simpa using hcp]; simp)
      have hcp' : ((tsk M t).cpu != c) = true := by simpa using hcp
      clear hst hcp hgr hr hgu
      go_wp2
      go_ret
      exact ⟨ret_bool LN.out.symm, b1⟩
  · have LN := Lib.hid (show lineI M t c = false by rw [lineI, show ((tsk M t).st == 1) = false by simpa using hst]; simp)
    have hst' : ((tsk M t).st != 1) = true := by simpa using hst
    clear hst hr
    go_wp2
    go_ret
    exact ⟨ret_bool LN.out.symm, b1⟩
end
end Go.Proofs.YtomllcclallcdaaGreatDoor
namespace Go.Proofs.YtomllcclallcdaaGreatDoor
section
open Go.RowKit Go.Sort
theorem left_as {P : Program} {f : FuncId} {args : Array Value} {w : World} {d : Nat} {os : Array Obj} {u v : Bool} (e : u = v)
    (h : Calls P f args (grow (redrawn w d) os) fun e w' => e = .returned (.bool u) ∧ grow (redrawn w d) os = w') : Calls P f args (grow (redrawn w d) os) fun e w'' => e = .returned (.bool v) ∧ ∃ p : Regrown, w'' = grow (redrawn w p.d) p.os := by
  subst e; exact regrown_left h
set_option maxHeartbeats 400000 in
theorem iBandZero_any (x : BandM) (h : GH) (w : World) :
    Calls Tryz.prog 150 #[.agg #[.int .i64 x.quota, .int .i64 x.pool, .int .i64 x.spent, .slice h.la x.locals.length h.lc, .slice h.da x.dry.length h.dc]] w fun e w' => e = .returned (.bool (noBand x)) ∧ Below w.heap.size w w' := by
  go_enter Tryz.func150, Tryz.ntmps150
  go_wp2
  all_goals go_ret
  all_goals exact ⟨ret_bool (by simp [noBand, *]), (Below.refl _ _).alloc (Nat.le_refl _) _⟩
set_option maxRecDepth 100000 in
set_option maxHeartbeats 1000000 in
theorem iBandOk_any (x : BandM) (h : GH) (w : World) (hl : IntS w h.la x.locals) (hd : BoolS w h.da x.dry) (hlm : x.locals.length ≤ 1048576) :
    Calls Tryz.prog 152 #[.agg #[.int .i64 x.quota, .int .i64 x.pool, .int .i64 x.spent, .slice h.la x.locals.length h.lc, .slice h.da x.dry.length h.dc]] w fun e w' => e = .returned (.bool (bandB x)) ∧ Below w.heap.size w w' := by
  by_cases hh : bandHead x = true
  · have hh' := hh
    simp only [bandHead, Bool.and_eq_true, beq_iff_eq] at hh'
    obtain ⟨⟨⟨⟨h1, h2⟩, h3⟩, h4⟩, h5⟩ := hh'
    obtain ⟨q1, q2⟩ := inR_iff.1 h1
    obtain ⟨l1, l2⟩ := inR_iff.1 h2
    obtain ⟨p1, p2⟩ := inR_iff.1 h4
    obtain ⟨s1, s2⟩ := inR_iff.1 h5
    have H3 := Lib.hid h3
    have H3' : ((x.dry.length : Int) != (x.locals.length : Int)) = false := by simp [h3]
    clear h3
    obtain ⟨la, lc, da, dc, sa, sc⟩ := h
    dsimp only at hl hd ⊢
    go_enter Tryz.func152, Tryz.ntmps152
    go_wp2_with (go_at_call 108; refine (iInRange_any _ _ _ _).mono ?_; rintro e w' ⟨rfl, rfl⟩; first | rw [h1] | rw [h2] | rw [h4] | rw [h5])
    refine gen1 (p := fun W => Code.wp _ _ _ _ W) ?_
    intro W b1 z1 kx
    have x0 := kx.cell 0
    have x1 := kx.cell 1
    have x3 := kx.cell 3
    have x4 := kx.cell 4
    simp at x0 x1 x3 x4
    have KX := Lib.hid kx.lt
    clear kx
    go_loopw [2, 3, 4, 5, 48] (fun r s _ _ i wr => ∃ k : Nat, k ≤ x.locals.length ∧ i = .int .i64 k ∧ r = .bool false ∧ s = .int .i64 (x.pool + x.spent + lsum x k) ∧ (List.range k).all (lcB x) = true ∧ Below W.heap.size W wr) (fun _ _ _ _ i _ => x.locals.length - (intOf i).toNat)
    case atStart => exact ⟨0, by omega, rfl, rfl, by simp [lsum], rfl, Below.refl _ _⟩
    case round =>
      obtain ⟨k, hk, rfl, rfl, rfl, hall, hb⟩ := hrel
      have y0 := (hb.cell (p := ⟨w.heap.size, 0, none⟩) KX.out).trans x0
      have y1 := (hb.cell (p := ⟨w.heap.size, 1, none⟩) KX.out).trans x1
      have y3 := (hb.cell (p := ⟨w.heap.size, 3, none⟩) KX.out).trans x3
      have y4 := (hb.cell (p := ⟨w.heap.size, 4, none⟩) KX.out).trans x4
      have hwl : w.heap.size < wr.heap.size := Nat.lt_of_lt_of_le KX.out hb.size
      have HA := Lib.hid hall
      clear hall
      have hsb := lsum_bd q2 k HA.out
      by_cases hlt : k < x.locals.length
      · obtain ⟨b2, o2, rfl, hB2, d0⟩ := ((hl.keep b1).keep hb).at_ k hlt
        obtain ⟨b3, o3, rfl, hB3, d1⟩ := ((hd.keep b1).keep hb).at_ k (by rw [H3.out]; exact hlt)
        have g0 : x.locals[k] = x.locals.getD k 0 := by simp [hlt]
        have g1 : x.dry[k]'(by rw [H3.out]; exact hlt) = x.dry.getD k false := by simp [H3.out, hlt]
        rw [g0] at d0
        rw [g1] at d1
        have hkd : k < x.dry.length := by rw [H3.out]; exact hlt
        clear g0 g1
        generalize hA : x.locals.getD k 0 = a at *
        generalize hD : x.dry.getD k false = d at *
        have HA1 := Lib.hid hA
        have HD1 := Lib.hid hD
        clear hA hD
        by_cases i1 : inR a 0 x.quota = true
        · obtain ⟨a1, a2⟩ := inR_iff.1 i1
          have hlc : lcB x k = !(d && (decide (0 < a) || decide (0 < x.pool))) := by rw [lcB, HA1.out, HD1.out, i1]; rfl
          have HLC := Lib.hid hlc
          clear hlc
          cases d with
          | false =>
            go_wp2_with (go_at_call 108; refine (iInRange_any _ _ _ _).mono ?_; rintro e w' ⟨rfl, rfl⟩; rw [i1])
            go_roundw
            case rel => exact ⟨k + 1, by omega, by go_num, rfl, val_eq (by simp only [lsum]; rw [HA1.out]; omega), by rw [all_succ, HA.out, HLC.out]; rfl, hb⟩
            case measure => simp [intOf]; omega
          | true =>
            by_cases ha : 0 < a
            · have hda := Lib.hid (show decide (0 < a) = true from decide_eq_true ha)
              have hne : (a != 0) = true := by simp; omega
              go_wp2_with (go_at_call 108; refine (iInRange_any _ _ _ _).mono ?_; rintro e w' ⟨rfl, rfl⟩; rw [i1])
              go_ret
              exact ⟨ret_bool (by rw [bandB, all_of hlt (by rw [HLC.out]; rw [hda.out]; rfl)]; simp), b1.andThen hb⟩
            · have hda := Lib.hid (show decide (0 < a) = false from decide_eq_false ha)
              have hne : (a != 0) = false := by simp; omega
              by_cases hp : 0 < x.pool
              · have hdp := Lib.hid (show decide (0 < x.pool) = true from decide_eq_true hp)
                have hnp : (x.pool != 0) = true := by simp; omega
                go_wp2_with (go_at_call 108; refine (iInRange_any _ _ _ _).mono ?_; rintro e w' ⟨rfl, rfl⟩; rw [i1])
                go_ret
                exact ⟨ret_bool (by rw [bandB, all_of hlt (by rw [HLC.out]; rw [hda.out, hdp.out]; rfl)]; simp), b1.andThen hb⟩
              · have hdp := Lib.hid (show decide (0 < x.pool) = false from decide_eq_false hp)
                have hnp : (x.pool != 0) = false := by simp; omega
                go_wp2_with (go_at_call 108; refine (iInRange_any _ _ _ _).mono ?_; rintro e w' ⟨rfl, rfl⟩; rw [i1])
                go_roundw
                case rel => exact ⟨k + 1, by omega, by go_num, rfl, val_eq (by simp only [lsum]; rw [HA1.out]; omega), by rw [all_succ, HA.out, HLC.out]; rw [hda.out, hdp.out]; rfl, hb⟩
                case measure => simp [intOf]; omega
        · have i1' : inR a 0 x.quota = false := by simpa using i1
          have HLC := Lib.hid (show lcB x k = false by rw [lcB, HA1.out, i1']; rfl)
          go_wp2_with (go_at_call 108; refine (iInRange_any _ _ _ _).mono ?_; rintro e w' ⟨rfl, rfl⟩; rw [i1'])
          go_ret
          exact ⟨ret_bool (by rw [bandB, all_of hlt HLC.out]; simp), b1.andThen hb⟩
      · have hkl : k = x.locals.length := by omega
        have HA2 := Lib.hid (show (List.range x.locals.length).all (lcB x) = true by rw [← hkl]; exact HA.out)
        have HH := Lib.hid hh
        clear hh
        go_wp2
        go_ret
        exact ⟨ret_bool (by rw [bandB, HH.out, HA2.out, ← hkl]; rfl), b1.andThen hb⟩
  · have BN := Lib.hid (show bandB x = false by rw [bandB, show bandHead x = false by simpa using hh]; rfl)
    by_cases h1 : inR x.quota 1 10000 = true
    · by_cases h2 : inR x.locals.length 1 4 = true
      · by_cases h3 : (x.dry.length == x.locals.length) = true
        · have h3g : ((x.dry.length : Int) != (x.locals.length : Int)) = false := by rw [beq_iff_eq] at h3; simp [h3]
          have H3 := Lib.hid h3
          clear h3
          by_cases h4 : inR x.pool 0 x.quota = true
          · by_cases h5 : inR x.spent 0 x.quota = true
            · exact absurd (show bandHead x = true by simp only [bandHead, h1, h2, h4, h5, H3.out]; rfl) hh
            · have h5f : inR x.spent 0 x.quota = false := by simpa using h5
              go_enter Tryz.func152, Tryz.ntmps152
              go_wp2_with (go_at_call 108; refine (iInRange_any _ _ _ _).mono ?_; rintro e w' ⟨rfl, rfl⟩; first | rw [h1] | rw [h2] | rw [h4] | rw [h5f])
              go_ret
              exact ⟨ret_bool BN.out.symm, (Below.refl _ _).alloc (Nat.le_refl _) _⟩
          · have h4f : inR x.pool 0 x.quota = false := by simpa using h4
            go_enter Tryz.func152, Tryz.ntmps152
            go_wp2_with (go_at_call 108; refine (iInRange_any _ _ _ _).mono ?_; rintro e w' ⟨rfl, rfl⟩; first | rw [h1] | rw [h2] | rw [h4f])
            go_ret
            exact ⟨ret_bool BN.out.symm, (Below.refl _ _).alloc (Nat.le_refl _) _⟩
        · have h3f : (x.dry.length == x.locals.length) = false := by simpa using h3
          have h3g : ((x.dry.length : Int) != (x.locals.length : Int)) = true := by simpa [bne_iff_ne, Int.ofNat_inj] using h3
          clear h3 h3f
          go_enter Tryz.func152, Tryz.ntmps152
          go_wp2_with (go_at_call 108; refine (iInRange_any _ _ _ _).mono ?_; rintro e w' ⟨rfl, rfl⟩; first | rw [h1] | rw [h2])
          go_ret
          exact ⟨ret_bool BN.out.symm, (Below.refl _ _).alloc (Nat.le_refl _) _⟩
      · have h2f : inR x.locals.length 1 4 = false := by simpa using h2
        go_enter Tryz.func152, Tryz.ntmps152
        go_wp2_with (go_at_call 108; refine (iInRange_any _ _ _ _).mono ?_; rintro e w' ⟨rfl, rfl⟩; first | rw [h1] | rw [h2f])
        go_ret
        exact ⟨ret_bool BN.out.symm, (Below.refl _ _).alloc (Nat.le_refl _) _⟩
    · have h1f : inR x.quota 1 10000 = false := by simpa using h1
      go_enter Tryz.func152, Tryz.ntmps152
      go_wp2_with (go_at_call 108; refine (iInRange_any _ _ _ _).mono ?_; rintro e w' ⟨rfl, rfl⟩; rw [h1f])
      go_ret
      exact ⟨ret_bool BN.out.symm, (Below.refl _ _).alloc (Nat.le_refl _) _⟩
set_option maxRecDepth 100000 in
set_option maxHeartbeats 1000000 in
theorem iGroupZero_any (x : GroupM) (h : GH) (w : World) (hu : x.used = false) :
    Calls Tryz.prog 112 #[.agg #[.bool x.used, .int .i64 x.parent, .string x.name, .int .i64 x.weight, .int .i64 x.cpus, .int .i64 x.period, .int .i64 x.next, .int .i64 x.sum, .int .i64 x.band.quota, .int .i64 x.band.pool, .int .i64 x.band.spent, .slice h.la x.band.locals.length h.lc, .slice h.da x.band.dry.length h.dc, .slice h.sa x.shelves.length h.sc]] w fun e w' => e = .returned (.bool (grpZ x)) ∧ Below w.heap.size w w' := by
  rw [hu]
  go_enter Tryz.func112, Tryz.ntmps112
  go_upto_region 1 with (fail)
  refine gen1 (p := fun W => Code.wp _ _ _ _ W) ?_
  intro W b1 s1 kx
  have x0 := kx.cell 0
  have x1 := kx.cell 1
  have x2 := kx.cell 2
  have x3 := kx.cell 3
  have x4 := kx.cell 4
  have x5 := kx.cell 5
  have x6 := kx.cell 6
  have x7 := kx.cell 7
  have x8 := kx.cell 8
  have x9 := kx.cell 9
  have x10 := kx.cell 10
  have x11 := kx.cell 11
  have x12 := kx.cell 12
  have x13 := kx.cell 13
  simp at x0 x1 x2 x3 x4 x5 x6 x7 x8 x9 x10 x11 x12 x13
  have hxs := kx.lt
  clear kx
  go_wp2_with (go_at_call 150; refine (iBandZero_any x.band h _).mono ?_; rintro e w2 ⟨rfl, hb2⟩; have z13 := (hb2.cell (p := ⟨w.heap.size, 13, none⟩) hxs).trans x13; have hxs2 := Nat.lt_of_lt_of_le hxs hb2.size)
  all_goals go_ret
  all_goals first
    | exact ⟨ret_bool (by simp [grpZ, *]), b1⟩
    | exact ⟨ret_bool (by simp [grpZ, *]), b1.andThen hb2⟩
def quotaI (M : WorldM) (x : GroupM) : Bool := if noBand x.band then (x.period == 0) && (x.next == 0)
  else bandB x.band && ((x.band.locals.length : Int) == M.cpus.length) && inR x.period 1 1000 && inR x.next (M.now + 1) (M.now + x.period)
set_option maxRecDepth 100000 in
set_option maxHeartbeats 1000000 in
theorem iQuotaOk_any (p : Nat) (ca : Option Addr) (cc : Nat) (ta : Option Addr) (tc : Nat) (ga : Option Addr) (gc : Nat) (gh : Nat → GH) (M : WorldM) (w : World) (hs : PA w p ca cc ta tc ga gc gh M) (x : GroupM) (h : GH) (hl : IntS w h.la x.band.locals) (hd : BoolS w h.da x.band.dry) (hlm : x.band.locals.length ≤ 1048576) (hnow : inR M.now 0 100000000000000000 = true) :
    Calls Tryz.prog 115 #[.pointer (some ⟨p, 0, none⟩), .agg #[.bool x.used, .int .i64 x.parent, .string x.name, .int .i64 x.weight, .int .i64 x.cpus, .int .i64 x.period, .int .i64 x.next, .int .i64 x.sum, .int .i64 x.band.quota, .int .i64 x.band.pool, .int .i64 x.band.spent, .slice h.la x.band.locals.length h.lc, .slice h.da x.band.dry.length h.dc, .slice h.sa x.shelves.length h.sc]] w fun e w' => e = .returned (.bool (quotaI M x)) ∧ Below w.heap.size w w' := by
  obtain ⟨n0, n1⟩ := inR_iff.1 hnow
  have hcm : M.cpus.length ≤ M.cpus.length := Nat.le_refl _
  go_enter Tryz.func115, Tryz.ntmps115
  go_upto_region 1 with (fail)
  refine gen1 (p := fun W => Code.wp _ _ _ _ W) ?_
  intro W b1 s1 kx
  have x5 := kx.cell 5
  have x6 := kx.cell 6
  have x8 := kx.cell 8
  have x9 := kx.cell 9
  have x10 := kx.cell 10
  have x11 := kx.cell 11
  have x12 := kx.cell 12
  simp at x5 x6 x8 x9 x10 x11 x12
  have hxs := kx.lt
  have hl2 := hl.keep b1
  have hd2 := hd.keep b1
  have pw := hs.keep b1
  have HS := Lib.hid pw
  obtain ⟨q0, q1, q2, q3, q4, q5⟩ := pw
  clear kx q3 q4 q5 hs hl hd hcm
  by_cases hnb : noBand x.band = true
  · have QN := Lib.hid (show quotaI M x = ((x.period == 0) && (x.next == 0)) by rw [quotaI, if_pos hnb])
    have HNB := Lib.hid hnb
    clear hnb
    go_wp2_with (go_at_call 150; refine (iBandZero_any x.band h _).mono ?_; rintro e w2 ⟨rfl, hb2⟩; rw [HNB.out]; have z5 := (hb2.cell (p := ⟨w.heap.size, 5, none⟩) hxs).trans x5; have z6 := (hb2.cell (p := ⟨w.heap.size, 6, none⟩) hxs).trans x6; have hxs2 := Nat.lt_of_lt_of_le hxs hb2.size)
    all_goals go_ret
    all_goals exact ⟨ret_bool (by rw [QN.out]; simp [*]), b1.andThen hb2⟩
  · have HNB := Lib.hid (show noBand x.band = false by simpa using hnb)
    have QN := Lib.hid (show quotaI M x = (bandB x.band && ((x.band.locals.length : Int) == M.cpus.length) && inR x.period 1 1000 && inR x.next (M.now + 1) (M.now + x.period)) by rw [quotaI, if_neg hnb])
    clear hnb
    go_upto_region 3 with (go_at_call 150; refine (iBandZero_any x.band h _).mono ?_; rintro e w2 ⟨rfl, hb2⟩; rw [HNB.out])
    have z5 := (hb2.cell (p := ⟨w.heap.size, 5, none⟩) hxs).trans x5
    have z6 := (hb2.cell (p := ⟨w.heap.size, 6, none⟩) hxs).trans x6
    have z8 := (hb2.cell (p := ⟨w.heap.size, 8, none⟩) hxs).trans x8
    have z9 := (hb2.cell (p := ⟨w.heap.size, 9, none⟩) hxs).trans x9
    have z10 := (hb2.cell (p := ⟨w.heap.size, 10, none⟩) hxs).trans x10
    have z11 := (hb2.cell (p := ⟨w.heap.size, 11, none⟩) hxs).trans x11
    have z12 := (hb2.cell (p := ⟨w.heap.size, 12, none⟩) hxs).trans x12
    have p1 := (hb2.cell (p := ⟨p, 0, none⟩) q0).trans q1
    have p2 := (hb2.cell (p := ⟨p, 1, none⟩) q0).trans q2
    have hl3 := hl2.keep hb2
    have hd3 := hd2.keep hb2
    have b3 := b1.andThen hb2
    clear x5 x6 x8 x9 x10 x11 x12 q1 q2 hb2 hl2 hd2
    have Z5 := fun d os => cell_regrown z5 d os
    have Z6 := fun d os => cell_regrown z6 d os
    have Z8 := fun d os => cell_regrown z8 d os
    have Z9 := fun d os => cell_regrown z9 d os
    have Z10 := fun d os => cell_regrown z10 d os
    have Z11 := fun d os => cell_regrown z11 d os
    have Z12 := fun d os => cell_regrown z12 d os
    have P1 := fun d os => cell_regrown p1 d os
    have P2 := fun d os => cell_regrown p2 d os
    have HL3 := Lib.hid hl3
    have HD3 := Lib.hid hd3
    have hlm2 := Lib.hid hlm
    clear hl3 hd3 z5 z6 z8 z9 z10 z11 z12 p1 p2
    by_cases hbo : bandB x.band = true
    · have HBO := Lib.hid hbo
      clear hbo
      by_cases hlc : ((x.band.locals.length : Int) == (M.cpus.length : Int)) = true
      · by_cases hpe : inR x.period 1 1000 = true
        · have hpb := inR_iff.1 hpe
          have QF := Lib.hid (show quotaI M x = inR x.next (M.now + 1) (M.now + x.period) by rw [QN.out, HBO.out, hlc, hpe]; rfl)
          have HPE := Lib.hid hpe
          clear hpe
          refine wp_region_quiet_below (by kernel_rfl) (by kernel_rfl) ?_
          repeat (go_big_quiet_step (first | (go_at_call 152; exact regrown_as HBO.out (iBandOk_any x.band h _ (HL3.out.keep (below_regrown _ _ _)) (HD3.out.keep (below_regrown _ _ _)) hlm2.out)) | (go_at_call_of 108 (x.next); exact regrown_left (iInRange_any _ _ _ _)) | (go_at_call 108; exact left_as HPE.out (iInRange_any x.period 1 1000 _))))
          refine wpQuiet_nil ?_
          intro _ hw'
          obtain ⟨⟨dq, osq⟩, hw''⟩ := hw'
          subst hw''
          have hb4 := below_regrown w2 dq osq
          generalize grow (redrawn w2 dq) osq = W2 at *
          go_wp2
          go_ret
          exact ⟨ret_bool QF.out.symm, b3.andThen hb4⟩
        · have HPE := Lib.hid (show inR x.period 1 1000 = false by simpa using hpe)
          have QF := Lib.hid (show quotaI M x = false by rw [QN.out, HPE.out]; simp)
          clear hpe
          refine wp_region_quiet_below (by kernel_rfl) (by kernel_rfl) ?_
          repeat (go_big_quiet_step (first | (go_at_call 152; exact regrown_as HBO.out (iBandOk_any x.band h _ (HL3.out.keep (below_regrown _ _ _)) (HD3.out.keep (below_regrown _ _ _)) hlm2.out)) | (go_at_call 108; exact left_as HPE.out (iInRange_any x.period 1 1000 _))))
          refine wpQuiet_nil ?_
          intro _ hw'
          obtain ⟨⟨dq, osq⟩, hw''⟩ := hw'
          subst hw''
          have hb4 := below_regrown w2 dq osq
          generalize grow (redrawn w2 dq) osq = W2 at *
          go_wp2
          go_ret
          exact ⟨ret_bool QF.out.symm, b3.andThen hb4⟩
      · have HLC : ((x.band.locals.length : Int) == (M.cpus.length : Int)) = false := by simpa [Int.ofNat_inj] using hlc
        have QF := Lib.hid (show quotaI M x = false by rw [QN.out, HLC]; simp)
        clear hlc
        refine wp_region_quiet_below (by kernel_rfl) (by kernel_rfl) ?_
        repeat (go_big_quiet_step ((go_at_call 152; exact regrown_as HBO.out (iBandOk_any x.band h _ (HL3.out.keep (below_regrown _ _ _)) (HD3.out.keep (below_regrown _ _ _)) hlm2.out))))
        refine wpQuiet_nil ?_
        intro _ hw'
        obtain ⟨⟨dq, osq⟩, hw''⟩ := hw'
        subst hw''
        have hb4 := below_regrown w2 dq osq
        generalize grow (redrawn w2 dq) osq = W2 at *
        go_wp2
        go_ret
        exact ⟨ret_bool QF.out.symm, b3.andThen hb4⟩
    · have HBO := Lib.hid (show bandB x.band = false by simpa using hbo)
      have QF := Lib.hid (show quotaI M x = false by rw [QN.out, HBO.out]; rfl)
      clear hbo
      refine wp_region_quiet_below (by kernel_rfl) (by kernel_rfl) ?_
      repeat (go_big_quiet_step ((go_at_call 152; exact regrown_as HBO.out (iBandOk_any x.band h _ (HL3.out.keep (below_regrown _ _ _)) (HD3.out.keep (below_regrown _ _ _)) hlm2.out))))
      refine wpQuiet_nil ?_
      intro _ hw'
      obtain ⟨⟨dq, osq⟩, hw''⟩ := hw'
      subst hw''
      have hb4 := below_regrown w2 dq osq
      generalize grow (redrawn w2 dq) osq = W2 at *
      go_wp2
      go_ret
      exact ⟨ret_bool QF.out.symm, b3.andThen hb4⟩
end
end Go.Proofs.YtomllcclallcdaaGreatDoor
namespace Go.Proofs.YtomllcclallcdaaGreatDoor
section
open Go.RowKit Go.Sort
def plainOp (o : Oper) : Bool := match o.op with
  | .move _ => true
  | .assign _ => true
  | .pick _ _ _ => true
  | .load _ _ => true
  | .nilCheck _ => true
  | .binOp _ _ _ _ _ => true
  | .unOp _ _ _ => true
  | .fieldAddr _ _ _ => true
  | .field _ _ _ => true
  | .indexAddr _ _ _ => true
  | .index _ _ _ => true
  | .build _ _ => true
  | .extract _ _ => true
  | .makeFunc _ _ _ => true
  | .slice _ _ _ _ _ => true
  | .call c => (match c.callee with | .builtin .len => true | _ => false)
  | _ => false
theorem ok_value {α : Type} {s : Sem α} {g : α → Value} {P : Program} {w w' : World} {n : Next} (h : (s >>= fun x => pure (Next.value (g x)) : Sem Next).run P w = .ok n w') : ∃ u, n = .value u := by
  rw [Sem.run_bind] at h
  cases hs : s.run P w with
  | ok v w1 => rw [hs] at h; simp only [Result.andThen_ok, Sem.run_pure] at h; injection h with h1 _; exact ⟨_, h1.symm⟩
  | halt x w1 => rw [hs] at h; cases h
theorem panics_not {α : Type} {P : Program} {w w' : World} {n : α} (h : (runtimePanic .nilDeref : Sem α).run P w = .ok n w') : False := by
  simp [runtimePanic, go_sem] at h
theorem plain_value {o : Oper} (hp : plainOp o = true) {P : Program} {ρ : Operand → Value} {w w' : World} {n : Next} (h : (execOp ρ o).run P w = .ok n w') : ∃ u, n = .value u := by
  obtain ⟨dst, op, ty, pos, aft, gd⟩ := o
  cases op <;> simp only [plainOp, Bool.false_eq_true] at hp <;> simp only [execOp] at h
  case nilCheck x =>
    split at h
    · exact (panics_not h).elim
    · exact (panics_not h).elim
    · exact (panics_not h).elim
    · split at h
      · exact (panics_not h).elim
      · rw [Sem.run_bind] at h
        cases hs : (program : Sem Program).run P w with
        | ok v w1 =>
          rw [hs] at h
          simp only [Result.andThen_ok] at h
          rw [Sem.run_bind] at h
          rename_i t v1 _ name _
          cases hs2 : Sem.run P (nilAhead (v.types.size + Made.depth) _ _ _) w1 with
          | ok v2 w2 =>
            rw [hs2] at h
            simp only [Result.andThen_ok] at h
            split at h
            · simp [go_sem] at h
            · rw [Sem.run_pure] at h; injection h with h1 _; exact ⟨_, h1.symm⟩
          | halt _ _ => rw [hs2] at h; cases h
        | halt _ _ => rw [hs] at h; cases h
      · rw [Sem.run_pure] at h; injection h with h1 _; exact ⟨_, h1.symm⟩
    · rw [Sem.run_pure] at h; injection h with h1 _; exact ⟨_, h1.symm⟩
  case call c =>
    obtain ⟨callee, args, tys⟩ := c
    cases callee with
    | builtin b => cases b <;> simp only [Bool.false_eq_true] at hp; exact ok_value (s := Builtin.len_ _ _ _) (g := id) h
    | _ => simp at hp
  all_goals first
    | exact ok_value (g := id) h
    | exact ok_value h
    | (rw [Sem.run_pure] at h; injection h with h1 _; exact ⟨_, h1.symm⟩)
section
variable {P : Program} {ops : Array Oper} {C : World → Prop} {md : Region.Mode}
def wpR (P : Program) (ops : Array Oper) (C : World → Prop) (Q : Act → World → Prop) : List Bool → List Oper → Act → World → Prop
  | _, [], a, w => Q a w
  | [], _ :: _, _, _ => False
  | b :: fs, o :: rest, a, w => if Region.wanted o (yielded ops a.tmps) = true then
        (if b = true then o.wp P a w (fun a' w' => C w' ∧ wpR P ops C Q fs rest a' w') (fun _ _ _ => False)
         else o.quiet P a C (fun a' => wpR P ops C Q fs rest a' w))
      else wpR P ops C Q fs rest (a.put o.dst undef) w
def ordB (md : Region.Mode) (ops : Array Oper) : List Bool → List Nat → Array Bool → Bool
  | _, [], listed => (Region.ready md ops listed).isEmpty
  | [], _ :: _, _ => false
  | b :: fs, i :: rest, listed => (if b then Region.ready md ops listed == [i] else
      ((Region.ready md ops listed).contains i && (Region.free md ops listed i && ((ops[i]?).map plainOp).getD false))) && ordB md ops fs rest (listed.setIfInBounds i true)
theorem wpAnyH_of_wpR {K : Act → World → Prop} (hs : Region.noSelect ops = true) : ∀ (fs : List Bool) (l : List Nat) (L : List Oper) (listed : Array Bool) (a : Act) (w : World), l.map (fun i => ops[i]?) = L.map some → ordB md ops fs l listed = true → C w →
    wpR P ops C K fs L a w → wpAnyH P md ops (fun e a w => e = .normal ∧ K a w) C l.length listed a w
  | fs, [], [], listed, a, w, _, ho, _, h => ⟨by cases fs <;> simpa [ordB] using ho, rfl, by cases fs <;> exact h⟩
  | _, [], _ :: _, _, _, _, hl, _, _, _ => by simp at hl
  | _, _ :: _, [], _, _, _, hl, _, _, _ => by simp at hl
  | [], _ :: _, _ :: _, _, _, _, _, ho, _, _ => by simp [ordB] at ho
  | b :: fs, i :: rest, o :: L, listed, a, w, hl, ho, hC, h => by
    simp only [ordB, Bool.and_eq_true] at ho
    obtain ⟨ho1, ho2⟩ := ho
    simp only [wpR] at h
    simp only [List.map_cons, List.cons.injEq] at hl
    obtain ⟨hi, hl⟩ := hl
    by_cases hb : b = true
    · simp only [hb, if_true] at ho1 h
      have hr : Region.ready md ops listed = [i] := by simpa using ho1
      refine wpAnyH_all hr (by simp) fun j hj => ?_
      obtain rfl : j = i := by simpa using hj
      unfold wpOp
      simp only [hi]
      split
      · rename_i hw
        simp only [hw, if_true] at h
        refine .inl ?_
        have h2 := Oper.wp_mono (K' := fun a' w' => C w' ∧ wpAnyH P md ops (fun e a w => e = .normal ∧ K a w) C rest.length (listed.setIfInBounds j true) a' w') (fun a' w' hh => ⟨hh.1, wpAnyH_of_wpR hs fs rest L _ a' w' hl ho2 hh.1 hh.2⟩) h
        unfold Oper.wp at *
        generalize (execOp a.eval o).run P w = r at *
        cases r with
        | ok n w' =>
          cases n <;> simp only [Oper.upon] at h2 ⊢ <;> first
            | exact h2
            | exact Calls.mono h2 fun e w'' he => by
                cases e with
                | returned v => exact he
                | panicked c => exact he.elim
                | outgrown => obtain ⟨_, _, q⟩ := he; exact q.elim
        | halt x w' => cases x <;> simp only [Oper.upon] at h2 ⊢ <;> exact h2.elim
      · rename_i hw
        simp only [hw] at h
        exact ⟨hC, wpAnyH_of_wpR hs fs rest L _ _ w hl ho2 hC h⟩
    · simp only [hb] at ho1 h
      simp only [Bool.false_eq_true, if_false, Bool.and_eq_true] at ho1 h
      obtain ⟨hr, hf, hp⟩ := ho1
      have hp' : plainOp o = true := by simpa [hi] using hp
      by_cases hw : Region.wanted o (yielded ops a.tmps) = true
      · simp only [hw, if_true] at h
        obtain ⟨v, h1, h2⟩ := h
        refine wpAnyH_take hi hs hf hr (fun c a w q => by cases q.1) (.inl ⟨hw, fun w' hw' => ?_⟩) hC (wpAnyH_of_wpR hs fs rest L _ _ w hl ho2 hC h2)
        have h3 := h1 w' hw'
        unfold Oper.quietAt at h3
        generalize hx : (execOp a.eval o).run P w' = r at h3
        cases r with
        | ok n w'' =>
          obtain ⟨u, rfl⟩ := plain_value hp' hx
          simp only [Oper.quietUpon] at h3
          rw [h3.1, h3.2]
        | halt x w'' => exact h3.elim
      · have hw' : Region.wanted o (yielded ops a.tmps) = false := by simpa using hw
        simp only [hw', Bool.false_eq_true, if_false] at h
        exact wpAnyH_take hi hs hf hr (fun c a w q => by cases q.1) (.inr ⟨hw', rfl⟩) hC (wpAnyH_of_wpR hs fs rest L _ _ w hl ho2 hC h)
structure Rgn (P : Program) (ops : Array Oper) (C : World → Prop) (Q : Act → World → Prop) (fs : List Bool) (l : List Oper) (a : Act) (w : World) : Prop where
  out : wpR P ops C Q fs l a w
theorem region_in {id : Nat} {Q : Exit → Act → World → Prop} {a : Act} {w : World} {l : List Oper} (fs : List Bool) (ord : List Nat) (L : List Oper) (hm : P.follows .mixedOrders = true) (hs : Region.noSelect l.toArray = true)
    (hn : ord.length = l.length) (hL : ord.map (fun i => l.toArray[i]?) = L.map some) (hB : ordB .any l.toArray fs ord (Array.replicate l.length false) = true)
    (h : Rgn P l.toArray (fun w' => ∃ p : Regrown, w' = grow (redrawn w p.d) p.os) (fun a' w' => Q .normal a' w') fs L a w.drew) : (Code.region id l.toArray true).wp P Q a w := by
  refine Code.wp_mono (Q := fun e a w => e = .normal ∧ Q .normal a w) (fun e a w hh => by obtain ⟨rfl, hh⟩ := hh; exact hh) ?_
  refine wp_region_held (S := fun w' => ∃ p : Regrown, w' = grow (redrawn w p.d) p.os) hm ?_
  have := wpAnyH_of_wpR (md := .any) hs fs ord L (Array.replicate l.length false) a w.drew hL hB ⟨⟨w.drawn + 1, #[]⟩, by rw [grow_empty]; rfl⟩ h.out
  rw [hn] at this
  simpa using this
def permL (l : List Oper) : List Nat → List Oper
  | [] => []
  | i :: r => (l[i]?).toList ++ permL l r
theorem region_or {id : Nat} {Q : Exit → Act → World → Prop} {a : Act} {w : World} {l : List Oper} (fs : List Bool) (ord : List Nat) (hm : P.follows .mixedOrders = true) (hs : Region.noSelect l.toArray = true)
    (hn : ord.length = l.length) (hL : ord.map (fun i => l.toArray[i]?) = (permL l ord).map some) (hB : ordB .any l.toArray fs ord (Array.replicate l.length false) = true)
    (h : Rgn P l.toArray (fun w' => ∃ p : Regrown, w' = grow (redrawn w p.d) p.os) (fun a' w' => Q .normal a' w') fs (permL l ord) a w.drew) : (Code.region id l.toArray true).wp P Q a w :=
  region_in fs ord (permL l ord) hm hs hn hL hB h
theorem region_by {id : Nat} {Q : Exit → Act → World → Prop} {a : Act} {w : World} {l : List Oper} (fs : List Bool) (hm : P.follows .mixedOrders = true) (hs : Region.noSelect l.toArray = true)
    (hB : ordB .any l.toArray fs (List.range l.length) (Array.replicate l.length false) = true)
    (h : Rgn P l.toArray (fun w' => ∃ p : Regrown, w' = grow (redrawn w p.d) p.os) (fun a' w' => Q .normal a' w') fs l a w.drew) : (Code.region id l.toArray true).wp P Q a w :=
  region_in fs (List.range l.length) l hm hs (by simp) (by
    apply List.ext_getElem?
    intro i
    rw [List.getElem?_map, List.getElem?_map]
    by_cases hi : i < l.length
    · simp [hi]
    · simp [hi]) hB h
theorem wpR_nil {fs : List Bool} {Q : Act → World → Prop} {a : Act} {w : World} (h : Q a w) : Rgn P ops C Q fs [] a w := ⟨by cases fs <;> exact h⟩
theorem wpR_skip {Q : Act → World → Prop} {a : Act} {w : World} {b : Bool} {fs : List Bool} {rest : List Oper} {o : Oper} (hw : Region.wanted o (yielded ops a.tmps) = false)
    (h : Rgn P ops C Q fs rest (a.put o.dst undef) w) : Rgn P ops C Q (b :: fs) (o :: rest) a w := ⟨by
  simp only [wpR, hw, Bool.false_eq_true, if_false]; exact h.out⟩
theorem wpR_det {Q : Act → World → Prop} {a : Act} {w : World} {fs : List Bool} {rest : List Oper} {o : Oper} (hw : Region.wanted o (yielded ops a.tmps) = true)
    (h : ∀ K : Act → Prop, (∀ a, Rgn P ops C Q fs rest a w → K a) → o.quiet P a C K) : Rgn P ops C Q (false :: fs) (o :: rest) a w := ⟨by
  simp only [wpR, hw, Bool.false_eq_true, if_false, if_true]; exact h _ fun _ h => h.out⟩
theorem wpR_bar {Q : Act → World → Prop} {a : Act} {w : World} {fs : List Bool} {rest : List Oper} {o : Oper} (hw : Region.wanted o (yielded ops a.tmps) = true)
    (h : ∀ K : Act → World → Prop, (∀ a w', C w' → Rgn P ops C Q fs rest a w' → K a w') → o.wp P a w K (fun _ _ _ => False)) : Rgn P ops C Q (true :: fs) (o :: rest) a w := ⟨by
  simp only [wpR, hw, if_true]; exact h _ fun _ _ h1 h2 => ⟨h1, h2.out⟩⟩
end
theorem gen1d {w : World} {c1 : Array Value} {t1 : TypeId} {p : World → Prop}
    (h : ∀ W, Below w.heap.size w W → W.heap.size = w.heap.size + 1 → Blk W w.heap.size t1 c1 → p W) :
    p (w.alloc (.cells c1 t1)).drew :=
  h _ (((Below.refl _ _).alloc (Nat.le_refl _) _).drew) (by simp) (Blk.drew (Blk.new _ _ _))
end
end Go.Proofs.YtomllcclallcdaaGreatDoor
namespace Go.Proofs.YtomllcclallcdaaGreatDoor
section
open Go.RowKit Go.Sort
attribute [local go_sem ↓] Go.wp_at_zero Go.wp_at_succ
theorem iTime1_any (a : Int) (b : Nat) (w : World) (h : w.cell? ⟨b, 0, none⟩ = some (.int .i64 a)) (hb : b < w.heap.size) :
    Calls Tryz.prog 109 #[.slice (some ⟨b, 0, none⟩) 1 1] w fun e w' => e = .returned (.bool (timeB a)) ∧ Below w.heap.size w w' := by
  have hI : IntS w (some ⟨b, 0, none⟩) [a] := ⟨fun k hk => by
    obtain rfl : k = 0 := by simpa using hk
    exact ⟨b, 0, rfl, hb, h⟩⟩
  have := iTimeOk_any (some ⟨b, 0, none⟩) [a] 1 w hI (by simp)
  simpa using this
theorem iQuotaOk_used (p : Nat) (ca : Option Addr) (cc : Nat) (ta : Option Addr) (tc : Nat) (ga : Option Addr) (gc : Nat) (gh : Nat → GH) (M : WorldM) (w : World) (hs : PA w p ca cc ta tc ga gc gh M) (x : GroupM) (h : GH) (hl : IntS w h.la x.band.locals) (hd : BoolS w h.da x.band.dry) (hlm : x.band.locals.length ≤ 1048576) (hnow : inR M.now 0 100000000000000000 = true) (hu : x.used = true) :
    Calls Tryz.prog 115 #[.pointer (some ⟨p, 0, none⟩), .agg #[.bool true, .int .i64 x.parent, .string x.name, .int .i64 x.weight, .int .i64 x.cpus, .int .i64 x.period, .int .i64 x.next, .int .i64 x.sum, .int .i64 x.band.quota, .int .i64 x.band.pool, .int .i64 x.band.spent, .slice h.la x.band.locals.length h.lc, .slice h.da x.band.dry.length h.dc, .slice h.sa x.shelves.length h.sc]] w fun e w' => e = .returned (.bool (quotaI M x)) ∧ Below w.heap.size w w' := by
  have := iQuotaOk_any p ca cc ta tc ga gc gh M w hs x h hl hd hlm hnow
  rwa [hu] at this
theorem iGroupZero_not (x : GroupM) (h : GH) (w : World) (hu : x.used = false) :
    Calls Tryz.prog 112 #[.agg #[.bool false, .int .i64 x.parent, .string x.name, .int .i64 x.weight, .int .i64 x.cpus, .int .i64 x.period, .int .i64 x.next, .int .i64 x.sum, .int .i64 x.band.quota, .int .i64 x.band.pool, .int .i64 x.band.spent, .slice h.la x.band.locals.length h.lc, .slice h.da x.band.dry.length h.dc, .slice h.sa x.shelves.length h.sc]] w fun e w' => e = .returned (.bool (grpZ x)) ∧ Below w.heap.size w w' := by
  have := iGroupZero_any x h w hu
  rwa [hu] at this
def groupI (M : WorldM) (x : GroupM) : Bool := if x.used then inR x.weight 1 20 && (inR x.cpus 0 15 && !(x.cpus == 0)) && timeB x.sum && ((x.shelves.length : Int) == M.cpus.length) && quotaI M x else grpZ x
def groupsI (M : WorldM) : Bool := (List.range M.groups.length).all (fun k => groupI M (grp M k)) && grpR (grp M 0)
set_option maxRecDepth 100000 in
set_option maxHeartbeats 4000000 in
theorem iGroupsOk_any (p : Nat) (ca : Option Addr) (cc : Nat) (ta : Option Addr) (tc : Nat) (ga : Option Addr) (gc : Nat) (gh : Nat → GH) (M : WorldM) (w : World) (hs : PA w p ca cc ta tc ga gc gh M) (hF : FitG M) (h0 : 0 < M.groups.length) (hnow : inR M.now 0 100000000000000000 = true) :
    Calls Tryz.prog 76 #[.pointer (some ⟨p, 0, none⟩)] w fun e w' => e = .returned (.bool (groupsI M)) ∧ Below w.heap.size w w' := by
  have hgm := hF.group
  have HF := Lib.hid hF
  clear hF
  have pw := hs
  obtain ⟨q0, q1, q2, q3, q4, q5⟩ := hs
  go_enter Tryz.func76, Tryz.ntmps76
  go_wp2
  clear q0 q1 q2 q3 q4 q5
  go_loopw [4, 11] (fun _ i wr => ∃ k : Nat, k ≤ M.groups.length ∧ i = .int .i64 k ∧ (List.range k).all (fun k => groupI M (grp M k)) = true ∧ Below w.heap.size w wr) (fun _ i _ => M.groups.length - (intOf i).toNat)
  case atStart => exact ⟨0, by omega, rfl, rfl, Below.refl _ _⟩
  case round =>
    obtain ⟨k, hk, rfl, hall, hb⟩ := hrel
    have HA := Lib.hid hall
    clear hall
    have pw2 := pw.keep hb
    by_cases hlt : k < M.groups.length
    · have q5 := pw2.wa
      obtain ⟨b, o, rfl, hB, c0, c1, c2, c3, c4, c5, c6, c7, c8, c9, c10, c11, c12, c13⟩ := q5.group_ hlt
      have hil := q5.group.loc k hlt
      have hid := q5.group.dry k hlt
      rw [grp_eq hlt] at hil hid
      have fl := HF.out.loc k hlt
      have fs := HF.out.she k hlt
      have fc := HF.out.cpu
      obtain ⟨x, hX⟩ : ∃ x, grp M k = x := ⟨_, rfl⟩
      rw [hX] at c0 c1 c2 c3 c4 c5 c6 c7 c8 c9 c10 c11 c12 c13 hil hid fl fs
      have HX := Lib.hid hX
      clear hX
      by_cases hu : x.used = true
      · have GN := Lib.hid (show groupI M (grp M k) = (inR x.weight 1 20 && (inR x.cpus 0 15 && !(x.cpus == 0)) && timeB x.sum && ((x.shelves.length : Int) == M.cpus.length) && quotaI M x) by rw [HX.out, groupI, if_pos hu])
        rw [hu] at c0
        have HU := Lib.hid hu
        clear hu
        go_upto_region 4 with (fail)
        refine gen1 (p := fun W => Code.wp _ _ _ _ W) ?_
        intro W b2 s2 kx
        have b3 := hb.andThen b2
        have x0 := kx.cell 0
        have x1 := kx.cell 1
        have x2 := kx.cell 2
        have x3 := kx.cell 3
        have x4 := kx.cell 4
        have x5 := kx.cell 5
        have x6 := kx.cell 6
        have x7 := kx.cell 7
        have x8 := kx.cell 8
        have x9 := kx.cell 9
        have x10 := kx.cell 10
        have x11 := kx.cell 11
        have x12 := kx.cell 12
        have x13 := kx.cell 13
        simp at x0 x1 x2 x3 x4 x5 x6 x7 x8 x9 x10 x11 x12 x13
        have hxs := kx.lt
        have HIL := Lib.hid (hil.keep b2)
        have HID := Lib.hid (hid.keep b2)
        have pw3 := pw2.keep b2
        obtain ⟨q0, q1, q2, q3, q4, q5⟩ := pw3
        have PW3 := Lib.hid (pw2.keep b2)
        clear s2 kx c0 c1 c2 c3 c4 c5 c6 c7 c8 c9 c10 c11 c12 c13 hil hid q1 q3 q4 q5
        go_upto_region 7 with (fail)
        have Z3 := fun d os => cell_regrown x3 d os
        have Z4 := fun d os => cell_regrown x4 d os
        have Z7 := fun d os => cell_regrown x7 d os
        have Z13 := fun d os => cell_regrown x13 d os
        have Q2 := fun d os => cell_regrown q2 d os
        have X0 := fun d os => cell_regrown x0 d os
        have X1 := fun d os => cell_regrown x1 d os
        have X2 := fun d os => cell_regrown x2 d os
        have X5 := fun d os => cell_regrown x5 d os
        have X6 := fun d os => cell_regrown x6 d os
        have X8 := fun d os => cell_regrown x8 d os
        have X9 := fun d os => cell_regrown x9 d os
        have X10 := fun d os => cell_regrown x10 d os
        have X11 := fun d os => cell_regrown x11 d os
        have X12 := fun d os => cell_regrown x12 d os
        have bd : Below W.heap.size W W.drew := ⟨rfl, rfl, rfl, Nat.le_refl _, fun _ _ => rfl⟩
        have hI1 : (W.drew.alloc (.cells #[.int .i64 x.sum] 3)).cell? ⟨W.heap.size, 0, none⟩ = some (.int .i64 x.sum) := by
          have : (W.alloc (.cells #[.int .i64 x.sum] 3)).cell? ⟨W.heap.size, 0, none⟩ = some (.int .i64 x.sum) := by simp [World.cell?_alloc_at]
          exact this
        clear x0 x1 x2 x3 x4 x5 x6 x7 x8 x9 x10 x11 x12 x13
        refine region_by [false, false, true, false, false, false, false, true, false, false, false, false, false, true, true, false, false, false, false, false, false, false, false, false, false, false, false, false, false, false, false, true, false, false] (by kernel_rfl) (by kernel_rfl) (by kernel_rfl) ?_
        repeat (first | (refine wpR_skip (by rfl) ?_; simp only [Act.put, List.setIfInBounds_toArray, List.set_cons_zero, List.set_cons_succ]) | (refine wpR_det (by rfl) (fun K hK => ?_); go_big_quiet_op; refine hK _ ?_; clear hK K))
        refine wpR_bar (by rfl) (fun K hK => ?_)
        go_big_op
        go_at_call 113
        refine (iWeightOk_any _ _).mono ?_
        rintro e w' ⟨rfl, rfl⟩
        refine hK _ _ (regrown_of_below bd) ?_
        clear hK K
        cases f1 : inR x.weight 1 20 with
        | false =>
          have F1 := Lib.hid f1
          clear f1
          repeat (first | (refine wpR_skip (by rfl) ?_; simp only [Act.put, List.setIfInBounds_toArray, List.set_cons_zero, List.set_cons_succ]) | (refine wpR_det (by rfl) (fun K hK => ?_); go_big_quiet_op; refine hK _ ?_; clear hK K))
          refine wpR_nil ?_
          go_wp2
          go_ret
          exact ⟨ret_bool (by rw [groupsI, all_of hlt (by rw [GN.out, F1.out]; simp)]; rfl), b3.andThen bd⟩
        | true =>
          have F1 := Lib.hid f1
          clear f1
          repeat (first | (refine wpR_skip (by rfl) ?_; simp only [Act.put, List.setIfInBounds_toArray, List.set_cons_zero, List.set_cons_succ]) | (refine wpR_det (by rfl) (fun K hK => ?_); go_big_quiet_op; refine hK _ ?_; clear hK K))
          refine wpR_bar (by rfl) (fun K hK => ?_)
          go_big_op
          go_at_call 114
          refine (iMaskFull_any _ _).mono ?_
          rintro e w' ⟨rfl, rfl⟩
          refine hK _ _ (regrown_of_below bd) ?_
          clear hK K
          cases f2 : (inR x.cpus 0 15 && !(x.cpus == 0)) with
          | false =>
            have F2 := Lib.hid f2
            clear f2
            repeat (first | (refine wpR_skip (by rfl) ?_; simp only [Act.put, List.setIfInBounds_toArray, List.set_cons_zero, List.set_cons_succ]) | (refine wpR_det (by rfl) (fun K hK => ?_); go_big_quiet_op; refine hK _ ?_; clear hK K))
            refine wpR_nil ?_
            go_wp2
            go_ret
            exact ⟨ret_bool (by rw [groupsI, all_of hlt (by rw [GN.out, F1.out, F2.out]; simp)]; rfl), b3.andThen bd⟩
          | true =>
            have F2 := Lib.hid f2
            clear f2
            repeat (first | (refine wpR_skip (by rfl) ?_; simp only [Act.put, List.setIfInBounds_toArray, List.set_cons_zero, List.set_cons_succ]) | (refine wpR_det (by rfl) (fun K hK => ?_); go_big_quiet_op; refine hK _ ?_; clear hK K))
            refine wpR_bar (by rfl) (fun K hK => ?_)
            go_big_op
            refine hK _ _ (regrown_of_below (bd.andThen ((Below.refl _ _).alloc (Nat.le_refl _) _))) ?_
            clear hK K
            repeat (first | (refine wpR_skip (by rfl) ?_; simp only [Act.put, List.setIfInBounds_toArray, List.set_cons_zero, List.set_cons_succ]) | (refine wpR_det (by rfl) (fun K hK => ?_); go_big_quiet_op; refine hK _ ?_; clear hK K))
            refine wpR_bar (by rfl) (fun K hK => ?_)
            go_big_op
            go_at_call 109
            refine (iTime1_any x.sum W.heap.size _ hI1 (by simp)).mono ?_
            rintro e w3 ⟨rfl, hb3⟩
            refine hK _ _ (regrown_of_below (bd.andThen (((Below.refl _ _).alloc (Nat.le_refl _) _).andThen hb3))) ?_
            clear hK K
            cases f3 : timeB x.sum with
            | false =>
              have F3 := Lib.hid f3
              clear f3
              repeat (first | (refine wpR_skip (by rfl) ?_; simp only [Act.put, List.setIfInBounds_toArray, List.set_cons_zero, List.set_cons_succ]) | (refine wpR_det (by rfl) (fun K hK => ?_); go_big_quiet_op; refine hK _ ?_; clear hK K))
              refine wpR_nil ?_
              go_wp2
              go_ret
              exact ⟨ret_bool (by rw [groupsI, all_of hlt (by rw [GN.out, F1.out, F2.out, F3.out]; simp)]; rfl), b3.andThen (bd.andThen (((Below.refl _ _).alloc (Nat.le_refl _) _).andThen hb3))⟩
            | true =>
              have F3 := Lib.hid f3
              clear f3
              by_cases f4 : ((x.shelves.length : Int) == M.cpus.length) = true
              · have F4 := Lib.hid f4
                have f4' : ((x.shelves.length : Int) != (M.cpus.length : Int)) = false := by rw [bne, f4]; rfl
                clear f4
                repeat (first | (refine wpR_skip (by rfl) ?_; simp only [Act.put, List.setIfInBounds_toArray, List.set_cons_zero, List.set_cons_succ]) | (refine wpR_det (by rfl) (fun K hK => ?_); go_big_quiet_op; refine hK _ ?_; clear hK K))
                refine wpR_bar (by rfl) (fun K hK => ?_)
                go_big_op
                go_at_call 115
                refine (iQuotaOk_used p ca cc ta tc _ gc gh M _ (PW3.out.keep (bd.andThen (((Below.refl _ _).alloc (Nat.le_refl _) _).andThen hb3))) x (gh k) (HIL.out.keep (bd.andThen (((Below.refl _ _).alloc (Nat.le_refl _) _).andThen hb3))) (HID.out.keep (bd.andThen (((Below.refl _ _).alloc (Nat.le_refl _) _).andThen hb3))) fl hnow HU.out).mono ?_
                rintro e w4 ⟨rfl, hb4⟩
                refine hK _ _ (regrown_of_below ((bd.andThen (((Below.refl _ _).alloc (Nat.le_refl _) _).andThen hb3)).andThen hb4)) ?_
                clear hK K
                cases f5 : quotaI M x with
                | false =>
                  have F5 := Lib.hid f5
                  clear f5
                  repeat (first | (refine wpR_skip (by rfl) ?_; simp only [Act.put, List.setIfInBounds_toArray, List.set_cons_zero, List.set_cons_succ]) | (refine wpR_det (by rfl) (fun K hK => ?_); go_big_quiet_op; refine hK _ ?_; clear hK K))
                  refine wpR_nil ?_
                  go_wp2
                  go_ret
                  exact ⟨ret_bool (by rw [groupsI, all_of hlt (by rw [GN.out, F1.out, F2.out, F3.out, F4.out, F5.out]; simp)]; rfl), b3.andThen ((bd.andThen (((Below.refl _ _).alloc (Nat.le_refl _) _).andThen hb3)).andThen hb4)⟩
                | true =>
                  have F5 := Lib.hid f5
                  clear f5
                  repeat (first | (refine wpR_skip (by rfl) ?_; simp only [Act.put, List.setIfInBounds_toArray, List.set_cons_zero, List.set_cons_succ]) | (refine wpR_det (by rfl) (fun K hK => ?_); go_big_quiet_op; refine hK _ ?_; clear hK K))
                  refine wpR_nil ?_
                  go_wp2
                  go_roundw
                  case rel => exact ⟨k + 1, by omega, by go_num, by rw [all_succ, HA.out, GN.out, F1.out, F2.out, F3.out, F4.out, F5.out]; rfl, b3.andThen ((bd.andThen (((Below.refl _ _).alloc (Nat.le_refl _) _).andThen hb3)).andThen hb4)⟩
                  case measure => simp [intOf]; omega
              · have F4 := Lib.hid (show ((x.shelves.length : Int) == M.cpus.length) = false by simpa only [Bool.not_eq_true] using f4)
                have f4' : ((x.shelves.length : Int) != (M.cpus.length : Int)) = true := by rw [bne, F4.out]; rfl
                clear f4
                repeat (first | (refine wpR_skip (by rfl) ?_; simp only [Act.put, List.setIfInBounds_toArray, List.set_cons_zero, List.set_cons_succ]) | (refine wpR_det (by rfl) (fun K hK => ?_); go_big_quiet_op; refine hK _ ?_; clear hK K))
                refine wpR_nil ?_
                go_wp2
                go_ret
                exact ⟨ret_bool (by rw [groupsI, all_of hlt (by rw [GN.out, F1.out, F2.out, F3.out, F4.out]; simp)]; rfl), b3.andThen (bd.andThen (((Below.refl _ _).alloc (Nat.le_refl _) _).andThen hb3))⟩
      · have GN := Lib.hid (show groupI M (grp M k) = grpZ x by rw [HX.out, groupI, if_neg hu])
        have hu' : x.used = false := by simpa using hu
        have HU := Lib.hid hu'
        rw [hu'] at c0
        clear hu hu'
        by_cases hz : grpZ x = true
        · have HZ := Lib.hid hz
          clear hz
          go_wp2_with (go_at_call 112; refine (iGroupZero_not x (gh k) _ HU.out).mono ?_; rintro e w3 ⟨rfl, hb3⟩; rw [HZ.out])
          go_roundw
          case rel => exact ⟨k + 1, by omega, by go_num, by rw [all_succ, HA.out, GN.out, HZ.out]; rfl, (hb.alloc hb.size _).andThen hb3⟩
          case measure => simp [intOf]; omega
        · have HZ := Lib.hid (show grpZ x = false by simpa using hz)
          clear hz
          go_wp2_with (go_at_call 112; refine (iGroupZero_not x (gh k) _ HU.out).mono ?_; rintro e w3 ⟨rfl, hb3⟩; rw [HZ.out])
          go_ret
          exact ⟨ret_bool (by rw [groupsI, all_of hlt (by rw [GN.out, HZ.out])]; rfl), (hb.alloc hb.size _).andThen hb3⟩
    · have hkl : k = M.groups.length := by omega
      have HGA := Lib.hid (show (List.range M.groups.length).all (fun k => groupI M (grp M k)) = true by rw [← hkl]; exact HA.out)
      have q5 := pw2.wa
      obtain ⟨q0, q1, q2, q3, q4, _⟩ := pw2
      obtain ⟨b, o, rfl, hB, c0, c1, c2, c3, c4, c5, c6, c7, c8, c9, c10, c11, c12, c13⟩ := q5.group_ h0
      have GR := Lib.hid (show grpR (grp M 0) = (((grp M 0).weight == 10) && ((grp M 0).cpus == 15) && ((grp M 0).band.quota == 0)) from rfl)
      obtain ⟨x, hX⟩ : ∃ x, grp M 0 = x := ⟨_, rfl⟩
      have HX := Lib.hid hX
      rw [hX] at c0 c1 c2 c3 c4 c5 c6 c7 c8 c9 c10 c11 c12 c13
      simp only [Nat.zero_mul, Nat.add_zero] at c0 c1 c2 c3 c4 c5 c6 c7 c8 c9 c10 c11 c12 c13
      clear hX q1 q2 q3 hkl q5
      go_upto_region 11 with (fail)
      refine gen1 (p := fun W => Code.wp _ _ _ _ W) ?_
      intro W b2 s2 kx
      have x3 := kx.cell 3
      have x4 := kx.cell 4
      have x8 := kx.cell 8
      simp at x3 x4 x8
      clear kx c0 c1 c2 c3 c4 c5 c6 c7 c8 c9 c10 c11 c12 c13
      go_wp2
      all_goals go_ret
      all_goals exact ⟨ret_bool (by rw [groupsI, HGA.out, GR.out, HX.out]; simp [*]), hb.andThen b2⟩
end
end Go.Proofs.YtomllcclallcdaaGreatDoor
