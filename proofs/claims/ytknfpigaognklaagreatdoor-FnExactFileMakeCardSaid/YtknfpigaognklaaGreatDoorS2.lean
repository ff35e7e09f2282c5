/- The reference's walks over worlds: who is online, pins, active, dry, in line. -/
import Derived.Test.YtknfpigaognklaaGreatDoorMw
import Derived.Test.YtknfpigaognklaaGreatDoorS1
namespace Go.Proofs.YtknfpigaognklaaGreatDoor
open Go.RowKit
set_option maxHeartbeats 1000000 in
theorem sl8Ups_any (ca : Option Addr) (cc : Nat) (ta : Option Addr) (tc : Nat) (ga : Option Addr) (gc : Nat) (gh : Nat → GH) (M : WorldM) (w : World) (hs : WA w ca ta ga gh M) (hc : M.cpus.length ≤ 4) :
    Calls Tryz.prog 66 #[.agg #[.int .i64 M.now, .slice ca M.cpus.length cc, .slice ta M.tasks.length tc, .slice ga M.groups.length gc]] w fun e w' => e = .returned (.int .i64 (ups M)) ∧ Below w.heap.size w w' := by
  go_enter Tryz.func66, Tryz.ntmps66
  go_wp2
  refine PA.gen (P := fun W => Code.wp _ _ _ _ W) hs ?_
  intro W b1 s1 pw
  obtain ⟨q0, q1, q2, q3, q4, q5⟩ := pw
  go_loop [3, 4] (fun m i => ∃ k : Nat, k ≤ M.cpus.length ∧ i = .int .i64 k ∧ m = .int .i64 (upsTo M k)) (fun _ i => M.cpus.length - (intOf i).toNat)
  case atStart => exact ⟨0, by omega, rfl, rfl⟩
  case round =>
    obtain ⟨k, hk, rfl, rfl⟩ := hrel
    by_cases hlt : k < M.cpus.length
    · obtain ⟨b, o, rfl, hB, c0, c1, c2, c3, c4⟩ := q5.cpu_ hlt
      have hp := pow_bd (show k < 4 by omega)
      have hu := upsTo_bd M k (by omega)
      go_wp2
      · have hup : (cpo M k).up = true := by assumption
        go_round
        case rel => exact ⟨k + 1, by omega, by go_num, val_eq (by simp [upsTo, hup])⟩
        case measure => simp [intOf]; omega
      · have hup : (cpo M k).up = false := by assumption
        go_round
        case rel => exact ⟨k + 1, by omega, by go_num, val_eq (by simp [upsTo, hup])⟩
        case measure => simp [intOf]; omega
    · go_wp2
      go_ret
      exact ⟨ret_int (by rw [show k = M.cpus.length by omega]; rfl), b1⟩
set_option maxHeartbeats 1000000 in
theorem sl8Pins_any (ca : Option Addr) (cc : Nat) (ta : Option Addr) (tc : Nat) (ga : Option Addr) (gc : Nat) (gh : Nat → GH) (M : WorldM) (w : World) (hs : WA w ca ta ga gh M) (hT : Tree M) (g : Nat) (hg : g < 8) (hu : (grp M g).used = true) :
    Calls Tryz.prog 172 #[.agg #[.int .i64 M.now, .slice ca M.cpus.length cc, .slice ta M.tasks.length tc, .slice ga M.groups.length gc], .int .i64 g] w fun e w' => e = .returned (.int .i64 (pins M g)) ∧ Below w.heap.size w w' := by
  have hlen := hT.len
  obtain ⟨b, o, rfl, hB, c0, c1, c2, c3, c4, c5, c6, c7, c8, c9, c10, c11, c12, c13⟩ := hs.group_ (show g < M.groups.length by omega)
  have HL := Lib.hid hlen
  have hge : 8 ≤ M.groups.length := by omega
  clear hlen
  go_enter Tryz.func172, Tryz.ntmps172
  go_wp2
  refine PA.gen (P := fun W => Code.wp _ _ _ _ W) hs ?_
  intro W b1 s1 pw
  obtain ⟨q0, q1, q2, q3, q4, q5⟩ := pw
  clear c0 c1 c2 c3 c4 c5 c6 c7 c8 c9 c10 c11 c12 c13
  go_loop [1, 5] (fun i m => ∃ (k : Nat) (m' : Int), k < 8 ∧ (grp M k).used = true ∧ i = .int .i64 k ∧ m = .int .i64 m' ∧ pinsL M m' (ch M k).tail = pins M g) (fun i _ => dp M (intOf i).toNat)
  case atStart => exact ⟨g, _, hg, hu, rfl, rfl, rfl⟩
  case round =>
    obtain ⟨k, m', hk, huk, rfl, rfl, hpin⟩ := hrel
    have HP := Lib.hid hpin
    have HU := Lib.hid huk
    clear hpin huk
    by_cases h0 : k = 0
    · subst h0
      go_wp2
      go_ret
      refine ⟨ret_int ?_, b1⟩
      rw [← HP.out, ch_zero]; rfl
    · have hup := hT.up k hk HU.out h0
      obtain ⟨hp1, hp2, hp3, hp4⟩ := hup
      have hst := Lib.hid (hT.ch_step hk HU.out h0)
      have HP1 := Lib.hid hp1
      have HP3 := Lib.hid hp3
      have HP4 := Lib.hid hp4
      obtain ⟨b2, o2, e2, hB2, d0, d1, d2⟩ := q5.group_ (show k < M.groups.length by omega)
      rw [hp1] at d1
      clear hp1 hp3 hp4 d2
      obtain ⟨b3, o3, e3, hB3, f0, f1, f2, f3, f4, f5⟩ := q5.group_ (show par M k < M.groups.length by omega)
      have e4 : b2 = b ∧ o2 = o := by simpa [eq_comm] using e2
      have e5 : b3 = b ∧ o3 = o := by simpa [eq_comm] using e3
      obtain ⟨rfl, rfl⟩ := e4
      obtain ⟨rfl, rfl⟩ := e5
      clear e2 e3 f5
      have hne : ((k : Int) == 0) = false := by simpa using h0
      have hne2 : ((k : Int) != 0) = true := by simpa using h0
      go_wp2_with (go_at_call 171; refine (sMaskAnd_any _ _ _).mono ?_; rintro e w' ⟨rfl, rfl⟩)
      go_round
      case rel => exact ⟨par M k, _, hp2, HP3.out, rfl, rfl, by rw [← HP.out, hst.out, List.tail_cons, ch_cons M (par M k)]; rfl⟩
      case measure => simp [intOf]; have := HP4.out; omega
set_option maxHeartbeats 1000000 in
theorem sl8Where_any (ca : Option Addr) (cc : Nat) (ta : Option Addr) (tc : Nat) (ga : Option Addr) (gc : Nat) (gh : Nat → GH) (M : WorldM) (w : World) (hs : WA w ca ta ga gh M) (hT : Tree M) (hc : M.cpus.length ≤ 4) (g : Nat) (hg : g < 8) (hu : (grp M g).used = true) (mask : Int) :
    Calls Tryz.prog 130 #[.agg #[.int .i64 M.now, .slice ca M.cpus.length cc, .slice ta M.tasks.length tc, .slice ga M.groups.length gc], .int .i64 g, .int .i64 mask] w fun e w' => e = .returned (.int .i64 (whereM M g mask)) ∧ Below w.heap.size w w' := by
  go_enter Tryz.func130, Tryz.ntmps130
  go_wp2_with fail
  refine PA.gen (P := fun W => Calls _ _ _ W _) hs ?_
  intro W b1 s1 pw
  refine (sl8Ups_any ca cc ta tc ga gc gh M _ pw.wa hc).mono ?_
  rintro e w1 ⟨rfl, hb1⟩
  have b2 := b1.andThen hb1
  have pw1 := pw.keep hb1
  obtain ⟨q0, q1, q2, q3, q4, q5⟩ := pw1
  go_wp2_with fail
  refine (sl8Pins_any ca cc ta tc ga gc gh M _ q5 hT g hg hu).mono ?_
  rintro e w2 ⟨rfl, hb2⟩
  have b3 := b2.andThen hb2
  go_wp2_with fail
  refine (sMaskAnd_any _ _ _).mono ?_
  rintro e w3 ⟨rfl, rfl⟩
  go_wp2_with fail
  refine (sMaskAnd_any _ _ _).mono ?_
  rintro e w3 ⟨rfl, rfl⟩
  by_cases h1 : mand mask (mand (pins M g) (ups M)) = 0
  · by_cases h2 : mand (pins M g) (ups M) = 0
    · have EN := Lib.hid (show whereM M g mask = ups M by rw [whereM, if_neg (by simp [h1]), if_neg (by simp [h2])])
      have h1' : (mand mask (mand (pins M g) (ups M)) != 0) = false := by simp [h1]
      have h2' : (mand (pins M g) (ups M) != 0) = false := by simp [h2]
      clear h1 h2
      go_wp2
      go_ret
      exact ⟨ret_int EN.out.symm, b3⟩
    · have EN := Lib.hid (show whereM M g mask = mand (pins M g) (ups M) by rw [whereM, if_neg (by simp [h1]), if_pos h2])
      have h1' : (mand mask (mand (pins M g) (ups M)) != 0) = false := by simp [h1]
      have h2' : (mand (pins M g) (ups M) != 0) = true := by simp [h2]
      clear h1 h2
      go_wp2
      go_ret
      exact ⟨ret_int EN.out.symm, b3⟩
  · have EN := Lib.hid (show whereM M g mask = mand mask (mand (pins M g) (ups M)) by rw [whereM, if_pos h1])
    have h1' : (mand mask (mand (pins M g) (ups M)) != 0) = true := by simp [h1]
    clear h1
    go_wp2
    go_ret
    exact ⟨ret_int EN.out.symm, b3⟩
set_option maxHeartbeats 1000000 in
theorem sl8Queued_any (ca : Option Addr) (cc : Nat) (ta : Option Addr) (tc : Nat) (ga : Option Addr) (gc : Nat) (gh : Nat → GH) (M : WorldM) (w : World) (hs : WA w ca ta ga gh M) (g c : Nat) (hg : g < M.groups.length) (hc : c < (grp M g).shelves.length) :
    Calls Tryz.prog 159 #[.agg #[.int .i64 M.now, .slice ca M.cpus.length cc, .slice ta M.tasks.length tc, .slice ga M.groups.length gc], .int .i64 g, .int .i64 c] w fun e w' => e = .returned (.bool (she M g c).on) ∧ Below w.heap.size w w' := by
  obtain ⟨b, o, rfl, hB, c0, c1, c2, c3, c4, c5, c6, c7, c8, c9, c10, c11, c12, c13⟩ := hs.group_ hg
  obtain ⟨b2, o2, e2, hB2, d0, d1, d2⟩ := hs.shelf_ hg hc
  rw [e2] at c13
  clear e2 c0 c1 c2 c3 c4 c5 c6 c7 c8 c9 c10 c11 c12 d0 d2
  go_enter Tryz.func159, Tryz.ntmps159
  go_wp2
  go_ret
  exact ⟨rfl, (Below.refl _ _).alloc (Nat.le_refl _) _⟩
set_option maxRecDepth 100000 in
set_option maxHeartbeats 1000000 in
theorem sl8Active_any (ca : Option Addr) (cc : Nat) (ta : Option Addr) (tc : Nat) (ga : Option Addr) (gc : Nat) (gh : Nat → GH) (M : WorldM) (w : World) (hs : WA w ca ta ga gh M) (hT : Tree M) (hG : GOk M) (ht : M.tasks.length ≤ 1048576) (g : Int) (c : Nat) (hc : c < M.cpus.length) :
    Calls Tryz.prog 132 #[.agg #[.int .i64 M.now, .slice ca M.cpus.length cc, .slice ta M.tasks.length tc, .slice ga M.groups.length gc], .int .i64 g, .int .i64 c] w fun e w' => e = .returned (.bool (act M g c)) ∧ Below w.heap.size w w' := by
  have HL := Lib.hid hT.len
  go_enter Tryz.func132, Tryz.ntmps132
  go_wp2
  refine PA.gen (P := fun W => Code.wp _ _ _ _ W) hs ?_
  intro W b1 s1 pw
  go_loop [6, 7] (fun r i => ∃ k : Nat, k ≤ M.tasks.length ∧ i = .int .i64 k ∧ r = .bool false ∧ (List.range k).any (fun t => tq M t g c) = false) (fun _ i => M.tasks.length - (intOf i).toNat)
  case atStart => exact ⟨0, by omega, rfl, rfl, rfl⟩
  case round =>
    obtain ⟨k, hk, rfl, rfl, hany⟩ := hrel
    have HA := Lib.hid hany
    clear hany
    obtain ⟨q0, q1, q2, q3, q4, q5⟩ := pw
    by_cases hlt : k < M.tasks.length
    · obtain ⟨b, o, rfl, hB, c0, c1, c2, c3⟩ := q5.task_ hlt
      clear c3
      go_wp2
      · have hq : tq M k g c = true := by simp [tq, *]
        go_ret
        exact ⟨ret_bool (by rw [act, any_of hlt hq]; rfl), b1⟩
      all_goals
        have hq : tq M k g c = false := by simp [tq, *]
        go_round
        case rel => exact ⟨k + 1, by omega, by go_num, rfl, by rw [any_succ, HA.out, hq]; rfl⟩
        case measure => simp [intOf]; omega
    · have HT := Lib.hid (show (List.range M.tasks.length).any (fun t => tq M t g c) = false by rw [← show k = M.tasks.length by omega]; exact HA.out)
      clear HA
      go_wp2
      go_loopw [6, 8] (fun r i wr => ∃ k : Nat, 1 ≤ k ∧ k ≤ 8 ∧ i = .int .i64 k ∧ r = .bool false ∧ (List.range k).any (fun h => gq M h g c) = false ∧ Below W.heap.size W wr) (fun _ i _ => 8 - (intOf i).toNat)
      case atStart => exact ⟨1, by omega, by omega, rfl, rfl, by simp [gq], Below.refl _ _⟩
      case round =>
        obtain ⟨k2, hk1, hk2, rfl, rfl, hany, hb⟩ := hrel
        have HA := Lib.hid hany
        clear hany
        obtain ⟨p0, p1, p2, p3, p4, p5⟩ := PA.keep ⟨q0, q1, q2, q3, q4, q5⟩ hb
        by_cases hlt2 : k2 < 8
        · have hlg : k2 < M.groups.length := by have := HL.out; omega
          obtain ⟨b, o, rfl, hB, c0, c1, c2⟩ := p5.group_ hlg
          clear c2
          by_cases hu : (grp M k2).used = true
          · have hcs : c < (grp M k2).shelves.length := by rw [hG.she k2 hlt2 hu]; exact hc
            by_cases hpar : (grp M k2).parent = g
            · have hpar' : ((grp M k2).parent == g) = true := by simpa using hpar
              have HPar := Lib.hid hpar
              clear hpar
              go_wp2_with (go_at_call 159; refine (sl8Queued_any ca cc ta tc _ gc gh M _ p5 k2 c hlg hcs).mono ?_; rintro e w' ⟨rfl, hb2⟩)
              · have hon : (she M k2 c).on = true := by assumption
                have hq : gq M k2 g c = true := by simp [gq, *]; omega
                go_ret
                exact ⟨ret_bool (by rw [act, any_of hlg hq]; simp), b1.andThen (hb.andThen hb2)⟩
              · have hon : (she M k2 c).on = false := by assumption
                have hq : gq M k2 g c = false := by simp [gq, *]
                go_roundw
                case rel => exact ⟨k2 + 1, by omega, by omega, by go_num, rfl, by rw [any_succ, HA.out, hq]; rfl, hb.andThen hb2⟩
                case measure => simp [intOf]; omega
            · have hpar' : ((grp M k2).parent == g) = false := by simpa using hpar
              have hq : gq M k2 g c = false := by simp [gq, *]
              go_wp2
              go_roundw
              case rel => exact ⟨k2 + 1, by omega, by omega, by go_num, rfl, by rw [any_succ, HA.out, hq]; rfl, hb⟩
              case measure => simp [intOf]; omega
          · have hu' : (grp M k2).used = false := by simpa using hu
            have hq : gq M k2 g c = false := by simp [gq, *]
            go_wp2
            go_roundw
            case rel => exact ⟨k2 + 1, by omega, by omega, by go_num, rfl, by rw [any_succ, HA.out, hq]; rfl, hb⟩
            case measure => simp [intOf]; omega
        · have h8 : M.groups.length ≤ k2 := by have := HL.out; omega
          go_wp2
          go_ret
          exact ⟨ret_bool (by rw [act, HT.out, show M.groups.length = k2 by have := HL.out; omega, HA.out]; rfl), b1.andThen hb⟩
set_option maxHeartbeats 1000000 in
theorem sl8Dry_any (ca : Option Addr) (cc : Nat) (ta : Option Addr) (tc : Nat) (ga : Option Addr) (gc : Nat) (gh : Nat → GH) (M : WorldM) (w : World) (hs : WA w ca ta ga gh M) (g c : Nat) (hg : g < M.groups.length) (hc : 0 < (grp M g).band.quota → c < (grp M g).band.dry.length) :
    Calls Tryz.prog 133 #[.agg #[.int .i64 M.now, .slice ca M.cpus.length cc, .slice ta M.tasks.length tc, .slice ga M.groups.length gc], .int .i64 g, .int .i64 c] w fun e w' => e = .returned (.bool (dryM M g c)) ∧ Below w.heap.size w w' := by
  obtain ⟨b, o, rfl, hB, c0, c1, c2, c3, c4, c5, c6, c7, c8, c9, c10, c11, c12, c13⟩ := hs.group_ hg
  by_cases hq : 0 < (grp M g).band.quota
  · obtain ⟨b2, o2, e2, hB2, d0⟩ := hs.dry_ hg (hc hq)
    have hcd := hc hq
    rw [e2] at c12
    have DN := Lib.hid (show dryM M g c = (grp M g).band.dry.getD c false by rw [dryM, decide_eq_true hq]; rfl)
    clear e2 c0 c1 c2 c3 c4 c5 c6 c7 c13
    go_enter Tryz.func133, Tryz.ntmps133
    go_wp2
    go_ret
    exact ⟨ret_bool (by rw [DN.out]; simp [hcd]), ((Below.refl _ _).alloc (Nat.le_refl _) _).alloc (by simp) _⟩
  · have DN := Lib.hid (show dryM M g c = false by rw [dryM, decide_eq_false hq]; rfl)
    clear c0 c1 c2 c3 c4 c5 c6 c7 c13
    go_enter Tryz.func133, Tryz.ntmps133
    go_wp2
    go_ret
    exact ⟨ret_bool DN.out.symm, ((Below.refl _ _).alloc (Nat.le_refl _) _).alloc (by simp) _⟩
set_option maxHeartbeats 400000 in
theorem sl8Stand_any (v f n : Int) (w : World) :
    Calls Tryz.prog 131 #[.int .i64 v, .int .i64 f, .int .i64 n] w fun e w' => e = .returned (.bool (standW v f n)) ∧ w = w' := by
  by_cases h : f ≤ v
  · have SN := Lib.hid (show standW v f n = decide (wrap64 (v - f) ≤ lagM n) by rw [standW, decide_eq_true h]; rfl)
    go_enter Tryz.func131, Tryz.ntmps131
    go_wp2_with (go_at_call 173; refine (sLagMost_any _ _).mono ?_; rintro e w' ⟨rfl, rfl⟩)
    go_ret
    exact ⟨ret_bool SN.out.symm, rfl⟩
  · have SN := Lib.hid (show standW v f n = false by rw [standW, decide_eq_false h]; rfl)
    go_enter Tryz.func131, Tryz.ntmps131
    go_wp2
    go_ret
    exact ⟨ret_bool SN.out.symm, rfl⟩
set_option maxHeartbeats 1000000 in
theorem sl8InLine_any (ca : Option Addr) (cc : Nat) (ta : Option Addr) (tc : Nat) (ga : Option Addr) (gc : Nat) (gh : Nat → GH) (M : WorldM) (w : World) (hs : WA w ca ta ga gh M) (hT : Tree M) (hG : GOk M) (t g c : Nat) (ht : t < M.tasks.length)
    (hr : (tsk M t).st = 1 → (tsk M t).gr = g ∧ g < 8 ∧ (grp M g).used = true ∧ (tsk M t).cpu = c ∧ c < M.cpus.length) :
    Calls Tryz.prog 84 #[.agg #[.int .i64 M.now, .slice ca M.cpus.length cc, .slice ta M.tasks.length tc, .slice ga M.groups.length gc], .int .i64 t] w fun e w' => e = .returned (.bool (lineM M t)) ∧ Below w.heap.size w w' := by
  by_cases hst : (tsk M t).st = 1
  · obtain ⟨hgr, hg, hu, hcp, hc⟩ := hr hst
    have LN := Lib.hid (show lineM M t = onL M c (ch M g) by rw [lineM, hst, hgr, hcp]; rfl)
    have HL := Lib.hid hT.len
    obtain ⟨b, o, rfl, hB, c0, c1, c2, c3, c4, c5, c6, c7, c8⟩ := hs.task_ ht
    rw [hst] at c0
    rw [hgr] at c1
    rw [hcp] at c2
    clear hgr hcp hst hr
    go_enter Tryz.func84, Tryz.ntmps84
    go_wp2
    refine PA.gen (P := fun W => Code.wp _ _ _ _ (W.alloc _)) hs ?_
    intro W0 b1 s1 pw0
    refine gen1 (p := fun W => Code.wp _ _ _ _ W) ?_
    intro W b2 s2 kx
    have pw := pw0.keep b2
    have b3 := b1.andThen b2
    rw [s1] at kx
    have x1 := kx.cell 2
    simp at x1
    clear kx c0 c1 c2 c3 c4 c5 c6 c7 c8
    have S1 := Lib.hid s1
    have S2 := Lib.hid s2
    clear s1 s2
    have hxs : w.heap.size + 1 < W.heap.size := by have := S1.out; have := S2.out; omega
    go_loopw [4, 6] (fun r i wr => ∃ k : Nat, k < 8 ∧ (grp M k).used = true ∧ i = .int .i64 k ∧ r = .bool false ∧ onL M c (ch M k) = onL M c (ch M g) ∧ Below W.heap.size W wr) (fun _ i _ => dp M (intOf i).toNat)
    case atStart => exact ⟨g, hg, hu, rfl, rfl, rfl, Below.refl _ _⟩
    case round =>
      obtain ⟨k, hk, huk, rfl, rfl, hon, hb⟩ := hrel
      have HU := Lib.hid huk
      have HO := Lib.hid hon
      clear huk hon
      have x2 := (hb.cell (p := ⟨w.heap.size + 1, 2, none⟩) hxs).trans x1
      obtain ⟨p0, p1, p2, p3, p4, p5⟩ := pw.keep hb
      by_cases h0 : k = 0
      · subst h0
        go_wp2
        go_ret
        refine ⟨ret_bool ?_, b3.andThen hb⟩
        rw [LN.out, ← HO.out, ch_zero]; rfl
      · obtain ⟨hp1, hp2, hp3, hp4⟩ := hT.up k hk HU.out h0
        have hst := hT.ch_step hk HU.out h0
        have hlg : k < M.groups.length := by have := HL.out; omega
        have hcs : c < (grp M k).shelves.length := by rw [hG.she k hk HU.out]; exact hc
        have hne : ((k : Int) == 0) = false := by simpa using h0
        have hne2 : ((k : Int) != 0) = true := by simpa using h0
        have HP1 := Lib.hid hp1
        have HP3 := Lib.hid hp3
        have HP4 := Lib.hid hp4
        have HS := Lib.hid hst
        clear hp1 hp3 hp4 hst
        go_wp2_with fail
        refine (sl8Queued_any ca cc _ tc ga gc gh M _ p5 k c hlg hcs).mono ?_
        rintro e w2 ⟨rfl, hb2⟩
        obtain ⟨r0, r1, r2, r3, r4, r5⟩ := (pw.keep hb).keep hb2
        obtain ⟨b4, o4, e4, hB4, d0, d1, d2⟩ := r5.group_ hlg
        rw [e4] at r4
        rw [HP1.out] at d1
        clear e4 d0 d2 p0 p1 p2 p3 p4 p5 r0 r1 r2 r3
        by_cases hq : (she M k c).on = true
        · go_wp2
          go_roundw
          case rel => exact ⟨par M k, hp2, HP3.out, rfl, rfl, by rw [← HO.out, HS.out]; simp [onL, hq], hb.andThen hb2⟩
          case measure => simp [intOf]; have := HP4.out; omega
        · have hq' : (she M k c).on = false := by simpa using hq
          go_wp2
          go_ret
          refine ⟨ret_bool ?_, b3.andThen (hb.andThen hb2)⟩
          rw [LN.out, ← HO.out, HS.out]; simp [onL, hq', h0]
  · have hst' : ((tsk M t).st == 1) = false := by simpa using hst
    have hst2 : ((tsk M t).st != 1) = true := by simpa using hst
    have LN := Lib.hid (show lineM M t = false by rw [lineM, hst']; rfl)
    obtain ⟨b, o, rfl, hB, c0, c1, c2, c3, c4, c5, c6, c7, c8⟩ := hs.task_ ht
    clear hr hst
    go_enter Tryz.func84, Tryz.ntmps84
    go_wp2
    go_ret
    exact ⟨ret_bool LN.out.symm, ((Below.refl _ _).alloc (Nat.le_refl _) _).alloc (by simp) _⟩
end Go.Proofs.YtknfpigaognklaaGreatDoor
