/- The reference's sums over the entries of a queue, its greatest divisor. Is a task in line, in a valid world: the reference and the program. What a task gets, and how far that may be off: the reference. -/
import Derived.Test.YtccjanpdgdonmaaGreatZm
import Derived.Test.YtccjanpdgdonmaaGreatT2
namespace Go.Proofs.YtccjanpdgdonmaaGreat
open Go.RowKit
set_option maxRecDepth 100000 in
set_option maxHeartbeats 2000000 in
theorem sl15Weights_any (ca : Option Addr) (cc : Nat) (ta : Option Addr) (tc : Nat) (ga : Option Addr) (gc : Nat) (gh : Nat → GH) (M : WorldM) (w : World) (hs : WA w ca ta ga gh M) (hT : Tree M) (hG : GOk M) (hW : WtOk M) (ht : M.tasks.length ≤ 12) (g : Int) (c : Nat) (hc : c < M.cpus.length) :
    Calls Tryz.prog 48 #[.agg #[.int .i64 M.now, .slice ca M.cpus.length cc, .slice ta M.tasks.length tc, .slice ga M.groups.length gc], .int .i64 g, .int .i64 c] w fun e w' => e = .returned (.int .i64 (weiM M g c)) ∧ Below w.heap.size w w' := by
  have HL := Lib.hid hT.len
  go_enter Tryz.func48, Tryz.ntmps48
  go_wp2
  refine PA.gen (P := fun W => Code.wp _ _ _ _ W) hs ?_
  intro W b1 s1 pw
  clear s1
  go_loopw [7, 8] (fun n i wr => ∃ k : Nat, k ≤ M.tasks.length ∧ i = .int .i64 k ∧ n = .int .i64 (weiT M g c k) ∧ Below W.heap.size W wr) (fun _ i _ => M.tasks.length - (intOf i).toNat)
  case atStart => exact ⟨0, by omega, rfl, rfl, Below.refl _ _⟩
  case round =>
    obtain ⟨k, hk, rfl, rfl, hb⟩ := hrel
    have pw2 := pw.keep hb
    obtain ⟨p0, p1, p2, p3, p4, p5⟩ := pw2
    by_cases hlt : k < M.tasks.length
    · obtain ⟨b, o, rfl, hB, c0, c1, c2, c3, c4, c5, c6, c7, c8⟩ := p5.task_ hlt
      have hi0 : (0 : Int) ≤ (k : Int) := by omega
      have hi1 : (k : Int) < (M.tasks.length : Int) := by omega
      obtain ⟨n0, n1⟩ := weiT_bd M g c k
      obtain ⟨v0, v1⟩ := wof_bd (tsk M k).nice
      go_upto_region 6 with (fail)
      refine gen1 (p := fun W => Code.wp _ _ _ _ W) ?_
      intro W2 b2 s2 kx
      have x0 := kx.cell 0
      have x1 := kx.cell 1
      have x2 := kx.cell 2
      have x3 := kx.cell 3
      simp at x0 x1 x2 x3
      have bel := hb.andThen b2
      clear kx s2 c0 c1 c2 c3 c4 c5 c6 c7 c8 p0 p1 p2 p3 p4 p5
      cases hq : tq M k g c with
      | true =>
        have HQ := Lib.hid hq
        simp only [tq, Bool.and_eq_true] at hq
        obtain ⟨⟨t1, t2⟩, t3⟩ := hq
        go_wp2_with (go_at_call 47; refine (sWeightOf_any _ _).mono ?_; rintro e w' ⟨rfl, rfl⟩)
        go_roundw
        case rel => exact ⟨k + 1, by omega, by go_num, val_eq (by rw [weiT_t HQ.out]), bel⟩
        case measure => simp [intOf]; omega
      | false =>
        have HQ := Lib.hid hq
        go_wp2_with (go_at_call 47; refine (sWeightOf_any _ _).mono ?_; rintro e w' ⟨rfl, rfl⟩)
        · exact absurd HQ.out (by simp [tq, *])
        all_goals
          go_roundw
          case rel => exact ⟨k + 1, by omega, by go_num, val_eq (by rw [weiT_f HQ.out]), bel⟩
          case measure => simp [intOf]; omega
    · have hkl : k = M.tasks.length := by omega
      go_wp2
      go_loopw [7, 10] (fun n i wr2 => ∃ k2 : Nat, 1 ≤ k2 ∧ k2 ≤ 8 ∧ i = .int .i64 k2 ∧ n = .int .i64 (weiT M g c M.tasks.length + weiG M g c k2) ∧ Below wr.heap.size wr wr2) (fun _ i _ => 8 - (intOf i).toNat)
      case atStart => exact ⟨1, by omega, by omega, rfl, val_eq (by rw [hkl]; simp [weiG, sumq, gq]), Below.refl _ _⟩
      case round =>
        obtain ⟨k2, hk1, hk2, rfl, rfl, hb2⟩ := hrel
        obtain ⟨r0, r1, r2, r3, r4, r5⟩ := PA.keep ⟨p0, p1, p2, p3, p4, p5⟩ hb2
        have bel := hb.andThen hb2
        obtain ⟨m0, m1⟩ := weiT_bd M g c M.tasks.length
        obtain ⟨n0, n1⟩ := weiG_bd hW g hc hk2
        have h8 := HL.out
        by_cases hlt2 : k2 < 8
        · have hlg : k2 < M.groups.length := by omega
          obtain ⟨b, o, rfl, hB, c0, c1, c2, c3, c4, c5, c6, c7, c8, c9, c10, c11, c12, c13⟩ := r5.group_ hlg
          have hj0 : (0 : Int) ≤ (k2 : Int) := by omega
          have hj1 : (k2 : Int) < (M.groups.length : Int) := by omega
          clear c2 c3 c4 c5 c6 c7 c8 c9 c10 c11 c12
          cases hu : (grp M k2).used with
          | true =>
            have HU := Lib.hid hu
            have hcs : c < (grp M k2).shelves.length := by rw [hG.she k2 hlt2 hu]; exact hc
            obtain ⟨bs, os, es, hBs, f0, f1, f2, f3, f4⟩ := r5.shelf_ hlg hcs
            rw [es] at c13
            rw [hu] at c0
            clear es f0 f2 f4 hu
            obtain ⟨w0, w1⟩ := hW k2 c hlt2 HU.out hc
            have hk0 : (0 : Int) ≤ (c : Int) := by omega
            have hk1' : (c : Int) < ((grp M k2).shelves.length : Int) := by omega
            have hne := Lib.hid (show (k2 != 0) = true by simp; omega)
            cases hp : (grp M k2).parent == g with
            | true =>
              have HP := Lib.hid hp
              cases ho : (she M k2 c).on with
              | true =>
                have HQ := Lib.hid (show gq M k2 g c = true by rw [gq, hne.out, HU.out, hp, ho]; rfl)
                rw [ho] at f1
                clear ho
                go_wp2
                go_roundw
                case rel => exact ⟨k2 + 1, by omega, by omega, by go_num, val_eq (by rw [weiG_t HQ.out, Int.add_assoc]), hb2⟩
                case measure => simp [intOf]; omega
              | false =>
                have HQ := Lib.hid (show gq M k2 g c = false by rw [gq, ho]; simp)
                rw [ho] at f1
                clear ho
                go_wp2
                go_roundw
                case rel => exact ⟨k2 + 1, by omega, by omega, by go_num, val_eq (by rw [weiG_f HQ.out]), hb2⟩
                case measure => simp [intOf]; omega
            | false =>
              have HQ := Lib.hid (show gq M k2 g c = false by rw [gq, hp]; simp)
              go_wp2
              go_roundw
              case rel => exact ⟨k2 + 1, by omega, by omega, by go_num, val_eq (by rw [weiG_f HQ.out]), hb2⟩
              case measure => simp [intOf]; omega
          | false =>
            have HQ := Lib.hid (show gq M k2 g c = false by simp [gq, hu])
            rw [hu] at c0
            go_wp2
            go_roundw
            case rel => exact ⟨k2 + 1, by omega, by omega, by go_num, val_eq (by rw [weiG_f HQ.out]), hb2⟩
            case measure => simp [intOf]; omega
        · go_wp2
          go_ret
          exact ⟨ret_int (by rw [weiM, show M.groups.length = k2 by omega]), b1.andThen bel⟩
set_option maxRecDepth 100000 in
set_option maxHeartbeats 2000000 in
theorem sl15Many_any (ca : Option Addr) (cc : Nat) (ta : Option Addr) (tc : Nat) (ga : Option Addr) (gc : Nat) (gh : Nat → GH) (M : WorldM) (w : World) (hs : WA w ca ta ga gh M) (hT : Tree M) (hG : GOk M) (ht : M.tasks.length ≤ 12) (g : Int) (c : Nat) (hc : c < M.cpus.length) :
    Calls Tryz.prog 55 #[.agg #[.int .i64 M.now, .slice ca M.cpus.length cc, .slice ta M.tasks.length tc, .slice ga M.groups.length gc], .int .i64 g, .int .i64 c] w fun e w' => e = .returned (.int .i64 (cntM M g c)) ∧ Below w.heap.size w w' := by
  have HL := Lib.hid hT.len
  go_enter Tryz.func55, Tryz.ntmps55
  go_wp2
  refine PA.gen (P := fun W => Code.wp _ _ _ _ W) hs ?_
  intro W b1 s1 pw
  clear s1
  go_loopw [7, 8] (fun n i wr => ∃ k : Nat, k ≤ M.tasks.length ∧ i = .int .i64 k ∧ n = .int .i64 (cntT M g c k) ∧ Below W.heap.size W wr) (fun _ i _ => M.tasks.length - (intOf i).toNat)
  case atStart => exact ⟨0, by omega, rfl, rfl, Below.refl _ _⟩
  case round =>
    obtain ⟨k, hk, rfl, rfl, hb⟩ := hrel
    have pw2 := pw.keep hb
    obtain ⟨p0, p1, p2, p3, p4, p5⟩ := pw2
    by_cases hlt : k < M.tasks.length
    · obtain ⟨b, o, rfl, hB, c0, c1, c2, c3, c4, c5, c6, c7, c8⟩ := p5.task_ hlt
      have hi0 : (0 : Int) ≤ (k : Int) := by omega
      have hi1 : (k : Int) < (M.tasks.length : Int) := by omega
      obtain ⟨n0, n1⟩ := cntT_bd M g c k
      go_upto_region 6 with (fail)
      refine gen1 (p := fun W => Code.wp _ _ _ _ W) ?_
      intro W2 b2 s2 kx
      have x0 := kx.cell 0
      have x1 := kx.cell 1
      have x2 := kx.cell 2
      have x3 := kx.cell 3
      simp at x0 x1 x2 x3
      have bel := hb.andThen b2
      clear kx s2 c0 c1 c2 c3 c4 c5 c6 c7 c8 p0 p1 p2 p3 p4 p5
      cases hq : tq M k g c with
      | true =>
        have HQ := Lib.hid hq
        simp only [tq, Bool.and_eq_true] at hq
        obtain ⟨⟨t1, t2⟩, t3⟩ := hq
        go_wp2
        go_roundw
        case rel => exact ⟨k + 1, by omega, by go_num, val_eq (by rw [cntT_t HQ.out]), bel⟩
        case measure => simp [intOf]; omega
      | false =>
        have HQ := Lib.hid hq
        go_wp2
        · exact absurd HQ.out (by simp [tq, *])
        all_goals
          go_roundw
          case rel => exact ⟨k + 1, by omega, by go_num, val_eq (by rw [cntT_f HQ.out]), bel⟩
          case measure => simp [intOf]; omega
    · have hkl : k = M.tasks.length := by omega
      go_wp2
      go_loopw [7, 10] (fun n i wr2 => ∃ k2 : Nat, 1 ≤ k2 ∧ k2 ≤ 8 ∧ i = .int .i64 k2 ∧ n = .int .i64 (cntT M g c M.tasks.length + cntG M g c k2) ∧ Below wr.heap.size wr wr2) (fun _ i _ => 8 - (intOf i).toNat)
      case atStart => exact ⟨1, by omega, by omega, rfl, val_eq (by rw [hkl]; simp [cntG, sumq, gq]), Below.refl _ _⟩
      case round =>
        obtain ⟨k2, hk1, hk2, rfl, rfl, hb2⟩ := hrel
        obtain ⟨r0, r1, r2, r3, r4, r5⟩ := PA.keep ⟨p0, p1, p2, p3, p4, p5⟩ hb2
        have bel := hb.andThen hb2
        obtain ⟨m0, m1⟩ := cntT_bd M g c M.tasks.length
        obtain ⟨n0, n1⟩ := cntG_bd M g c k2
        have h8 := HL.out
        by_cases hlt2 : k2 < 8
        · have hlg : k2 < M.groups.length := by omega
          obtain ⟨b, o, rfl, hB, c0, c1, c2, c3, c4, c5, c6, c7, c8, c9, c10, c11, c12, c13⟩ := r5.group_ hlg
          have hj0 : (0 : Int) ≤ (k2 : Int) := by omega
          have hj1 : (k2 : Int) < (M.groups.length : Int) := by omega
          clear c2 c3 c4 c5 c6 c7 c8 c9 c10 c11 c12
          cases hu : (grp M k2).used with
          | true =>
            have HU := Lib.hid hu
            have hcs : c < (grp M k2).shelves.length := by rw [hG.she k2 hlt2 hu]; exact hc
            obtain ⟨bs, os, es, hBs, f0, f1, f2, f3, f4⟩ := r5.shelf_ hlg hcs
            rw [es] at c13
            rw [hu] at c0
            clear es f0 f2 f4 hu
            clear f3
            have hk0 : (0 : Int) ≤ (c : Int) := by omega
            have hk1' : (c : Int) < ((grp M k2).shelves.length : Int) := by omega
            have hne := Lib.hid (show (k2 != 0) = true by simp; omega)
            cases hp : (grp M k2).parent == g with
            | true =>
              have HP := Lib.hid hp
              cases ho : (she M k2 c).on with
              | true =>
                have HQ := Lib.hid (show gq M k2 g c = true by rw [gq, hne.out, HU.out, hp, ho]; rfl)
                rw [ho] at f1
                clear ho
                go_wp2
                go_roundw
                case rel => exact ⟨k2 + 1, by omega, by omega, by go_num, val_eq (by rw [cntG_t HQ.out, Int.add_assoc]), hb2⟩
                case measure => simp [intOf]; omega
              | false =>
                have HQ := Lib.hid (show gq M k2 g c = false by rw [gq, ho]; simp)
                rw [ho] at f1
                clear ho
                go_wp2
                go_roundw
                case rel => exact ⟨k2 + 1, by omega, by omega, by go_num, val_eq (by rw [cntG_f HQ.out]), hb2⟩
                case measure => simp [intOf]; omega
            | false =>
              have HQ := Lib.hid (show gq M k2 g c = false by rw [gq, hp]; simp)
              go_wp2
              go_roundw
              case rel => exact ⟨k2 + 1, by omega, by omega, by go_num, val_eq (by rw [cntG_f HQ.out]), hb2⟩
              case measure => simp [intOf]; omega
          | false =>
            have HQ := Lib.hid (show gq M k2 g c = false by simp [gq, hu])
            rw [hu] at c0
            go_wp2
            go_roundw
            case rel => exact ⟨k2 + 1, by omega, by omega, by go_num, val_eq (by rw [cntG_f HQ.out]), hb2⟩
            case measure => simp [intOf]; omega
        · go_wp2
          go_ret
          exact ⟨ret_int (by rw [cntM, show M.groups.length = k2 by omega]), b1.andThen bel⟩
set_option maxRecDepth 100000 in
set_option maxHeartbeats 1000000 in
theorem sl15Gcd_any (a b : Int) (w : World) (ha : 0 ≤ a) (hb : 0 ≤ b) (ha2 : a ≤ 1000000000000) (hb2 : b ≤ 1000000000000) :
    Calls Tryz.prog 49 #[.int .i64 a, .int .i64 b] w fun e w' => e = .returned (.int .i64 (gcdM a b)) ∧ w = w' := by
  have GN := Lib.hid (rfl : gcdM a b = gcdM a b)
  go_enter Tryz.func49, Tryz.ntmps49
  go_wp2
  go_loopw [0, 1] (fun x y wr => ∃ p q : Int, x = .int .i64 p ∧ y = .int .i64 q ∧ 0 ≤ p ∧ 0 ≤ q ∧ p ≤ 1000000000000 ∧ q ≤ 1000000000000 ∧ gcdM p q = gcdM a b ∧ w = wr) (fun _ y _ => (intOf y).toNat)
  case atStart => exact ⟨a, b, rfl, rfl, ha, hb, ha2, hb2, rfl, rfl⟩
  case round =>
    obtain ⟨p, q, rfl, rfl, hp, hq, hp2, hq2, hg, rfl⟩ := hrel
    have HG := Lib.hid hg
    clear hg
    by_cases h0 : 0 < q
    · have hm0 := Int.emod_nonneg p (show q ≠ 0 by omega)
      have hm1 := Int.emod_lt_of_pos p h0
      have htm : p.tmod q = p % q := Int.tmod_eq_emod_of_nonneg hp
      go_wp2
      go_roundw
      case rel => exact ⟨q, p % q, rfl, by go_num, hq, hm0, hq2, by omega, by rw [← gcdM_step hp h0]; exact HG.out, by first | rfl | trivial⟩
      case measure => simp [intOf]; omega
    · have hq0 : q = 0 := by omega
      go_wp2
      go_ret
      exact ⟨ret_int (by rw [← HG.out, hq0, gcdM_zero hp]), rfl⟩
theorem sl15Beside_any (w1 a n : Int) (w : World) (h1 : 0 ≤ w1) (h2 : w1 ≤ 20) (h3 : w1 ≤ a) (h7 : 1 ≤ a) (h4 : a ≤ 400) (h5 : 1 ≤ n) (h6 : n ≤ 20) :
    Calls Tryz.prog 54 #[.int .i64 w1, .int .i64 a, .int .i64 n] w fun e w' => e = .returned (.int .i64 (besM w1 a n)) ∧ w = w' := by
  obtain ⟨x0, x1⟩ := mul_small h1 h2 h5 h6
  obtain ⟨y0, y1⟩ := bes_bd h1 h2 h3 h4 h5 h6
  have BN := Lib.hid (show besM w1 a n = (149 * ((n - 2) * w1 + a) + a - 1) / a from rfl)
  obtain ⟨z0, z1⟩ := besM_bd h1 h2 h3 h7 h4 h5 h6
  rw [BN.out] at z0 z1
  have ht : (149 * ((n - 2) * w1 + a) + a - 1).tdiv a = (149 * ((n - 2) * w1 + a) + a - 1) / a := Int.tdiv_eq_ediv_of_nonneg (by omega)
  go_enter Tryz.func54, Tryz.ntmps54
  go_wp2
  go_ret
  exact ⟨ret_int (by rw [BN.out]), rfl⟩
end Go.Proofs.YtccjanpdgdonmaaGreat
namespace Go.Proofs.YtccjanpdgdonmaaGreat
open Go.RowKit Go.Sort
/-- a valid world, a task of it that is in line -/
def lineOk (M : WorldM) (t : Int) : Bool := worldB M && (taskIn M t && lineM M t.toNat)
set_option maxRecDepth 100000 in
set_option maxHeartbeats 4000000 in
theorem sLine_any (ca : Option Addr) (cc : Nat) (ta : Option Addr) (tc : Nat) (ga : Option Addr) (gc : Nat) (gh : Nat → GH) (M : WorldM) (w : World) (hs : WA w ca ta ga gh M) (hF : FitG M) (t : Int) :
    Calls Tryz.prog 46 #[.agg #[.int .i64 M.now, .slice ca M.cpus.length cc, .slice ta M.tasks.length tc, .slice ga M.groups.length gc], .int .i64 t] w fun e w' => e = .returned (.bool (lineOk M t)) ∧ Below w.heap.size w w' := by
  go_enter Tryz.func46, Tryz.ntmps46
  go_upto_region 1 with (fail)
  refine PA.gen (P := fun W => Code.wp _ _ _ _ W) hs ?_
  intro W b1 s1 pw
  have hcm := hF.cpu
  have htm := hF.task
  have hgm := hF.group
  have PW0 := Lib.hid pw
  obtain ⟨q0, q1, q2, q3, q4, q5⟩ := pw
  clear s1
  by_cases f1 : worldB M = true
  · have F1 := Lib.hid f1
    clear f1
    by_cases f2 : taskIn M t = true
    · have F2 := Lib.hid f2
      clear f2
      have hin := F2.out
      simp only [taskIn, Bool.and_eq_true, inR_iff, Bool.not_eq_true', beq_eq_false_iff_ne] at hin
      obtain ⟨tn, htn⟩ : ∃ tn : Nat, t = tn := ⟨t.toNat, by omega⟩
      subst htn
      rw [Int.toNat_natCast] at hin
      have htl : tn < M.tasks.length := by omega
      have hst0 := hin.2
      clear hin
      have FA := Lib.hid (facts_of F1.out)
      obtain ⟨gn, cn, hgr, hg8, hgu, hcu, hcl⟩ := FA.out.tk tn (by have := FA.out.t12; omega) hst0
      have HGR := Lib.hid hgr
      have HCU := Lib.hid hcu
      have HGU := Lib.hid hgu
      clear hst0 hgr hgu hcu
      have LN := Lib.hid (show lineOk M tn = lineM M tn by rw [lineOk, F1.out, F2.out, Int.toNat_natCast]; rfl)
      go_wp2_with (first | (go_at_call 27; refine (sWorldOk_any ca cc ta tc ga gc gh M _ q5 hF).mono ?_; rintro e w2 ⟨rfl, hb2⟩; rw [F1.out]; have r1 := (hb2.cell (p := ⟨w.heap.size, 0, none⟩) q0).trans q1; have r2 := (hb2.cell (p := ⟨w.heap.size, 1, none⟩) q0).trans q2; have r3 := (hb2.cell (p := ⟨w.heap.size, 2, none⟩) q0).trans q3; have r4 := (hb2.cell (p := ⟨w.heap.size, 3, none⟩) q0).trans q4; have r0 := Nat.lt_of_lt_of_le q0 hb2.size) | (go_at_call 42; refine (sTask_any ca cc ta tc ga gc gh M _ (q5.keep hb2) hF _).mono ?_; rintro e w3 ⟨rfl, hb3⟩; rw [F2.out]; have u1 := (hb3.cell (p := ⟨w.heap.size, 0, none⟩) r0).trans r1; have u2 := (hb3.cell (p := ⟨w.heap.size, 1, none⟩) r0).trans r2; have u3 := (hb3.cell (p := ⟨w.heap.size, 2, none⟩) r0).trans r3; have u4 := (hb3.cell (p := ⟨w.heap.size, 3, none⟩) r0).trans r4; have u0 := Nat.lt_of_lt_of_le r0 hb3.size) | (go_at_call 81; refine (sl8InLine_any ca cc ta tc ga gc gh M _ ((q5.keep hb2).keep hb3) FA.out.tree FA.out.gok tn gn cn htl (fun _ => ⟨HGR.out, hg8, HGU.out, HCU.out, hcl⟩)).mono ?_; rintro e w4 ⟨rfl, hb4⟩))
      go_ret
      exact ⟨ret_bool LN.out.symm, b1.andThen (hb2.andThen (hb3.andThen hb4))⟩
    · have F2 := Lib.hid (show taskIn M t = false by simpa only [Bool.not_eq_true] using f2)
      clear f2
      have LN := Lib.hid (show lineOk M t = false by rw [lineOk, F1.out, F2.out]; simp)
      go_wp2_with (first | (go_at_call 27; refine (sWorldOk_any ca cc ta tc ga gc gh M _ q5 hF).mono ?_; rintro e w2 ⟨rfl, hb2⟩; rw [F1.out]; have r1 := (hb2.cell (p := ⟨w.heap.size, 0, none⟩) q0).trans q1; have r2 := (hb2.cell (p := ⟨w.heap.size, 1, none⟩) q0).trans q2; have r3 := (hb2.cell (p := ⟨w.heap.size, 2, none⟩) q0).trans q3; have r4 := (hb2.cell (p := ⟨w.heap.size, 3, none⟩) q0).trans q4; have r0 := Nat.lt_of_lt_of_le q0 hb2.size) | (go_at_call 42; refine (sTask_any ca cc ta tc ga gc gh M _ (q5.keep hb2) hF _).mono ?_; rintro e w3 ⟨rfl, hb3⟩; rw [F2.out]; have u1 := (hb3.cell (p := ⟨w.heap.size, 0, none⟩) r0).trans r1; have u2 := (hb3.cell (p := ⟨w.heap.size, 1, none⟩) r0).trans r2; have u3 := (hb3.cell (p := ⟨w.heap.size, 2, none⟩) r0).trans r3; have u4 := (hb3.cell (p := ⟨w.heap.size, 3, none⟩) r0).trans r4; have u0 := Nat.lt_of_lt_of_le r0 hb3.size))
      go_ret
      exact ⟨ret_bool LN.out.symm, b1.andThen (hb2.andThen hb3)⟩
  · have F1 := Lib.hid (show worldB M = false by simpa only [Bool.not_eq_true] using f1)
    clear f1
    have LN := Lib.hid (show lineOk M t = false by rw [lineOk, F1.out]; simp)
    go_wp2_with ((go_at_call 27; refine (sWorldOk_any ca cc ta tc ga gc gh M _ q5 hF).mono ?_; rintro e w2 ⟨rfl, hb2⟩; rw [F1.out]; have r1 := (hb2.cell (p := ⟨w.heap.size, 0, none⟩) q0).trans q1; have r2 := (hb2.cell (p := ⟨w.heap.size, 1, none⟩) q0).trans q2; have r3 := (hb2.cell (p := ⟨w.heap.size, 2, none⟩) q0).trans q3; have r4 := (hb2.cell (p := ⟨w.heap.size, 3, none⟩) q0).trans q4; have r0 := Nat.lt_of_lt_of_le q0 hb2.size))
    go_ret
    exact ⟨ret_bool LN.out.symm, b1.andThen hb2⟩
set_option maxRecDepth 100000 in
set_option maxHeartbeats 4000000 in
theorem iLine_any (ca : Option Addr) (cc : Nat) (ta : Option Addr) (tc : Nat) (ga : Option Addr) (gc : Nat) (gh : Nat → GH) (M : WorldM) (w : World) (hs : WA w ca ta ga gh M) (hF : FitG M) (hx : NextOk M) (t : Int) :
    Calls Tryz.prog 50 #[.agg #[.int .i64 M.now, .slice ca M.cpus.length cc, .slice ta M.tasks.length tc, .slice ga M.groups.length gc], .int .i64 t] w fun e w' => e = .returned (.bool (lineOk M t)) ∧ Below w.heap.size w w' := by
  have HX := Lib.hid hx
  clear hx
  go_enter Tryz.func50, Tryz.ntmps50
  go_upto_region 1 with (fail)
  refine PA.gen (P := fun W => Code.wp _ _ _ _ W) hs ?_
  intro W b1 s1 pw
  have hcm := hF.cpu
  have htm := hF.task
  have hgm := hF.group
  have PW0 := Lib.hid pw
  obtain ⟨q0, q1, q2, q3, q4, q5⟩ := pw
  clear s1
  by_cases f1 : worldB M = true
  · have F1 := Lib.hid f1
    clear f1
    by_cases f2 : taskIn M t = true
    · have F2 := Lib.hid f2
      clear f2
      have hin := F2.out
      simp only [taskIn, Bool.and_eq_true, inR_iff, Bool.not_eq_true', beq_eq_false_iff_ne] at hin
      obtain ⟨tn, htn⟩ : ∃ tn : Nat, t = tn := ⟨t.toNat, by omega⟩
      subst htn
      rw [Int.toNat_natCast] at hin
      have htl : tn < M.tasks.length := by omega
      have hst0 := hin.2
      clear hin
      have FA := Lib.hid (facts_of F1.out)
      obtain ⟨gn, cn, hgr, hg8, hgu, hcu, hcl⟩ := FA.out.tk tn (by have := FA.out.t12; omega) hst0
      have HGR := Lib.hid hgr
      have HCU := Lib.hid hcu
      have HGU := Lib.hid hgu
      clear hst0 hgr hgu hcu
      have LN := Lib.hid (show lineOk M tn = lineM M tn by rw [lineOk, F1.out, F2.out, Int.toNat_natCast]; rfl)
      obtain ⟨b, o, rfl, hB, c0, c1, c2, c3, c4, c5, c6, c7, c8⟩ := q5.task_ htl
      have hci := HCU.out
      rw [hci] at c2
      have hi0 : (0 : Int) ≤ (tn : Int) := by omega
      have hi1 : (tn : Int) < (M.tasks.length : Int) := by omega
      clear c0 c1 c3 c4 c5 c6 c7 c8 hci
      go_wp2_with (first | (go_at_call 34; refine (iWorldOk_any ca cc _ tc ga gc gh M _ q5 hF HX.out).mono ?_; rintro e w2 ⟨rfl, hb2⟩; rw [F1.out]; have r1 := (hb2.cell (p := ⟨w.heap.size, 0, none⟩) q0).trans q1; have r2 := (hb2.cell (p := ⟨w.heap.size, 1, none⟩) q0).trans q2; have r3 := (hb2.cell (p := ⟨w.heap.size, 2, none⟩) q0).trans q3; have r4 := (hb2.cell (p := ⟨w.heap.size, 3, none⟩) q0).trans q4; have r0 := Nat.lt_of_lt_of_le q0 hb2.size) | (go_at_call 43; refine (iTaskThere_any w.heap.size ca cc _ tc ga gc gh M _ (PW0.out.keep hb2) htm _).mono ?_; rintro e w' ⟨rfl, rfl⟩; rw [F2.out]; have c2' := (hb2.cell (p := ⟨b, o + tn * 9 + 2, none⟩) hB).trans c2) | (go_at_call 37; refine (iLane_any _ _ _).mono ?_; rintro e w3 ⟨rfl, hb3⟩) | (go_at_call 82; refine (iInLine_any w.heap.size ca cc _ tc ga gc gh M _ ((PW0.out.keep hb2).keep hb3) FA.out.tree (fun k h1 h2 => FA.out.gok.she k h1 h2) tn cn htl hcl (fun _ => ⟨gn, HGR.out, hg8, HGU.out⟩)).mono ?_; rintro e w4 ⟨rfl, hb4⟩))
      go_ret
      exact ⟨ret_bool (by rw [LN.out, lineM, lineI, HCU.out, Int.toNat_natCast]; simp), b1.andThen (hb2.andThen (hb3.andThen hb4))⟩
    · have F2 := Lib.hid (show taskIn M t = false by simpa only [Bool.not_eq_true] using f2)
      clear f2
      have LN := Lib.hid (show lineOk M t = false by rw [lineOk, F1.out, F2.out]; simp)
      go_wp2_with (first | (go_at_call 34; refine (iWorldOk_any ca cc ta tc ga gc gh M _ q5 hF HX.out).mono ?_; rintro e w2 ⟨rfl, hb2⟩; rw [F1.out]; have r1 := (hb2.cell (p := ⟨w.heap.size, 0, none⟩) q0).trans q1; have r2 := (hb2.cell (p := ⟨w.heap.size, 1, none⟩) q0).trans q2; have r3 := (hb2.cell (p := ⟨w.heap.size, 2, none⟩) q0).trans q3; have r4 := (hb2.cell (p := ⟨w.heap.size, 3, none⟩) q0).trans q4; have r0 := Nat.lt_of_lt_of_le q0 hb2.size) | (go_at_call 43; refine (iTaskThere_any w.heap.size ca cc ta tc ga gc gh M _ (PW0.out.keep hb2) htm _).mono ?_; rintro e w' ⟨rfl, rfl⟩; rw [F2.out]))
      go_ret
      exact ⟨ret_bool LN.out.symm, b1.andThen hb2⟩
  · have F1 := Lib.hid (show worldB M = false by simpa only [Bool.not_eq_true] using f1)
    clear f1
    have LN := Lib.hid (show lineOk M t = false by rw [lineOk, F1.out]; simp)
    go_wp2_with ((go_at_call 34; refine (iWorldOk_any ca cc ta tc ga gc gh M _ q5 hF HX.out).mono ?_; rintro e w2 ⟨rfl, hb2⟩; rw [F1.out]; have r1 := (hb2.cell (p := ⟨w.heap.size, 0, none⟩) q0).trans q1; have r2 := (hb2.cell (p := ⟨w.heap.size, 1, none⟩) q0).trans q2; have r3 := (hb2.cell (p := ⟨w.heap.size, 2, none⟩) q0).trans q3; have r4 := (hb2.cell (p := ⟨w.heap.size, 3, none⟩) q0).trans q4; have r0 := Nat.lt_of_lt_of_le q0 hb2.size))
    go_ret
    exact ⟨ret_bool LN.out.symm, b1.andThen hb2⟩
end Go.Proofs.YtccjanpdgdonmaaGreat
namespace Go.Proofs.YtccjanpdgdonmaaGreat
open Go.RowKit Go.Sort
/-- what a task gets -/
def shareM (M : WorldM) (t : Int) : Int × Int := if lineOk M t = true then shareF M t.toNat (tsk M t.toNat).cpu.toNat else (0, 0)
set_option maxRecDepth 100000 in
set_option maxHeartbeats 4000000 in
theorem sTaskShare_any (ca : Option Addr) (cc : Nat) (ta : Option Addr) (tc : Nat) (ga : Option Addr) (gc : Nat) (gh : Nat → GH) (M : WorldM) (w : World) (hs : WA w ca ta ga gh M) (hF : FitG M) (t : Int) :
    Calls Tryz.prog 18 #[.agg #[.int .i64 M.now, .slice ca M.cpus.length cc, .slice ta M.tasks.length tc, .slice ga M.groups.length gc], .int .i64 t] w fun e w' => e = .returned (.tuple #[.int .i64 (shareM M t).1, .int .i64 (shareM M t).2]) ∧ Below w.heap.size w w' := by
  go_enter Tryz.func18, Tryz.ntmps18
  go_upto_region 1 with (fail)
  refine PA.gen (P := fun W => Code.wp _ _ _ _ W) hs ?_
  intro W b1 s1 pw
  have hcm := hF.cpu
  have htm := hF.task
  have hgm := hF.group
  have PW0 := Lib.hid pw
  obtain ⟨q0, q1, q2, q3, q4, q5⟩ := pw
  clear s1
  by_cases fL : lineOk M t = true
  · have FL := Lib.hid fL
    clear fL
    have hin := FL.out
    simp only [lineOk, taskIn, Bool.and_eq_true, inR_iff, Bool.not_eq_true', beq_eq_false_iff_ne] at hin
    obtain ⟨tn, htn⟩ : ∃ tn : Nat, t = tn := ⟨t.toNat, by omega⟩
    subst htn
    rw [Int.toNat_natCast] at hin
    have htl : tn < M.tasks.length := by omega
    obtain ⟨F1', ⟨_, hst0⟩, hli⟩ := hin
    have FA := Lib.hid (facts_of F1')
    obtain ⟨gn, cn, hgr, hg8, hgu, hcu, hcl⟩ := FA.out.tk tn (by have := FA.out.t12; omega) hst0
    have HGR := Lib.hid hgr
    have HCU := Lib.hid hcu
    have HGU := Lib.hid hgu
    have L := Lib.hid (lv_of F1' htl hli hgr hg8 hgu hcu hcl)
    have LE := Lib.hid (show levsM M tn = levL ⟨false, tn⟩ (ch M gn) by rw [levsM, hgr, Int.toNat_natCast])
    clear hst0 hgr hgu hcu hli F1'
    have LN := Lib.hid (show shareM M tn = shareF M tn cn by rw [shareM, if_pos FL.out, Int.toNat_natCast, HCU.out, Int.toNat_natCast])
    obtain ⟨b, o, rfl, hB, c0, c1, c2, c3, c4, c5, c6, c7, c8⟩ := q5.task_ htl
    rw [HGR.out] at c1
    rw [HCU.out] at c2
    have hi0 : (0 : Int) ≤ (tn : Int) := by omega
    have hi1 : (tn : Int) < (M.tasks.length : Int) := by omega
    go_upto_region 3 with (go_at_call 46; refine (sLine_any ca cc _ tc ga gc gh M _ q5 hF _).mono ?_; rintro e w2 ⟨rfl, hb2⟩; rw [FL.out]; have r1 := (hb2.cell (p := ⟨w.heap.size, 0, none⟩) q0).trans q1; have r2 := (hb2.cell (p := ⟨w.heap.size, 1, none⟩) q0).trans q2; have r3 := (hb2.cell (p := ⟨w.heap.size, 2, none⟩) q0).trans q3; have r4 := (hb2.cell (p := ⟨w.heap.size, 3, none⟩) q0).trans q4; have r0 := Nat.lt_of_lt_of_le q0 hb2.size)
    have d0 := (hb2.cell (p := ⟨b, o + tn * 9, none⟩) hB).trans c0
    have d1 := (hb2.cell (p := ⟨b, o + tn * 9 + 1, none⟩) hB).trans c1
    have d2 := (hb2.cell (p := ⟨b, o + tn * 9 + 2, none⟩) hB).trans c2
    have d3 := (hb2.cell (p := ⟨b, o + tn * 9 + 3, none⟩) hB).trans c3
    have d4 := (hb2.cell (p := ⟨b, o + tn * 9 + 4, none⟩) hB).trans c4
    have d5 := (hb2.cell (p := ⟨b, o + tn * 9 + 5, none⟩) hB).trans c5
    have d6 := (hb2.cell (p := ⟨b, o + tn * 9 + 6, none⟩) hB).trans c6
    have d7 := (hb2.cell (p := ⟨b, o + tn * 9 + 7, none⟩) hB).trans c7
    have d8 := (hb2.cell (p := ⟨b, o + tn * 9 + 8, none⟩) hB).trans c8
    have hB3 := Nat.lt_of_lt_of_le hB hb2.size
    go_upto_region 4 with (fail)
    refine gen1 (p := fun W => Code.wp _ _ _ _ W) ?_
    intro W4 b4 s4 kx
    have x1 := kx.cell 1
    have x2 := kx.cell 2
    have x3 := kx.cell 3
    have x5 := kx.cell 5
    simp at x1 x2 x3 x5
    have hx := kx.lt
    have pw4 := PW0.out.keep (hb2.andThen b4)
    have bel := Lib.hid (b1.andThen (hb2.andThen b4))
    clear kx c0 c1 c2 c3 c4 c5 c6 c7 c8 d0 d1 d2 d3 d4 d5 d6 d7 d8 q0 q1 q2 q3 q4 q5 r0 r1 r2 r3 r4 hi0 hi1 hB3 hB hs
    obtain ⟨n0, n1⟩ := L.out.w (lv := (⟨false, tn⟩, gn)) (by rw [LE.out, ch_cons]; simp [levL])
    have hWO := Lib.hid (show wof (tsk M tn).nice = prodI (wF M cn) [(⟨false, tn⟩, gn)] by simp [prodI, wF, memW])
    have hAO := Lib.hid (show weiM M gn cn = prodI (aF M cn) [(⟨false, tn⟩, gn)] by simp [prodI, aF])
    have p3 := pw4
    obtain ⟨p0, p1, p2, p4, p5, p6⟩ := p3
    go_upto_region 7 with (first | (go_at_call 47; refine (sWeightOf_any _ _).mono ?_; rintro e w' ⟨rfl, rfl⟩) | (go_at_call 48; refine (sl15Weights_any ca cc _ tc ga gc gh M _ (pw4).wa FA.out.tree FA.out.gok (wt_of L.out.wb) (by have := FA.out.t12; omega) gn cn hcl).mono ?_; rintro e w5 ⟨rfl, hb5⟩))
    have x2 := (hb5.cell (p := ⟨w2.heap.size, 2, none⟩) hx).trans x2
    have hx := Nat.lt_of_lt_of_le hx hb5.size
    have pw5 := pw4.keep hb5
    have bel5 := Lib.hid (bel.out.andThen hb5)
    clear p0 p1 p2 p4 p5 p6 x1 x3 x5 pw4 n0 n1
    go_loopw [7, 8, 9] (fun g tp bt wr => ∃ (k : Nat) (m : Mem) (pre : List (Mem × Nat)), k < 8 ∧ (grp M k).used = true ∧ levsM M tn = pre ++ levL m (ch M k) ∧ g = .int .i64 k ∧ tp = .int .i64 (prodI (wF M cn) (pre ++ [(m, k)])) ∧ bt = .int .i64 (prodI (aF M cn) (pre ++ [(m, k)])) ∧ Below w5.heap.size w5 wr) (fun g _ _ _ => dp M (intOf g).toNat)
    case atStart => exact ⟨gn, ⟨false, tn⟩, [], hg8, HGU.out, by rw [LE.out]; rfl, rfl, val_eq hWO.out, val_eq hAO.out, Below.refl _ _⟩
    case round =>
      obtain ⟨k, m, pre, hk, huk, hlv, rfl, rfl, rfl, hb⟩ := hrel
      have HU := Lib.hid huk
      have HLV := Lib.hid hlv
      clear huk hlv
      have y2 := (hb.cell (p := ⟨w2.heap.size, 2, none⟩) hx).trans x2
      have hy := Nat.lt_of_lt_of_le hx hb.size
      have pw6 := pw5.keep hb
      by_cases h0 : k = 0
      · have HE := Lib.hid (show levsM M tn = pre ++ [(m, 0)] by rw [HLV.out, h0, ch_zero]; rfl)
        have HP := Lib.hid (show pre ++ [(m, k)] = levsM M tn by rw [HE.out, h0])
        obtain ⟨t0, t1⟩ := L.out.top (p := levsM M tn) (r := []) (by simp)
        obtain ⟨u0, u1⟩ := L.out.bot (p := levsM M tn) (r := []) (by simp)
        obtain ⟨g0, g1⟩ := gcdM_pos (b := prodI (aF M cn) (levsM M tn)) t0
        have d1 : (prodI (wF M cn) (levsM M tn)).tdiv (gcdM (prodI (wF M cn) (levsM M tn)) (prodI (aF M cn) (levsM M tn))) = prodI (wF M cn) (levsM M tn) / gcdM (prodI (wF M cn) (levsM M tn)) (prodI (aF M cn) (levsM M tn)) := Int.tdiv_eq_ediv_of_nonneg (by omega)
        have d2 : (prodI (aF M cn) (levsM M tn)).tdiv (gcdM (prodI (wF M cn) (levsM M tn)) (prodI (aF M cn) (levsM M tn))) = prodI (aF M cn) (levsM M tn) / gcdM (prodI (wF M cn) (levsM M tn)) (prodI (aF M cn) (levsM M tn)) := Int.tdiv_eq_ediv_of_nonneg (by omega)
        have SH := Lib.hid (show shareF M tn cn = (prodI (wF M cn) (levsM M tn) / gcdM (prodI (wF M cn) (levsM M tn)) (prodI (aF M cn) (levsM M tn)), prodI (aF M cn) (levsM M tn) / gcdM (prodI (wF M cn) (levsM M tn)) (prodI (aF M cn) (levsM M tn))) from rfl)
        have e1 := Int.ediv_le_self (gcdM (prodI (wF M cn) (levsM M tn)) (prodI (aF M cn) (levsM M tn))) (show 0 ≤ prodI (wF M cn) (levsM M tn) by omega)
        have e2 := Int.ediv_le_self (gcdM (prodI (wF M cn) (levsM M tn)) (prodI (aF M cn) (levsM M tn))) (show 0 ≤ prodI (aF M cn) (levsM M tn) by omega)
        have e3 := Int.ediv_nonneg (show 0 ≤ prodI (wF M cn) (levsM M tn) by omega) (show 0 ≤ gcdM (prodI (wF M cn) (levsM M tn)) (prodI (aF M cn) (levsM M tn)) by omega)
        have e4 := Int.ediv_nonneg (show 0 ≤ prodI (aF M cn) (levsM M tn) by omega) (show 0 ≤ gcdM (prodI (wF M cn) (levsM M tn)) (prodI (aF M cn) (levsM M tn)) by omega)
        rw [HP.out]
        subst h0
        generalize prodI (wF M cn) (levsM M tn) = TP at *
        generalize prodI (aF M cn) (levsM M tn) = BT at *
        go_upto_region 12 with (go_at_call 49; refine (sl15Gcd_any _ _ _ (by omega) (by omega) (by omega) (by omega)).mono ?_; rintro e w' ⟨rfl, rfl⟩)
        generalize gcdM TP BT = GD at *
        go_quiet (fail)
        go_wp2
        go_ret2
        exact ⟨by rw [LN.out, SH.out]; rfl, (bel5.out.andThen hb).drewN _⟩
      · obtain ⟨hp1, hp2, hp3, hp4⟩ := FA.out.tree.up k hk HU.out h0
        have hlg : k < M.groups.length := by have := FA.out.tree.len; omega
        have hcs : cn < (grp M k).shelves.length := by rw [FA.out.gok.she k hk HU.out]; exact hcl
        have HS := Lib.hid (show levsM M tn = (pre ++ [(m, k)]) ++ levL ⟨true, k⟩ (ch M (par M k)) by rw [HLV.out, FA.out.tree.ch_step hk HU.out h0]; simp [levL])
        have HT := Lib.hid (show levsM M tn = (pre ++ [(m, k)] ++ [(⟨true, k⟩, par M k)]) ++ levL ⟨true, par M k⟩ (ch M (par M k)).tail by rw [HS.out, ch_cons M (par M k)]; simp [levL])
        obtain ⟨t0, t1⟩ := L.out.top HS.out
        obtain ⟨u0, u1⟩ := L.out.bot HS.out
        obtain ⟨t2, t3⟩ := L.out.top HT.out
        obtain ⟨u2, u3⟩ := L.out.bot HT.out
        rw [prodI_snoc] at t2 t3 u2 u3
        have HW := Lib.hid (show wF M cn (⟨true, k⟩, par M k) = (she M k cn).w from rfl)
        have HA := Lib.hid (show aF M cn (⟨true, k⟩, par M k) = weiM M (par M k) cn from rfl)
        rw [HW.out] at t2 t3
        rw [HA.out] at u2 u3
        have HP1 := Lib.hid hp1
        have HP3 := Lib.hid hp3
        have HP4 := Lib.hid hp4
        have hne2 : ((k : Int) != 0) = true := by simpa using h0
        have hj0 : (0 : Int) ≤ (k : Int) := by omega
        have hj1 : (k : Int) < (M.groups.length : Int) := by omega
        have hk0 : (0 : Int) ≤ (cn : Int) := by omega
        have hk1 : (cn : Int) < ((grp M k).shelves.length : Int) := by omega
        have PW6 := Lib.hid pw6
        obtain ⟨p0, p1, p2, p4, p5, p6⟩ := pw6
        obtain ⟨bg, og, rfl, hBg, g0, g1, g2, g3, g4, g5, g6, g7, g8, g9, g10, g11, g12, g13⟩ := p6.group_ hlg
        obtain ⟨bs, os, es, hBs, f0, f1, f2, f3, f4⟩ := p6.shelf_ hlg hcs
        rw [es] at g13
        rw [hp1] at g1
        have P6 := Lib.hid p6
        have TX := Lib.hid (rfl : prodI (wF M cn) (pre ++ [(m, k)]) = prodI (wF M cn) (pre ++ [(m, k)]))
        clear es hp1 hp3 hp4 g0 g2 g3 g4 g5 g6 g7 g8 g9 g10 g11 g12 f0 f1 f2 f4 h0
        go_upto_region 8 with (fail)
        go_quiet (fail)
        go_wp2_with (go_at_call 48; refine (sl15Weights_any ca cc _ tc _ gc gh M _ (PW6.out.keep ((Below.refl _ wr).drewN _)).wa FA.out.tree FA.out.gok (wt_of L.out.wb) (by have := FA.out.t12; omega) (par M k) cn hcl).mono ?_; rintro e w8 ⟨rfl, hb8⟩)
        go_roundw
        case rel => exact ⟨par M k, ⟨true, k⟩, pre ++ [(m, k)], hp2, HP3.out, HS.out, rfl, val_eq (by rw [prodI_snoc (wF M cn) (pre ++ [(m, k)])]; rfl), val_eq (by rw [prodI_snoc (aF M cn) (pre ++ [(m, k)])]; rfl), (hb.drewN _).andThen hb8⟩
        case measure => simp [intOf]; have := HP4.out; omega
  · have FL := Lib.hid (show lineOk M t = false by simpa only [Bool.not_eq_true] using fL)
    clear fL
    have LN := Lib.hid (show shareM M t = (0, 0) by rw [shareM, if_neg (by rw [FL.out]; simp)])
    go_wp2_with (go_at_call 46; refine (sLine_any ca cc ta tc ga gc gh M _ q5 hF _).mono ?_; rintro e w2 ⟨rfl, hb2⟩; rw [FL.out]; have r1 := (hb2.cell (p := ⟨w.heap.size, 0, none⟩) q0).trans q1; have r2 := (hb2.cell (p := ⟨w.heap.size, 1, none⟩) q0).trans q2; have r3 := (hb2.cell (p := ⟨w.heap.size, 2, none⟩) q0).trans q3; have r4 := (hb2.cell (p := ⟨w.heap.size, 3, none⟩) q0).trans q4; have r0 := Nat.lt_of_lt_of_le q0 hb2.size)
    go_ret2
    exact ⟨by rw [LN.out]; rfl, b1.andThen hb2⟩
/-- how far what a task gets may be off -/
def apartM (M : WorldM) (t : Int) : Int := if lineOk M t = true then sumI (bF M (tsk M t.toNat).cpu.toNat) (levsM M t.toNat) else 0
set_option maxRecDepth 100000 in
set_option maxHeartbeats 4000000 in
theorem sTaskApart_any (ca : Option Addr) (cc : Nat) (ta : Option Addr) (tc : Nat) (ga : Option Addr) (gc : Nat) (gh : Nat → GH) (M : WorldM) (w : World) (hs : WA w ca ta ga gh M) (hF : FitG M) (t : Int) :
    Calls Tryz.prog 20 #[.agg #[.int .i64 M.now, .slice ca M.cpus.length cc, .slice ta M.tasks.length tc, .slice ga M.groups.length gc], .int .i64 t] w fun e w' => e = .returned (.int .i64 (apartM M t)) ∧ Below w.heap.size w w' := by
  go_enter Tryz.func20, Tryz.ntmps20
  go_upto_region 1 with (fail)
  refine PA.gen (P := fun W => Code.wp _ _ _ _ W) hs ?_
  intro W b1 s1 pw
  have hcm := hF.cpu
  have htm := hF.task
  have hgm := hF.group
  have PW0 := Lib.hid pw
  obtain ⟨q0, q1, q2, q3, q4, q5⟩ := pw
  clear s1
  by_cases fL : lineOk M t = true
  · have FL := Lib.hid fL
    clear fL
    have hin := FL.out
    simp only [lineOk, taskIn, Bool.and_eq_true, inR_iff, Bool.not_eq_true', beq_eq_false_iff_ne] at hin
    obtain ⟨tn, htn⟩ : ∃ tn : Nat, t = tn := ⟨t.toNat, by omega⟩
    subst htn
    rw [Int.toNat_natCast] at hin
    have htl : tn < M.tasks.length := by omega
    obtain ⟨F1', ⟨_, hst0⟩, hli⟩ := hin
    have FA := Lib.hid (facts_of F1')
    obtain ⟨gn, cn, hgr, hg8, hgu, hcu, hcl⟩ := FA.out.tk tn (by have := FA.out.t12; omega) hst0
    have HGR := Lib.hid hgr
    have HCU := Lib.hid hcu
    have HGU := Lib.hid hgu
    have L := Lib.hid (lv_of F1' htl hli hgr hg8 hgu hcu hcl)
    have LE := Lib.hid (show levsM M tn = levL ⟨false, tn⟩ (ch M gn) by rw [levsM, hgr, Int.toNat_natCast])
    clear hst0 hgr hgu hcu hli F1'
    have LN := Lib.hid (show apartM M tn = sumI (bF M cn) (levsM M tn) by rw [apartM, if_pos FL.out, Int.toNat_natCast, HCU.out, Int.toNat_natCast])
    have ht12 := Lib.hid (show M.tasks.length ≤ 12 by have := FA.out.t12; omega)
    obtain ⟨b, o, rfl, hB, c0, c1, c2, c3, c4, c5, c6, c7, c8⟩ := q5.task_ htl
    rw [HGR.out] at c1
    rw [HCU.out] at c2
    have hi0 : (0 : Int) ≤ (tn : Int) := by omega
    have hi1 : (tn : Int) < (M.tasks.length : Int) := by omega
    go_upto_region 3 with (go_at_call 46; refine (sLine_any ca cc _ tc ga gc gh M _ q5 hF _).mono ?_; rintro e w2 ⟨rfl, hb2⟩; rw [FL.out]; have r1 := (hb2.cell (p := ⟨w.heap.size, 0, none⟩) q0).trans q1; have r2 := (hb2.cell (p := ⟨w.heap.size, 1, none⟩) q0).trans q2; have r3 := (hb2.cell (p := ⟨w.heap.size, 2, none⟩) q0).trans q3; have r4 := (hb2.cell (p := ⟨w.heap.size, 3, none⟩) q0).trans q4; have r0 := Nat.lt_of_lt_of_le q0 hb2.size)
    have d0 := (hb2.cell (p := ⟨b, o + tn * 9, none⟩) hB).trans c0
    have d1 := (hb2.cell (p := ⟨b, o + tn * 9 + 1, none⟩) hB).trans c1
    have d2 := (hb2.cell (p := ⟨b, o + tn * 9 + 2, none⟩) hB).trans c2
    have d3 := (hb2.cell (p := ⟨b, o + tn * 9 + 3, none⟩) hB).trans c3
    have d4 := (hb2.cell (p := ⟨b, o + tn * 9 + 4, none⟩) hB).trans c4
    have d5 := (hb2.cell (p := ⟨b, o + tn * 9 + 5, none⟩) hB).trans c5
    have d6 := (hb2.cell (p := ⟨b, o + tn * 9 + 6, none⟩) hB).trans c6
    have d7 := (hb2.cell (p := ⟨b, o + tn * 9 + 7, none⟩) hB).trans c7
    have d8 := (hb2.cell (p := ⟨b, o + tn * 9 + 8, none⟩) hB).trans c8
    have hB3 := Nat.lt_of_lt_of_le hB hb2.size
    go_upto_region 4 with (fail)
    refine gen1 (p := fun W => Code.wp _ _ _ _ W) ?_
    intro W4 b4 s4 kx
    have x1 := kx.cell 1
    have x2 := kx.cell 2
    have x3 := kx.cell 3
    have x5 := kx.cell 5
    simp at x1 x2 x3 x5
    have hx := kx.lt
    have pw4 := PW0.out.keep (hb2.andThen b4)
    have bel := Lib.hid (b1.andThen (hb2.andThen b4))
    clear kx c0 c1 c2 c3 c4 c5 c6 c7 c8 d0 d1 d2 d3 d4 d5 d6 d7 d8 q0 q1 q2 q3 q4 q5 r0 r1 r2 r3 r4 hi0 hi1 hB3 hB hs
    have hm0 : (⟨false, tn⟩, gn) ∈ levsM M tn := by rw [LE.out, ch_cons]; simp [levL]
    have L0 := Lib.hid (show 1 ≤ wof (tsk M tn).nice ∧ wof (tsk M tn).nice ≤ 20 ∧ wof (tsk M tn).nice ≤ weiM M gn cn ∧ 1 ≤ weiM M gn cn ∧ weiM M gn cn ≤ 400 ∧ 1 ≤ cntM M gn cn ∧ cntM M gn cn ≤ 20 from ⟨(L.out.w hm0).1, (L.out.w hm0).2, L.out.wa hm0, (L.out.a hm0).1, (L.out.a hm0).2, (L.out.n hm0).1, (L.out.n hm0).2⟩)
    have hBO := Lib.hid (show besM (wof (tsk M tn).nice) (weiM M gn cn) (cntM M gn cn) = sumI (bF M cn) [(⟨false, tn⟩, gn)] by simp [sumI, bF, wF, aF, memW])
    have PW4 := Lib.hid pw4
    go_upto_region 5 with (fail)
    have p3 := pw4
    obtain ⟨p0, p1, p2, p4, p5, p6⟩ := p3
    have Q0 := fun d os => cell_regrown p1 d os
    have Q1 := fun d os => cell_regrown p2 d os
    have Q2 := fun d os => cell_regrown p4 d os
    have Q3 := fun d os => cell_regrown p5 d os
    have X2 := fun d os => cell_regrown x2 d os
    have X3 := fun d os => cell_regrown x3 d os
    clear p0 p1 p2 p4 p5 p6 hm0
    refine wp_region_quiet_below (by kernel_rfl) (by kernel_rfl) ?_
    repeat (go_big_quiet_step (first | (go_at_call 47; exact regrown_left (sWeightOf_any _ _)) | (go_at_call 48; exact Calls.regrown_of (sl15Weights_any ca cc _ tc ga gc gh M _ (PW4.out.keep (below_regrown _ _ _)).wa FA.out.tree FA.out.gok (wt_of L.out.wb) ht12.out gn cn hcl)) | (go_at_call 55; exact Calls.regrown_of (sl15Many_any ca cc _ tc ga gc gh M _ (PW4.out.keep (below_regrown _ _ _)).wa FA.out.tree FA.out.gok ht12.out gn cn hcl)) | (go_at_call 54; exact regrown_left (sl15Beside_any _ _ _ _ (by have := L0.out; omega) (by have := L0.out; omega) (by have := L0.out; omega) (by have := L0.out; omega) (by have := L0.out; omega) (by have := L0.out; omega) (by have := L0.out; omega)))))
    refine wpQuiet_nil ?_
    intro _ hw'
    obtain ⟨⟨dq, osq⟩, hw''⟩ := hw'
    subst hw''
    have hb5 := below_regrown W4 dq osq
    generalize grow (redrawn W4 dq) osq = w5 at *
    have x2 := (hb5.cell (p := ⟨w2.heap.size, 2, none⟩) hx).trans x2
    have hx := Nat.lt_of_lt_of_le hx hb5.size
    have pw5 := pw4.keep hb5
    have bel5 := Lib.hid (bel.out.andThen hb5)
    clear Q0 Q1 Q2 Q3 X2 X3 x1 x3 x5 pw4 PW4
    go_wp2
    go_loopw [6, 7] (fun g nn wr => ∃ (k : Nat) (m : Mem) (pre : List (Mem × Nat)), k < 8 ∧ (grp M k).used = true ∧ levsM M tn = pre ++ levL m (ch M k) ∧ g = .int .i64 k ∧ nn = .int .i64 (sumI (bF M cn) (pre ++ [(m, k)])) ∧ Below w5.heap.size w5 wr) (fun g _ _ => dp M (intOf g).toNat)
    case atStart => exact ⟨gn, ⟨false, tn⟩, [], hg8, HGU.out, by rw [LE.out]; rfl, rfl, val_eq hBO.out, Below.refl _ _⟩
    case round =>
      obtain ⟨k, m, pre, hk, huk, hlv, rfl, rfl, hb⟩ := hrel
      have HU := Lib.hid huk
      have HLV := Lib.hid hlv
      clear huk hlv
      have y2 := (hb.cell (p := ⟨w2.heap.size, 2, none⟩) hx).trans x2
      have hy := Nat.lt_of_lt_of_le hx hb.size
      have pw6 := pw5.keep hb
      by_cases h0 : k = 0
      · have HP := Lib.hid (show pre ++ [(m, k)] = levsM M tn by rw [HLV.out, h0, ch_zero]; rfl)
        have SH := Lib.hid (show sumI (bF M cn) (pre ++ [(m, k)]) = apartM M tn by rw [HP.out, LN.out])
        subst h0
        go_wp2
        go_ret
        exact ⟨by first | rfl | (rw [SH.out]; rfl), bel5.out.andThen hb⟩
      · obtain ⟨hp1, hp2, hp3, hp4⟩ := FA.out.tree.up k hk HU.out h0
        have hlg : k < M.groups.length := by have := FA.out.tree.len; omega
        have hcs : cn < (grp M k).shelves.length := by rw [FA.out.gok.she k hk HU.out]; exact hcl
        have HS := Lib.hid (show levsM M tn = (pre ++ [(m, k)]) ++ levL ⟨true, k⟩ (ch M (par M k)) by rw [HLV.out, FA.out.tree.ch_step hk HU.out h0]; simp [levL])
        have HT := Lib.hid (show levsM M tn = (pre ++ [(m, k)] ++ [(⟨true, k⟩, par M k)]) ++ levL ⟨true, par M k⟩ (ch M (par M k)).tail by rw [HS.out, ch_cons M (par M k)]; simp [levL])
        obtain ⟨t0, t1⟩ := L.out.far HS.out
        obtain ⟨t2, t3⟩ := L.out.far HT.out
        rw [sumI_snoc] at t2 t3
        have hm1 : (⟨true, k⟩, par M k) ∈ levsM M tn := by rw [HT.out]; simp
        have L1 := Lib.hid (show 1 ≤ (she M k cn).w ∧ (she M k cn).w ≤ 20 ∧ (she M k cn).w ≤ weiM M (par M k) cn ∧ 1 ≤ weiM M (par M k) cn ∧ weiM M (par M k) cn ≤ 400 ∧ 1 ≤ cntM M (par M k) cn ∧ cntM M (par M k) cn ≤ 20 from ⟨(L.out.w hm1).1, (L.out.w hm1).2, L.out.wa hm1, (L.out.a hm1).1, (L.out.a hm1).2, (L.out.n hm1).1, (L.out.n hm1).2⟩)
        have HW := Lib.hid (show bF M cn (⟨true, k⟩, par M k) = besM (she M k cn).w (weiM M (par M k) cn) (cntM M (par M k) cn) from rfl)
        rw [HW.out] at t2 t3
        have HP1 := Lib.hid hp1
        have HP3 := Lib.hid hp3
        have HP4 := Lib.hid hp4
        have hne2 : ((k : Int) != 0) = true := by simpa using h0
        have hj0 : (0 : Int) ≤ (k : Int) := by omega
        have hj1 : (k : Int) < (M.groups.length : Int) := by omega
        have hk0 : (0 : Int) ≤ (cn : Int) := by omega
        have hk1 : (cn : Int) < ((grp M k).shelves.length : Int) := by omega
        have PW6 := Lib.hid pw6
        obtain ⟨p0, p1, p2, p4, p5, p6⟩ := pw6
        obtain ⟨bg, og, rfl, hBg, g0, g1, g2, g3, g4, g5, g6, g7, g8, g9, g10, g11, g12, g13⟩ := p6.group_ hlg
        obtain ⟨bs, os, es, hBs, f0, f1, f2, f3, f4⟩ := p6.shelf_ hlg hcs
        rw [es] at g13
        rw [hp1] at g1
        clear es hp1 hp3 hp4 g0 g2 g3 g4 g5 g6 g7 g8 g9 g10 g11 g12 f0 f1 f2 f4 h0 hm1
        go_upto_region 7 with (fail)
        go_quiet (fail)
        go_upto_region 9 with (fail)
        rename_i nq
        have bd : Below wr.heap.size wr (wr.drewN nq) := (Below.refl _ _).drewN _
        have PW7 := Lib.hid (PW6.out.keep bd)
        have Y2 := fun d os => cell_regrown ((bd.cell (p := ⟨w2.heap.size, 2, none⟩) hy).trans y2) d os
        have P1 := fun d os => cell_regrown ((bd.cell (p := ⟨w.heap.size, 0, none⟩) p0).trans p1) d os
        have P2 := fun d os => cell_regrown ((bd.cell (p := ⟨w.heap.size, 1, none⟩) p0).trans p2) d os
        have P4 := fun d os => cell_regrown ((bd.cell (p := ⟨w.heap.size, 2, none⟩) p0).trans p4) d os
        have P5 := fun d os => cell_regrown ((bd.cell (p := ⟨w.heap.size, 3, none⟩) p0).trans p5) d os
        have HBb := Lib.hid hb
        clear p0 p1 p2 p4 p5 p6 g1 g13 f3 y2
        refine wp_region_quiet_below (by kernel_rfl) (by kernel_rfl) ?_
        repeat (go_big_quiet_step (first | (go_at_call 48; exact Calls.regrown_of (sl15Weights_any ca cc _ tc _ gc gh M _ (PW7.out.keep (below_regrown _ _ _)).wa FA.out.tree FA.out.gok (wt_of L.out.wb) ht12.out (par M k) cn hcl)) | (go_at_call 55; exact Calls.regrown_of (sl15Many_any ca cc _ tc _ gc gh M _ (PW7.out.keep (below_regrown _ _ _)).wa FA.out.tree FA.out.gok ht12.out (par M k) cn hcl)) | (go_at_call 54; exact regrown_left (sl15Beside_any _ _ _ _ (by have := L1.out; omega) (by have := L1.out; omega) (by have := L1.out; omega) (by have := L1.out; omega) (by have := L1.out; omega) (by have := L1.out; omega) (by have := L1.out; omega)))))
        refine wpQuiet_nil ?_
        intro _ hw'
        obtain ⟨⟨dq, osq⟩, hw''⟩ := hw'
        subst hw''
        have hb8 := below_regrown (wr.drewN nq) dq osq
        generalize grow (redrawn (wr.drewN nq) dq) osq = w8 at *
        go_wp2
        go_roundw
        case rel => exact ⟨par M k, ⟨true, k⟩, pre ++ [(m, k)], hp2, HP3.out, HS.out, rfl, val_eq (by rw [sumI_snoc (bF M cn) (pre ++ [(m, k)])]; rfl), (HBb.out.andThen bd).andThen hb8⟩
        case measure => simp [intOf]; have := HP4.out; omega
  · have FL := Lib.hid (show lineOk M t = false by simpa only [Bool.not_eq_true] using fL)
    clear fL
    have LN := Lib.hid (show apartM M t = 0 by rw [apartM, if_neg (by rw [FL.out]; simp)])
    go_wp2_with (go_at_call 46; refine (sLine_any ca cc ta tc ga gc gh M _ q5 hF _).mono ?_; rintro e w2 ⟨rfl, hb2⟩; rw [FL.out]; have r1 := (hb2.cell (p := ⟨w.heap.size, 0, none⟩) q0).trans q1; have r2 := (hb2.cell (p := ⟨w.heap.size, 1, none⟩) q0).trans q2; have r3 := (hb2.cell (p := ⟨w.heap.size, 2, none⟩) q0).trans q3; have r4 := (hb2.cell (p := ⟨w.heap.size, 3, none⟩) q0).trans q4; have r0 := Nat.lt_of_lt_of_le q0 hb2.size)
    go_ret
    exact ⟨by rw [LN.out]; rfl, b1.andThen hb2⟩
end Go.Proofs.YtccjanpdgdonmaaGreat
