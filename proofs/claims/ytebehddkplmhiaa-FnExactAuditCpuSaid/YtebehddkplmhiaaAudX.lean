/- The walks of the audits: the program's and the reference's. -/
import Derived.Test.YtebehddkplmhiaaAudW
namespace Go.Proofs.Ytebehddkplmhiaa
open Go.RowKit
set_option maxHeartbeats 400000 in
theorem AuditCpu1_any (x : Ch) (g : Nat) (cpu : Int) (w : World) (hc : w.cell? ⟨g, 0, none⟩ = some (.int .i64 cpu)) :
    Calls Try.prog 21 #[.agg #[.int .i64 x.n, .int .i64 x.c, .int .i64 x.t, .int .i64 x.i, .int .i64 x.k], .pointer (some ⟨g, 0, none⟩)] w fun e w' => e = .returned (.bool (x.c == cpu)) ∧ Below w.heap.size w w' := by
  have hg := World.block_lt_of_cell? _ _ hc
  go_enter Try.func21, Try.ntmps21
  go_wp2
  go_ret
  exact ⟨rfl, (Below.refl _ _).alloc (Nat.le_refl _) _⟩
set_option maxHeartbeats 400000 in
theorem AuditCpu_any (A : Option Addr) (cap : Nat) (L : List Ch) (cpu : Int) (w : World) (hl : L.length ≤ 9223372036854775807) (hs : ChS w A L) :
    Calls Try.prog 10 #[.slice A L.length cap, .int .i64 cpu] w fun e w' => e = .returned (.int .i64 (auN (fun x => x.c == cpu) L)) ∧ Below w.heap.size w w' := by
  go_enter Try.func10, Try.ntmps10
  go_wp2_with fail
  refine (audit_any 21 _ (fun x => x.c == cpu) _ _ L _ hl ?_ ?_ ?_).mono ?_
  · exact hs.below ((Below.refl _ _).alloc (Nat.le_refl _) _)
  · intro args u; kernel_rfl
  · intro x wa hba
    exact AuditCpu1_any x _ cpu wa ((hba.cell (by simp)).trans (by simp [World.cell?_alloc_at]))
  · rintro e w1 ⟨rfl, hb⟩
    go_wp2
    go_ret
    exact ⟨rfl, ((Below.refl _ _).alloc (Nat.le_refl _) _).andThen hb⟩
set_option maxHeartbeats 400000 in
theorem AuditTask1_any (x : Ch) (g : Nat) (cpu : Int) (w : World) (hc : w.cell? ⟨g, 0, none⟩ = some (.int .i64 cpu)) :
    Calls Try.prog 23 #[.agg #[.int .i64 x.n, .int .i64 x.c, .int .i64 x.t, .int .i64 x.i, .int .i64 x.k], .pointer (some ⟨g, 0, none⟩)] w fun e w' => e = .returned (.bool (x.t == cpu)) ∧ Below w.heap.size w w' := by
  have hg := World.block_lt_of_cell? _ _ hc
  go_enter Try.func23, Try.ntmps23
  go_wp2
  go_ret
  exact ⟨rfl, (Below.refl _ _).alloc (Nat.le_refl _) _⟩
set_option maxHeartbeats 400000 in
theorem AuditTask_any (A : Option Addr) (cap : Nat) (L : List Ch) (cpu : Int) (w : World) (hl : L.length ≤ 9223372036854775807) (hs : ChS w A L) :
    Calls Try.prog 13 #[.slice A L.length cap, .int .i64 cpu] w fun e w' => e = .returned (.int .i64 (auN (fun x => x.t == cpu) L)) ∧ Below w.heap.size w w' := by
  go_enter Try.func13, Try.ntmps13
  go_wp2_with fail
  refine (audit_any 23 _ (fun x => x.t == cpu) _ _ L _ hl ?_ ?_ ?_).mono ?_
  · exact hs.below ((Below.refl _ _).alloc (Nat.le_refl _) _)
  · intro args u; kernel_rfl
  · intro x wa hba
    exact AuditTask1_any x _ cpu wa ((hba.cell (by simp)).trans (by simp [World.cell?_alloc_at]))
  · rintro e w1 ⟨rfl, hb⟩
    go_wp2
    go_ret
    exact ⟨rfl, ((Below.refl _ _).alloc (Nat.le_refl _) _).andThen hb⟩
def grA (gr : Int) (x : Ch) : Bool := bits BinOp.and IntKind.i64 (x.i / 2 ^ gr.toNat) 1 == 1
def grB (gr : Int) (x : Ch) : Bool := x.i / 2 ^ gr.toNat % 2 == 1
theorem ofInt_i64 (a : Nat) (ha : a < 9223372036854775808) : (BitVec.ofInt 64 (a : Int)).toNat = a := by
  rw [BitVec.ofInt_natCast, BitVec.toNat_ofNat]; exact Nat.mod_eq_of_lt (by omega)
theorem i64_and_nat (a b : Nat) (ha : a < 9223372036854775808) (hb : b < 9223372036854775808) : bits .and .i64 (a : Int) (b : Int) = ((a &&& b : Nat) : Int) := by
  have hx : a &&& b < 2 ^ 63 := Nat.and_lt_two_pow _ (by omega)
  show IntKind.i64.wrap ((BitVec.ofInt 64 (a : Int) &&& BitVec.ofInt 64 (b : Int)).toNat : Int) = _
  rw [BitVec.toNat_and, ofInt_i64 a ha, ofInt_i64 b hb, IntKind.wrap_i64]
  omega
theorem grA_eq (gr : Int) (x : Ch) (h : chOk x = true) : grA gr x = grB gr x := by
  simp only [chOk, Bool.and_eq_true, inR_iff] at h
  obtain ⟨⟨⟨⟨_, _⟩, _⟩, hi, hi2⟩, _⟩ := h
  obtain ⟨n, hn⟩ := Int.eq_ofNat_of_zero_le hi
  have e : (n : Int) / 2 ^ gr.toNat = ((n / 2 ^ gr.toNat : Nat) : Int) := by simp
  have hle : n / 2 ^ gr.toNat ≤ n := Nat.div_le_self _ _
  unfold grA grB
  rw [hn, e, show (1 : Int) = ((1 : Nat) : Int) from rfl, i64_and_nat _ _ (by omega) (by omega), Nat.and_one_is_mod]
  simp
theorem grB_tmod {gr : Int} {x : Ch} (h : 0 ≤ x.i) : ((x.i / 2 ^ gr.toNat).tmod 2 == 1) = grB gr x := by
  have h2 : (0 : Int) ≤ 2 ^ gr.toNat := Int.pow_nonneg (by omega)
  unfold grB
  rw [Int.tmod_eq_emod_of_nonneg (Int.ediv_nonneg h h2)]
theorem auS_congr {p q : Ch → Bool} {L : List Ch} (h : ∀ x ∈ L, p x = q x) : auS p L = auS q L := by
  unfold auS
  congr 1
  exact List.map_congr_left fun x hx => by rw [h x hx]
theorem auN_congr {p q : Ch → Bool} {L : List Ch} (h : ∀ x, chOk x = true → p x = q x) : auN p L = auN q L := by
  unfold auN
  split
  · rename_i h1
    simp only [Bool.and_eq_true, List.all_eq_true] at h1
    exact auS_congr fun x hx => h x (h1.2 x hx)
  · rfl
/-- the audit of a group -/
def auG (gr : Int) (L : List Ch) : Int := if inR gr 0 7 then auN (grB gr) L else 0
set_option maxHeartbeats 400000 in
theorem AuditGroup1_any (x : Ch) (g : Nat) (gr : Int) (w : World) (hc : w.cell? ⟨g, 0, none⟩ = some (.int .i64 gr)) (h0 : 0 ≤ gr) (h7 : gr ≤ 7) :
    Calls Try.prog 26 #[.agg #[.int .i64 x.n, .int .i64 x.c, .int .i64 x.t, .int .i64 x.i, .int .i64 x.k], .pointer (some ⟨g, 0, none⟩)] w fun e w' => e = .returned (.bool (grA gr x)) ∧ Below w.heap.size w w' := by
  have hg := World.block_lt_of_cell? _ _ hc
  go_enter Try.func26, Try.ntmps26
  go_wp2
  go_ret
  exact ⟨rfl, (Below.refl _ _).alloc (Nat.le_refl _) _⟩
set_option maxHeartbeats 400000 in
theorem AuditGroup_any (A : Option Addr) (cap : Nat) (L : List Ch) (gr : Int) (w : World) (hl : L.length ≤ 9223372036854775807) (hs : ChS w A L) :
    Calls Try.prog 15 #[.slice A L.length cap, .int .i64 gr] w fun e w' => e = .returned (.int .i64 (auG gr L)) ∧ Below w.heap.size w w' := by
  by_cases hin : inR gr 0 7 = true
  · have EN := Lib.hid (show auG gr L = auN (grA gr) L by rw [auG, if_pos hin]; exact (auN_congr (grA_eq gr)).symm)
    have hgr := inR_iff.1 hin
    go_enter Try.func15, Try.ntmps15
    go_wp2_with (go_at_call 25; refine (inRange_any _ _ _ _).mono ?_; rintro e w' ⟨rfl, rfl⟩; rw [hin])
    refine (audit_any 26 _ (grA gr) _ _ L _ hl ?_ ?_ ?_).mono ?_
    · exact hs.below ((Below.refl _ _).alloc (Nat.le_refl _) _)
    · intro args u; kernel_rfl
    · intro x wa hba
      exact AuditGroup1_any x _ gr wa ((hba.cell (by simp)).trans (by simp [World.cell?_alloc_at])) hgr.1 hgr.2
    · rintro e w1 ⟨rfl, hb⟩
      go_wp2
      go_ret
      exact ⟨ret_int EN.out.symm, ((Below.refl _ _).alloc (Nat.le_refl _) _).andThen hb⟩
  · have EN := Lib.hid (show auG gr L = 0 by rw [auG, if_neg hin])
    have hin' : inR gr 0 7 = false := by simpa using hin
    go_enter Try.func15, Try.ntmps15
    go_wp2_with (go_at_call 25; refine (inRange_any _ _ _ _).mono ?_; rintro e w' ⟨rfl, rfl⟩; rw [hin'])
    go_ret
    exact ⟨ret_int EN.out.symm, (Below.refl _ _).alloc (Nat.le_refl _) _⟩
set_option maxHeartbeats 400000 in
theorem sAuditCpu_any (A : Option Addr) (cap : Nat) (L : List Ch) (cpu : Int) (w : World) (hl : L.length ≤ 9223372036854775807) (hs : ChS w A L) :
    Calls Try.prog 8 #[.slice A L.length cap, .int .i64 cpu] w fun e w' => e = .returned (.int .i64 (auN (fun x => x.c == cpu) L)) ∧ Below w.heap.size w w' := by
  by_cases hok : (decide (L.length ≤ 40000) && L.all chOk) = true
  · have EN := Lib.hid (show auN (fun x => x.c == cpu) L = auS (fun x => x.c == cpu) L by rw [auN, if_pos hok])
    have hok' : L.length ≤ 40000 ∧ L.all chOk = true := by simpa using hok
    obtain ⟨h4, hall⟩ := hok'
    have HA := Lib.hid hall
    clear hall
    go_enter Try.func8, Try.ntmps8
    go_wp2_with (go_at_call 18; refine (l17All_any _ _ L _ hl hs).mono ?_; rintro e w1 ⟨rfl, hb0⟩; rw [hok])
    go_loopw [5, 6] (fun r i wr => ∃ k : Nat, k ≤ L.length ∧ i = .int .i64 k ∧ r = .int .i64 (auS (fun x => x.c == cpu) (L.take k)) ∧ Below w.heap.size w wr) (fun _ i _ => L.length - (intOf i).toNat)
    case atStart => exact ⟨0, Nat.zero_le _, rfl, rfl, hb0⟩
    case round =>
      obtain ⟨k, hk, rfl, rfl, hb⟩ := hrel
      by_cases hlt : k < L.length
      · obtain ⟨b, o, rfl, hB, c0, c1, c2, c3, c4⟩ := (hs.below hb).at_ k hlt
        have hbd := auS_bd (fun x => x.c == cpu) (L.take k) (by rw [List.all_eq_true]; intro x hx; exact List.all_eq_true.1 HA.out x (List.mem_of_mem_take hx))
        rw [List.length_take_of_le hk] at hbd
        have hk1 : 1 ≤ L[k].k ∧ L[k].k ≤ 40000 := by
          have := List.all_eq_true.1 HA.out L[k] (List.getElem_mem _)
          simp only [chOk, Bool.and_eq_true, inR_iff] at this
          exact this.2
        have hsn := Lib.hid (auS_snoc (fun x => x.c == cpu) (L.take k) L[k])
        rw [← take_snoc hlt] at hsn
        go_wp2
        · have hp : (L[k].c == cpu) = true := by assumption
          go_roundw
          case rel => exact ⟨k + 1, by omega, by go_num, by rw [hsn.out, hp]; rfl, hb⟩
          case measure => simp [intOf]; omega
        · have hp : (L[k].c == cpu) = false := by assumption
          go_roundw
          case rel => exact ⟨k + 1, by omega, by go_num, by rw [hsn.out, hp]; simp, hb⟩
          case measure => simp [intOf]; omega
      · go_wp2
        go_ret
        rw [List.take_of_length_le (by omega)]
        exact ⟨ret_int EN.out.symm, hb⟩
  · have EN := Lib.hid (show auN (fun x => x.c == cpu) L = 0 by rw [auN, if_neg hok])
    have hok' : (decide (L.length ≤ 40000) && L.all chOk) = false := by simpa using hok
    go_enter Try.func8, Try.ntmps8
    go_wp2_with (go_at_call 18; refine (l17All_any _ _ L _ hl hs).mono ?_; rintro e w1 ⟨rfl, hb0⟩; rw [hok'])
    go_ret
    exact ⟨ret_int EN.out.symm, hb0⟩
set_option maxHeartbeats 400000 in
theorem sAuditTask_any (A : Option Addr) (cap : Nat) (L : List Ch) (cpu : Int) (w : World) (hl : L.length ≤ 9223372036854775807) (hs : ChS w A L) :
    Calls Try.prog 12 #[.slice A L.length cap, .int .i64 cpu] w fun e w' => e = .returned (.int .i64 (auN (fun x => x.t == cpu) L)) ∧ Below w.heap.size w w' := by
  by_cases hok : (decide (L.length ≤ 40000) && L.all chOk) = true
  · have EN := Lib.hid (show auN (fun x => x.t == cpu) L = auS (fun x => x.t == cpu) L by rw [auN, if_pos hok])
    have hok' : L.length ≤ 40000 ∧ L.all chOk = true := by simpa using hok
    obtain ⟨h4, hall⟩ := hok'
    have HA := Lib.hid hall
    clear hall
    go_enter Try.func12, Try.ntmps12
    go_wp2_with (go_at_call 18; refine (l17All_any _ _ L _ hl hs).mono ?_; rintro e w1 ⟨rfl, hb0⟩; rw [hok])
    go_loopw [5, 6] (fun r i wr => ∃ k : Nat, k ≤ L.length ∧ i = .int .i64 k ∧ r = .int .i64 (auS (fun x => x.t == cpu) (L.take k)) ∧ Below w.heap.size w wr) (fun _ i _ => L.length - (intOf i).toNat)
    case atStart => exact ⟨0, Nat.zero_le _, rfl, rfl, hb0⟩
    case round =>
      obtain ⟨k, hk, rfl, rfl, hb⟩ := hrel
      by_cases hlt : k < L.length
      · obtain ⟨b, o, rfl, hB, c0, c1, c2, c3, c4⟩ := (hs.below hb).at_ k hlt
        have hbd := auS_bd (fun x => x.t == cpu) (L.take k) (by rw [List.all_eq_true]; intro x hx; exact List.all_eq_true.1 HA.out x (List.mem_of_mem_take hx))
        rw [List.length_take_of_le hk] at hbd
        have hk1 : 1 ≤ L[k].k ∧ L[k].k ≤ 40000 := by
          have := List.all_eq_true.1 HA.out L[k] (List.getElem_mem _)
          simp only [chOk, Bool.and_eq_true, inR_iff] at this
          exact this.2
        have hsn := Lib.hid (auS_snoc (fun x => x.t == cpu) (L.take k) L[k])
        rw [← take_snoc hlt] at hsn
        go_wp2
        · have hp : (L[k].t == cpu) = true := by assumption
          go_roundw
          case rel => exact ⟨k + 1, by omega, by go_num, by rw [hsn.out, hp]; rfl, hb⟩
          case measure => simp [intOf]; omega
        · have hp : (L[k].t == cpu) = false := by assumption
          go_roundw
          case rel => exact ⟨k + 1, by omega, by go_num, by rw [hsn.out, hp]; simp, hb⟩
          case measure => simp [intOf]; omega
      · go_wp2
        go_ret
        rw [List.take_of_length_le (by omega)]
        exact ⟨ret_int EN.out.symm, hb⟩
  · have EN := Lib.hid (show auN (fun x => x.t == cpu) L = 0 by rw [auN, if_neg hok])
    have hok' : (decide (L.length ≤ 40000) && L.all chOk) = false := by simpa using hok
    go_enter Try.func12, Try.ntmps12
    go_wp2_with (go_at_call 18; refine (l17All_any _ _ L _ hl hs).mono ?_; rintro e w1 ⟨rfl, hb0⟩; rw [hok'])
    go_ret
    exact ⟨ret_int EN.out.symm, hb0⟩
set_option maxHeartbeats 400000 in
theorem sAuditGroup_any (A : Option Addr) (cap : Nat) (L : List Ch) (gr : Int) (w : World) (hl : L.length ≤ 9223372036854775807) (hs : ChS w A L) :
    Calls Try.prog 14 #[.slice A L.length cap, .int .i64 gr] w fun e w' => e = .returned (.int .i64 (auG gr L)) ∧ Below w.heap.size w w' := by
  by_cases hin : inR gr 0 7 = true
  by_cases hok : (decide (L.length ≤ 40000) && L.all chOk) = true
  · have EN := Lib.hid (show auG gr L = auS (grB gr) L by rw [auG, if_pos hin, auN, if_pos hok])
    have hok' : L.length ≤ 40000 ∧ L.all chOk = true := by simpa using hok
    obtain ⟨h4, hall⟩ := hok'
    have HA := Lib.hid hall
    clear hall
    have hgr := inR_iff.1 hin
    go_enter Try.func14, Try.ntmps14
    go_wp2_with (first | (go_at_call 18; refine (l17All_any _ _ L _ hl hs).mono ?_; rintro e w1 ⟨rfl, hb0⟩; rw [hok]) | (go_at_call 24; refine (l1In_any _ _ _ _).mono ?_; rintro e w2 ⟨rfl, rfl⟩; rw [hin]))
    go_loopw [5, 6] (fun r i wr => ∃ k : Nat, k ≤ L.length ∧ i = .int .i64 k ∧ r = .int .i64 (auS (grB gr) (L.take k)) ∧ Below w.heap.size w wr) (fun _ i _ => L.length - (intOf i).toNat)
    case atStart => exact ⟨0, Nat.zero_le _, rfl, rfl, hb0⟩
    case round =>
      obtain ⟨k, hk, rfl, rfl, hb⟩ := hrel
      by_cases hlt : k < L.length
      · obtain ⟨b, o, rfl, hB, c0, c1, c2, c3, c4⟩ := (hs.below hb).at_ k hlt
        have hbd := auS_bd (grB gr) (L.take k) (by rw [List.all_eq_true]; intro x hx; exact List.all_eq_true.1 HA.out x (List.mem_of_mem_take hx))
        rw [List.length_take_of_le hk] at hbd
        have hk1 : 1 ≤ L[k].k ∧ L[k].k ≤ 40000 := by
          have := List.all_eq_true.1 HA.out L[k] (List.getElem_mem _)
          simp only [chOk, Bool.and_eq_true, inR_iff] at this
          exact this.2
        have hsn := Lib.hid (auS_snoc (grB gr) (L.take k) L[k])
        rw [← take_snoc hlt] at hsn
        have hi : 0 ≤ L[k].i ∧ L[k].i ≤ 255 := by
          have := List.all_eq_true.1 HA.out L[k] (List.getElem_mem _)
          simp only [chOk, Bool.and_eq_true, inR_iff] at this
          exact this.1.2
        obtain ⟨hi0, hi1⟩ := hi
        obtain ⟨hg0, hg1⟩ := hgr
        go_wp2
        · have hp : ((L[k].i / 2 ^ gr.toNat).tmod 2 == 1) = true := by assumption
          rw [grB_tmod hi0] at hp
          go_roundw
          case rel => exact ⟨k + 1, by omega, by go_num, by rw [hsn.out, hp]; rfl, hb⟩
          case measure => simp [intOf]; omega
        · have hp : ((L[k].i / 2 ^ gr.toNat).tmod 2 == 1) = false := by assumption
          rw [grB_tmod hi0] at hp
          go_roundw
          case rel => exact ⟨k + 1, by omega, by go_num, by rw [hsn.out, hp]; simp, hb⟩
          case measure => simp [intOf]; omega
      · go_wp2
        go_ret
        rw [List.take_of_length_le (by omega)]
        exact ⟨ret_int EN.out.symm, hb⟩
  · have EN := Lib.hid (show auG gr L = 0 by rw [auG, if_pos hin, auN, if_neg hok])
    have hok' : (decide (L.length ≤ 40000) && L.all chOk) = false := by simpa using hok
    have hgr := inR_iff.1 hin
    go_enter Try.func14, Try.ntmps14
    go_wp2_with (first | (go_at_call 18; refine (l17All_any _ _ L _ hl hs).mono ?_; rintro e w1 ⟨rfl, hb0⟩; rw [hok']) | (go_at_call 24; refine (l1In_any _ _ _ _).mono ?_; rintro e w2 ⟨rfl, rfl⟩; rw [hin]))
    go_ret
    exact ⟨ret_int EN.out.symm, hb0⟩
  · have EN := Lib.hid (show auG gr L = 0 by rw [auG, if_neg hin])
    have hin' : inR gr 0 7 = false := by simpa using hin
    by_cases hok : (decide (L.length ≤ 40000) && L.all chOk) = true
    · go_enter Try.func14, Try.ntmps14
      go_wp2_with (first | (go_at_call 18; refine (l17All_any _ _ L _ hl hs).mono ?_; rintro e w1 ⟨rfl, hb0⟩; rw [hok]) | (go_at_call 24; refine (l1In_any _ _ _ _).mono ?_; rintro e w2 ⟨rfl, rfl⟩; rw [hin']))
      all_goals go_ret
      all_goals exact ⟨ret_int EN.out.symm, hb0⟩
    · have hok' : (decide (L.length ≤ 40000) && L.all chOk) = false := by simpa using hok
      go_enter Try.func14, Try.ntmps14
      go_wp2_with (first | (go_at_call 18; refine (l17All_any _ _ L _ hl hs).mono ?_; rintro e w1 ⟨rfl, hb0⟩; rw [hok']) | (go_at_call 24; refine (l1In_any _ _ _ _).mono ?_; rintro e w2 ⟨rfl, rfl⟩; rw [hin']))
      all_goals go_ret
      all_goals exact ⟨ret_int EN.out.symm, hb0⟩
end Go.Proofs.Ytebehddkplmhiaa
