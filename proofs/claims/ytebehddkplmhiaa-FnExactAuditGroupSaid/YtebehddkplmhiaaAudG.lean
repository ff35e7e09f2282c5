/- The walks of AuditGap: the program's and the reference's. -/
import Derived.Test.YtebehddkplmhiaaAudW
namespace Go.Proofs.Ytebehddkplmhiaa
open Go.RowKit
def gapStep (task cpu : Int) (m : Int × Int) (x : Ch) : Int × Int := if x.c = cpu then (if x.t = task then (m.1, 0) else (max m.1 (m.2 + x.k), m.2 + x.k)) else m
def gapF (task cpu : Int) (L : List Ch) : Int × Int := L.foldl (gapStep task cpu) (0, 0)
theorem gapF_snoc (task cpu : Int) (L : List Ch) (x : Ch) : gapF task cpu (L ++ [x]) = gapStep task cpu (gapF task cpu L) x := by simp [gapF, List.foldl_append]
def gM (task cpu : Int) (L : List Ch) : Int := (gapF task cpu L).1
def gS (task cpu : Int) (L : List Ch) : Int := (gapF task cpu L).2
theorem g_off {task cpu : Int} {L : List Ch} {x : Ch} (h : ¬ x.c = cpu) : gM task cpu (L ++ [x]) = gM task cpu L ∧ gS task cpu (L ++ [x]) = gS task cpu L := by
  simp [gM, gS, gapF_snoc, gapStep, h]
theorem g_own {task cpu : Int} {L : List Ch} {x : Ch} (h : x.c = cpu) (ht : x.t = task) : gM task cpu (L ++ [x]) = gM task cpu L ∧ gS task cpu (L ++ [x]) = 0 := by
  simp [gM, gS, gapF_snoc, gapStep, h, ht]
theorem g_other {task cpu : Int} {L : List Ch} {x : Ch} (h : x.c = cpu) (ht : ¬ x.t = task) : gM task cpu (L ++ [x]) = max (gM task cpu L) (gS task cpu L + x.k) ∧ gS task cpu (L ++ [x]) = gS task cpu L + x.k := by
  simp [gM, gS, gapF_snoc, gapStep, h, ht]
theorem ch_k {x : Ch} (h : chOk x = true) : 1 ≤ x.k ∧ x.k ≤ 40000 := by
  simp only [chOk, Bool.and_eq_true, inR_iff] at h
  exact h.2
theorem g_bd (task cpu : Int) (L : List Ch) : ∀ (k : Nat), k ≤ L.length → L.all chOk = true → 0 ≤ gM task cpu (L.take k) ∧ 0 ≤ gS task cpu (L.take k) ∧ gS task cpu (L.take k) ≤ k * 40000 ∧ gM task cpu (L.take k) ≤ k * 40000
  | 0, _, _ => by simp [gM, gS, gapF]
  | k + 1, hk, h => by
    have ih := g_bd task cpu L k (by omega) h
    have hx := ch_k (List.all_eq_true.1 h (L[k]'(by omega)) (List.getElem_mem _))
    rw [take_snoc (by omega)]
    by_cases hc : (L[k]'(by omega)).c = cpu
    · by_cases ht : (L[k]'(by omega)).t = task
      · rw [(g_own hc ht).1, (g_own hc ht).2]; omega
      · rw [(g_other hc ht).1, (g_other hc ht).2]; omega
    · rw [(g_off hc).1, (g_off hc).2]; omega
def gapN (task cpu : Int) (L : List Ch) : Int := if decide (L.length ≤ 40000) && L.all chOk then gM task cpu L else 0
set_option maxHeartbeats 400000 in
theorem l1Max_any (a b : Int) (w : World) :
    Calls Try.prog 27 #[.int .i64 a, .int .i64 b] w fun e w' => e = .returned (.int .i64 (max a b)) ∧ w = w' := by
  go_enter Try.func27, Try.ntmps27
  go_wp2
  all_goals go_ret
  all_goals exact ⟨ret_int (by first | omega | (simp; omega)), rfl⟩
set_option maxHeartbeats 400000 in
theorem sAuditGap_any (A : Option Addr) (cap : Nat) (L : List Ch) (task cpu : Int) (w : World) (hl : L.length ≤ 9223372036854775807) (hs : ChS w A L) :
    Calls Try.prog 16 #[.slice A L.length cap, .int .i64 task, .int .i64 cpu] w fun e w' => e = .returned (.int .i64 (gapN task cpu L)) ∧ Below w.heap.size w w' := by
  by_cases hok : (decide (L.length ≤ 40000) && L.all chOk) = true
  · have EN := Lib.hid (show gapN task cpu L = gM task cpu L by rw [gapN, if_pos hok])
    have hok' : L.length ≤ 40000 ∧ L.all chOk = true := by simpa using hok
    obtain ⟨h4, hall⟩ := hok'
    have HA := Lib.hid hall
    clear hall
    go_enter Try.func16, Try.ntmps16
    go_wp2_with (go_at_call 18; refine (l17All_any _ _ L _ hl hs).mono ?_; rintro e w1 ⟨rfl, hb0⟩; rw [hok])
    go_loopw [7, 8, 9] (fun m r i wr => ∃ k : Nat, k ≤ L.length ∧ i = .int .i64 k ∧ r = .int .i64 (gS task cpu (L.take k)) ∧ m = .int .i64 (gM task cpu (L.take k)) ∧ Below w.heap.size w wr) (fun _ _ i _ => L.length - (intOf i).toNat)
    case atStart => exact ⟨0, Nat.zero_le _, rfl, rfl, rfl, hb0⟩
    case round =>
      obtain ⟨k, hk, rfl, rfl, rfl, hb⟩ := hrel
      by_cases hlt : k < L.length
      · obtain ⟨b, o, rfl, hB, c0, c1, c2, c3, c4⟩ := (hs.below hb).at_ k hlt
        obtain ⟨b1, b2, b3, b4⟩ := g_bd task cpu L k hk HA.out
        obtain ⟨k1, k2⟩ := ch_k (List.all_eq_true.1 HA.out L[k] (List.getElem_mem _))
        go_wp2_with (go_at_call 27; refine (l1Max_any _ _ _).mono ?_; rintro e w1 ⟨rfl, rfl⟩)
        · have hc : (L[k].c != cpu) = true := by assumption
          have hc' : ¬ L[k].c = cpu := by simpa using hc
          go_roundw
          case rel => exact ⟨k + 1, by omega, by go_num, val_eq (by rw [take_snoc hlt, (g_off hc').2]), val_eq (by rw [take_snoc hlt, (g_off hc').1]), hb⟩
          case measure => simp [intOf]; omega
        · have hc : (L[k].c != cpu) = false := by assumption
          have hc' : L[k].c = cpu := by simpa using hc
          have ht : (L[k].t == task) = true := by assumption
          have ht' : L[k].t = task := by simpa using ht
          go_roundw
          case rel => exact ⟨k + 1, by omega, by go_num, val_eq (by rw [take_snoc hlt, (g_own hc' ht').2]), val_eq (by rw [take_snoc hlt, (g_own hc' ht').1]; try omega), hb⟩
          case measure => simp [intOf]; omega
        · have hc : (L[k].c != cpu) = false := by assumption
          have hc' : L[k].c = cpu := by simpa using hc
          have ht : (L[k].t == task) = false := by assumption
          have ht' : ¬ L[k].t = task := by simpa using ht
          go_roundw
          case rel => exact ⟨k + 1, by omega, by go_num, val_eq (by rw [take_snoc hlt, (g_other hc' ht').2]), val_eq (by rw [take_snoc hlt, (g_other hc' ht').1]), hb⟩
          case measure => simp [intOf]; omega
      · go_wp2
        go_ret
        rw [List.take_of_length_le (by omega)]
        exact ⟨ret_int EN.out.symm, hb⟩
  · have EN := Lib.hid (show gapN task cpu L = 0 by rw [gapN, if_neg hok])
    have hok' : (decide (L.length ≤ 40000) && L.all chOk) = false := by simpa using hok
    go_enter Try.func16, Try.ntmps16
    go_wp2_with (go_at_call 18; refine (l17All_any _ _ L _ hl hs).mono ?_; rintro e w1 ⟨rfl, hb0⟩; rw [hok'])
    go_ret
    exact ⟨ret_int EN.out.symm, hb0⟩
set_option maxHeartbeats 400000 in
theorem AuditGap_any (A : Option Addr) (cap : Nat) (L : List Ch) (task cpu : Int) (w : World) (hl : L.length ≤ 9223372036854775807) (hs : ChS w A L) :
    Calls Try.prog 17 #[.slice A L.length cap, .int .i64 task, .int .i64 cpu] w fun e w' => e = .returned (.int .i64 (gapN task cpu L)) ∧ Below w.heap.size w w' := by
  by_cases hok : (decide (L.length ≤ 40000) && L.all chOk) = true
  · have EN := Lib.hid (show gapN task cpu L = gM task cpu L by rw [gapN, if_pos hok])
    have hok' : L.length ≤ 40000 ∧ L.all chOk = true := by simpa using hok
    obtain ⟨h4, hall⟩ := hok'
    have HA := Lib.hid hall
    clear hall
    go_enter Try.func17, Try.ntmps17
    go_wp2_with (go_at_call 28; refine (recordOk_any _ _ L _ hl hs).mono ?_; rintro e w1 ⟨rfl, hb0⟩; rw [hok])
    go_loopw [7, 8, 10, 16] (fun m r u i wr => ∃ k : Nat, k ≤ L.length ∧ i = .int .i64 k ∧ r = .int .i64 (gS task cpu (L.take k)) ∧ m = .int .i64 (gM task cpu (L.take k)) ∧ Below w.heap.size w wr) (fun _ _ _ i _ => L.length - (intOf i).toNat)
    case atStart => exact ⟨0, Nat.zero_le _, rfl, rfl, rfl, hb0⟩
    case round =>
      obtain ⟨k, hk, rfl, rfl, rfl, hb⟩ := hrel
      by_cases hlt : k < L.length
      · obtain ⟨b, o, rfl, hB, c0, c1, c2, c3, c4⟩ := (hs.below hb).at_ k hlt
        obtain ⟨b1, b2, b3, b4⟩ := g_bd task cpu L k hk HA.out
        obtain ⟨k1, k2⟩ := ch_k (List.all_eq_true.1 HA.out L[k] (List.getElem_mem _))
        go_wp2
        · have hc : (L[k].c != cpu) = true := by assumption
          have hc' : ¬ L[k].c = cpu := by simpa using hc
          go_roundw
          case rel => exact ⟨k + 1, by omega, by go_num, val_eq (by rw [take_snoc hlt, (g_off hc').2]), val_eq (by rw [take_snoc hlt, (g_off hc').1]), hb.alloc hb.size _⟩
          case measure => simp [intOf]; omega
        · have hc : (L[k].c != cpu) = false := by assumption
          have hc' : L[k].c = cpu := by simpa using hc
          have ht : (L[k].t == task) = true := by assumption
          have ht' : L[k].t = task := by simpa using ht
          go_roundw
          case rel => exact ⟨k + 1, by omega, by go_num, val_eq (by rw [take_snoc hlt, (g_own hc' ht').2]), val_eq (by rw [take_snoc hlt, (g_own hc' ht').1]; try omega), hb.alloc hb.size _⟩
          case measure => simp [intOf]; omega
        · have hc : (L[k].c != cpu) = false := by assumption
          have hc' : L[k].c = cpu := by simpa using hc
          have ht : (L[k].t == task) = false := by assumption
          have ht' : ¬ L[k].t = task := by simpa using ht
          go_roundw
          case rel => exact ⟨k + 1, by omega, by go_num, val_eq (by rw [take_snoc hlt, (g_other hc' ht').2]), val_eq (by rw [take_snoc hlt, (g_other hc' ht').1]; omega), hb.alloc hb.size _⟩
          case measure => simp [intOf]; omega
      · go_wp2
        go_ret
        rw [List.take_of_length_le (by omega)]
        exact ⟨ret_int EN.out.symm, hb⟩
  · have EN := Lib.hid (show gapN task cpu L = 0 by rw [gapN, if_neg hok])
    have hok' : (decide (L.length ≤ 40000) && L.all chOk) = false := by simpa using hok
    go_enter Try.func17, Try.ntmps17
    go_wp2_with (go_at_call 28; refine (recordOk_any _ _ L _ hl hs).mono ?_; rintro e w1 ⟨rfl, hb0⟩; rw [hok'])
    go_ret
    exact ⟨ret_int EN.out.symm, hb0⟩
end Go.Proofs.Ytebehddkplmhiaa
