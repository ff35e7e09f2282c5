/- The program's own walks over steps of virtual time. -/
import Derived.Test.YtknfpigaognklaaGreatDoorI1
import Derived.Deep.WholeRow
import Derived.Deep.Cut
namespace Go.Proofs.YtknfpigaognklaaGreatDoor
open Go.RowKit
def stp (k j : Nat) : Int := if 1 ≤ j ∧ j < k then 232792560 / (j : Int) else 0
def stepsA (k : Nat) : Array Value := Array.ofFn (n := 21) fun j => .int .i64 (stp k j.val)
def stepsV : Value := .agg (stepsA 21)
theorem stepsA_size (k : Nat) : (stepsA k).size = 21 := by simp [stepsA]
theorem stepsA_at {w : Int} (h : inR w 1 20 = true) : (stepsA 21)[w.toNat]? = some (.int .i64 (232792560 / w)) := by
  rw [inR_iff] at h
  have h1 : w.toNat < 21 := by omega
  have h2 : 1 ≤ w.toNat := by omega
  have h3 : (w.toNat : Int) = w := by omega
  simp only [stepsA, Array.getElem?_ofFn, h1, dif_pos, stp, h2, and_self, if_true, h3]
theorem stepsA_set {k : Nat} (h : 1 ≤ k) (h2 : k ≤ 20) : (stepsA k).setIfInBounds k (.int .i64 (232792560 / (k : Int))) = stepsA (k + 1) := by
  apply Array.ext_getElem?
  intro j
  rw [Array.getElem?_setIfInBounds]
  by_cases hj : k = j
  · subst hj
    have h3 : k < 21 := by omega
    simp [stepsA, h3, stp, h]
  · rw [if_neg hj]
    simp only [stepsA, Array.getElem?_ofFn]
    by_cases h3 : j < 21
    · simp only [h3, dif_pos, stp]
      have e : (1 ≤ j ∧ j < k) ↔ (1 ≤ j ∧ j < k + 1) := by omega
      simp only [e]
    · simp only [h3, dif_neg, not_false_eq_true]
theorem stepsA_one : stepsA 1 = #[.int .i64 0, .int .i64 0, .int .i64 0, .int .i64 0, .int .i64 0, .int .i64 0, .int .i64 0, .int .i64 0, .int .i64 0, .int .i64 0, .int .i64 0, .int .i64 0, .int .i64 0, .int .i64 0, .int .i64 0, .int .i64 0, .int .i64 0, .int .i64 0, .int .i64 0, .int .i64 0, .int .i64 0] := by
  apply Array.ext
  · simp [stepsA]
  · intro i hi1 hi2
    have h : i < 21 := by simpa [stepsA] using hi1
    have e : (stepsA 1)[i] = .int .i64 0 := by
      simp only [stepsA, Array.getElem_ofFn, stp]
      rw [if_neg (by omega)]
    refine e.trans ?_
    rcases i with _ | _ | _ | _ | _ | _ | _ | _ | _ | _ | _ | _ | _ | _ | _ | _ | _ | _ | _ | _ | _ | i <;> first | rfl | omega
theorem below_setRow {B : Nat} (w : World) (g : Nat) (cs : Array Value) (h : B ≤ g) : Below B w (w.setRow g cs) :=
  ⟨rfl, rfl, rfl, by simp, fun k hk => setRow_other w g k cs (by omega)⟩
set_option maxHeartbeats 1000000 in
theorem iSteps_any (w : World) :
    Calls Tryz.prog 186 #[] w fun e w' => e = .returned stepsV ∧ Below w.heap.size w w' := by
  go_enter Tryz.func186, Tryz.ntmps186
  go_wp2
  refine gen2 (p := fun W => Code.wp _ _ _ _ W) ?_
  intro W b1 s1 z0 z1
  rw [← stepsA_one] at z1
  go_loopw [2] (fun i wr => ∃ k : Nat, 1 ≤ k ∧ k ≤ 21 ∧ i = .int .i64 k ∧ But (w.heap.size + 1) W wr ∧ Blk wr (w.heap.size + 1) 178 (stepsA k)) (fun i _ => 21 - (intOf i).toNat)
  case atStart => exact ⟨1, by omega, by omega, rfl, But.refl_ _ _, z1⟩
  case round =>
    obtain ⟨k, hk1, hk2, rfl, hbu, hbl⟩ := hrel
    by_cases hlt : k ≤ 20
    · have hin := hbl.in_ k (by rw [stepsA_size]; omega)
      have hfr := hbl.frozen k
      obtain ⟨v, hv⟩ := hin
      have hq := step_bd k (by omega) (by omega)
      go_wp2
      go_roundw
      case rel => exact ⟨k + 1, by omega, by omega, by go_num, hbu.trans (But.set_ _ _ _ _), by rw [← stepsA_set hk1 hlt]; exact hbl.set_ k _⟩
      case measure => simp [intOf]; omega
    · obtain rfl : k = 21 := by omega
      clear hk1 hk2
      have hbz : Blk wr w.heap.size 178 _ := hbu.blk z0 (by omega)
      have et : Tryz.prog.underlying 178 = some (.array 21 3) := by kernel_rfl
      have it : (Tryz.prog.info? 178).map (·.size) = some (stepsA 21).size := by rw [stepsA_size]; kernel_rfl
      have hall : (stepsA 21).all (·.oneCell') = true := by kernel_rfl
      go_wp2_with (first | (refine wpList_load_row rfl 178 _ rfl (w.heap.size + 1) rfl 178 (stepsA 21) (0, 0) _ hbl et rfl it ?_) | (refine wpList_store_row rfl 178 _ _ rfl w.heap.size (stepsA 21) rfl rfl 178 _ hbz it (by rw [stepsA_size]; rfl) hall ?_))
      refine bodyPost_ret (v := stepsV) (results_cell_row rfl _ _ w.heap.size 178 (stepsA 21) (0, 0) _ rfl (setRow_heap _ _ _ _ _ _ hbz) et rfl it) rfl ⟨rfl, ?_⟩
      exact (b1.trans (hbu.below (by omega))).trans (below_setRow _ _ _ (Nat.le_refl _))
theorem run_index_row {P : Program} (t e : TypeId) (n : Nat) (d : TypeDesc) (cs : Array Value) (k : IntKind) (i : Int) (v : Value) (h : P.underlying t = some (.array n e)) (hi : 0 ≤ i ∧ i < n)
    (hs : (P.info? e).map (·.size) = some 1) (hu : P.underlying e = some d) (hd : (match d with | .struct _ | .array _ _ => true | _ => false) = false)
    (hc : cs[i.toNat]? = some v) (w : World) : (Instr.index t (.agg cs) (.int k i)).run P w = .ok v w := by
  cases hq : P.info? e with
  | none => simp [hq] at hs
  | some ie =>
    have hs' : ie.size = 1 := by simpa [hq] using hs
    have hagg : (isAgg e).run P w = .ok false w := by
      unfold isAgg
      rw [Sem.run_bind, run_underlying hu w]
      cases d <;> simp_all
    simp [Instr.index, run_underlying h, asIntOf, hi, part, Sem.run_bind, hagg, sizeOf, typeInfo, hq, hs', hc]
set_option maxHeartbeats 400000 in
theorem iVirtualStep_any (u n : Int) (w : World) :
    Calls Tryz.prog 154 #[.int .i64 u, .int .i64 n] w fun e w' => e = .returned (.int .i64 (vstep u n)) ∧ Below w.heap.size w w' := by
  by_cases h : inR n 1 20 = true
  · by_cases h2 : inR u 0 100000000 = true
    · have hb := inR_iff.1 h
      have hb2 := inR_iff.1 h2
      have hs := step_bd n hb.1 hb.2
      have hp := prod_bd hb2.1 hb2.2 (by omega) hs.2
      have hat := stepsA_at h
      have hsz := stepsA_size 21
      go_enter Tryz.func154, Tryz.ntmps154
      go_upto_region 3 with (first | (go_at_call 141; refine (iWeightOk_any _ _).mono ?_; rintro e w' ⟨rfl, rfl⟩; rw [h]) | (go_at_call 111; refine (iInRange_any _ _ _ _).mono ?_; rintro e w' ⟨rfl, rfl⟩; rw [h2]))
      go_wp2_with fail
      refine (iSteps_any _).mono ?_
      rintro e w3 ⟨rfl, hb3⟩
      rw [stepsV]
      generalize stepsA 21 = C at hat hsz ⊢
      have hix : ∀ w, (Instr.index 178 (.agg C) (.int .i64 n)).run Tryz.prog w = .ok (.int .i64 (232792560 / n)) w := by
        exact run_index_row 178 3 21 _ C .i64 n _ (by kernel_rfl) (by omega) (by kernel_rfl) (show _ = some (.int .i64) by kernel_rfl) rfl hat
      clear hat hsz
      go_wp2
      go_ret
      exact ⟨ret_int (by rw [vstep, h, h2]; rfl), hb3⟩
    · have h2' : inR u 0 100000000 = false := by simpa using h2
      go_enter Tryz.func154, Tryz.ntmps154
      go_wp2_with (first | (go_at_call 141; refine (iWeightOk_any _ _).mono ?_; rintro e w' ⟨rfl, rfl⟩; rw [h]) | (go_at_call 111; refine (iInRange_any _ _ _ _).mono ?_; rintro e w' ⟨rfl, rfl⟩; rw [h2']))
      go_ret
      exact ⟨ret_int (by rw [vstep, h, h2']; rfl), Below.refl _ _⟩
  · have h' : inR n 1 20 = false := by simpa using h
    by_cases h2 : inR u 0 100000000 = true
    · go_enter Tryz.func154, Tryz.ntmps154
      go_wp2_with (first | (go_at_call 141; refine (iWeightOk_any _ _).mono ?_; rintro e w' ⟨rfl, rfl⟩; rw [h']) | (go_at_call 111; refine (iInRange_any _ _ _ _).mono ?_; rintro e w' ⟨rfl, rfl⟩; rw [h2]))
      go_ret
      exact ⟨ret_int (by rw [vstep, h']; rfl), Below.refl _ _⟩
    · have h2' : inR u 0 100000000 = false := by simpa using h2
      go_enter Tryz.func154, Tryz.ntmps154
      go_wp2_with (first | (go_at_call 111; refine (iInRange_any _ _ _ _).mono ?_; rintro e w' ⟨rfl, rfl⟩; rw [h2']))
      go_ret
      exact ⟨ret_int (by rw [vstep, h']; rfl), Below.refl _ _⟩
set_option maxHeartbeats 400000 in
theorem iLagMost_any (n : Int) (w : World) :
    Calls Tryz.prog 183 #[.int .i64 n] w fun e w' => e = .returned (.int .i64 (lagM n)) ∧ Below w.heap.size w w' := by
  go_enter Tryz.func183, Tryz.ntmps183
  go_wp2_with (go_at_call 154; refine (iVirtualStep_any _ _ _).mono ?_; rintro e w2 ⟨rfl, hb2⟩)
  go_ret
  exact ⟨rfl, hb2⟩
set_option maxHeartbeats 400000 in
theorem iPlaced_any (v f n : Int) (w : World) :
    Calls Tryz.prog 149 #[.int .i64 v, .int .i64 f, .int .i64 n] w fun e w' => e = .returned (.bool (standW v f n)) ∧ Below w.heap.size w w' := by
  by_cases h : f ≤ v
  · have SN := Lib.hid (show standW v f n = decide (wrap64 (v - f) ≤ lagM n) by rw [standW, decide_eq_true h]; rfl)
    go_enter Tryz.func149, Tryz.ntmps149
    go_wp2_with (go_at_call 183; refine (iLagMost_any _ _).mono ?_; rintro e w2 ⟨rfl, hb2⟩)
    go_ret
    exact ⟨ret_bool SN.out.symm, hb2⟩
  · have SN := Lib.hid (show standW v f n = false by rw [standW, decide_eq_false h]; rfl)
    have h' : v < f := by omega
    clear h
    go_enter Tryz.func149, Tryz.ntmps149
    go_wp2
    go_ret
    exact ⟨ret_bool SN.out.symm, Below.refl _ _⟩
set_option maxHeartbeats 400000 in
theorem iTimeOk_any (A : Option Addr) (L : List Int) (c : Nat) (w : World) (hL : IntS w A L) (hl : L.length ≤ 1048576) :
    Calls Tryz.prog 137 #[.slice A L.length c] w fun e w' => e = .returned (.bool (L.all timeB)) ∧ Below w.heap.size w w' := by
  go_enter Tryz.func137, Tryz.ntmps137
  go_wp2
  go_loop [4, 7] (fun x i => ∃ k : Nat, k ≤ L.length ∧ i = .int .i64 k ∧ (L.take k).all timeB = true) (fun _ i => L.length - (intOf i).toNat)
  case atStart => exact ⟨0, by omega, rfl, rfl⟩
  case round =>
    obtain ⟨k, hk, rfl, hall⟩ := hrel
    have HA := Lib.hid hall
    clear hall
    by_cases hlt : k < L.length
    · obtain ⟨b, o, rfl, hB, c0⟩ := hL.at_ k hlt
      by_cases ht : timeB L[k] = true
      · have HT := Lib.hid ht
        have ht2 : inR L[k] 0 100000000000000000 = true := ht
        clear ht
        go_wp2_with (go_at_call 111; refine (iInRange_any _ _ _ _).mono ?_; rintro e w' ⟨rfl, rfl⟩; rw [ht2])
        go_round
        case rel => exact ⟨k + 1, by omega, by go_num, all_snoc hlt HA.out HT.out⟩
        case measure => simp [intOf]; omega
      · have ht' : timeB L[k] = false := by simpa using ht
        have HT := Lib.hid ht'
        have ht2 : inR L[k] 0 100000000000000000 = false := ht'
        clear ht ht'
        go_wp2_with (go_at_call 111; refine (iInRange_any _ _ _ _).mono ?_; rintro e w' ⟨rfl, rfl⟩; rw [ht2])
        go_ret
        exact ⟨ret_bool (all_not hlt HT.out).symm, Below.refl _ _⟩
    · go_wp2
      go_ret
      exact ⟨ret_bool (by rw [List.take_of_length_le (by omega)] at HA; exact HA.out.symm), Below.refl _ _⟩
end Go.Proofs.YtknfpigaognklaaGreatDoor
