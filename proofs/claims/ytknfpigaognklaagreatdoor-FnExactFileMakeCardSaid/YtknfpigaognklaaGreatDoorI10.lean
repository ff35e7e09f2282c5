/- The program's own tests of names, and of depths of nodes. -/
import Derived.Test.YtknfpigaognklaaGreatDoorI9
import Derived.Laws.RangeString
import Derived.WalkSmall
namespace Go.Proofs.YtknfpigaognklaaGreatDoor
open Go.RowKit Go.Sort
theorem decode_far (s : ByteArray) (k : Nat) (h : k < s.size) (h2 : 128 ≤ (s[k]'h).toNat) : 128 ≤ (Utf8.decode s k).1 := by
  have e : (s.get! (k + 0)).toNat = (s[k]'h).toNat := by
    have : s.get! (k + 0) = s[k]'h := by
      show s.get! k = _
      simp [ByteArray.get!, getElem!_pos, h]
      rfl
    rw [this]
  unfold Utf8.decode
  simp only [e, Utf8.runeError]
  repeat' split
  all_goals first | omega | (simp only [Bool.and_eq_true, decide_eq_true_eq, ge_iff_le] at *; omega)
theorem run_next_any {P : Program} (w : World) (s : ByteArray) (pos : Nat) (ty : TypeId) (h : pos < s.size) :
    (Instr.next (.pointer (some ⟨w.heap.size, 0, none⟩)) true ty).run P (w.iter s pos) =
      .ok (.tuple #[.bool true, .int .i64 pos, .int .i32 (Utf8.decode s pos).1]) (w.iter s (pos + (Utf8.decode s pos).2)) := by
  simp only [Instr.next, getObj, setObj, Sem.run_bind, Sem.run, World.iter_heap, Result.andThen, h, if_true, World.iter_set]
  simp [goInt]
theorem iterPos_iter2 (w : World) (s : ByteArray) (k : Nat) : (w.iter s k).iterPos w.heap.size = k := iterPos_of (World.iter_heap w s k)
set_option maxRecDepth 100000 in
set_option maxHeartbeats 2000000 in
theorem iNameOk_loop (s : ByteArray) (w : World) (hm : s.size ≤ 1048576) (e1 : (s.toList == [119, 101, 105, 103, 104, 116]) = false) (e2 : (s.toList == [109, 97, 120]) = false) (e3 : (s.toList == [99, 112, 117, 115]) = false) (e4 : (s.toList == [112, 114, 111, 99, 115]) = false) (e5 : (s.toList == [115, 116, 97, 116]) = false) :
    Calls Tryz.prog 60 #[.string s] w fun e w' => e = .returned (.bool (nameB s)) ∧ Below w.heap.size w w' := by
  by_cases h1 : inR s.size 1 8 = true
  · have NN := Lib.hid (show nameB s = s.data.toList.all charB by rw [nameB, h1, show fileB s = false by rw [fileB, e1, e2, e3, e4, e5]; rfl]; rfl)
    go_enter Tryz.func60, Tryz.ntmps60
    go_wp2_with (go_at_call 111; refine (iInRange_any _ _ _ _).mono ?_; rintro e w' ⟨rfl, rfl⟩; rw [h1])
    go_loopw [4] (fun _ wr => ∃ k : Nat, k ≤ s.size ∧ wr = w.iter s k ∧ (s.data.toList.take k).all charB = true) (fun _ wr => s.size - wr.iterPos w.heap.size)
    case atStart => exact ⟨0, by omega, rfl, by simp⟩
    case round =>
      obtain ⟨k, hk, rfl, hall⟩ := hrel
      have HA := Lib.hid hall
      clear hall e1 e2 e3 e4 e5
      have hbw : ∀ j, Below w.heap.size w (w.iter s j) := fun j => (Below.refl _ _).alloc (Nat.le_refl _) _
      have HBW := Lib.hid hbw
      clear hbw
      by_cases hlt : k < s.size
      · have hlt' : k < s.data.toList.length := by simpa using hlt
        have hsk : s.data.toList[k] = s[k] := by simp [ByteArray.getElem_eq_getElem_data]
        have HSK := Lib.hid hsk
        clear hsk
        by_cases ha : s[k].toNat < 128
        · have hnx := fun ty => run_next_ascii (P := Tryz.prog) w s k ty hlt ha
          by_cases hz : 97 ≤ (s[k].toNat : Int) ∧ (s[k].toNat : Int) ≤ 122
          · have HCB := Lib.hid (show charB s[k] = true by simp only [charB, inR, Bool.or_eq_true, Bool.and_eq_true, decide_eq_true_eq]; omega)
            obtain ⟨z1, z2⟩ := hz
            clear ha
            go_wp2
            go_roundw
            case rel => exact ⟨k + 1, by omega, rfl, all_snoc hlt' HA.out (by rw [HSK.out]; exact HCB.out)⟩
            case measure => rw [iterPos_iter2, iterPos_iter2]; omega
          · by_cases hd : 48 ≤ (s[k].toNat : Int) ∧ (s[k].toNat : Int) ≤ 57
            · have HCB := Lib.hid (show charB s[k] = true by simp only [charB, inR, Bool.or_eq_true, Bool.and_eq_true, decide_eq_true_eq]; omega)
              obtain ⟨z1, z2⟩ := hd
              have z3 : (s[k].toNat : Int) < 97 := by omega
              clear hz ha
              go_wp2
              go_roundw
              case rel => exact ⟨k + 1, by omega, rfl, all_snoc hlt' HA.out (by rw [HSK.out]; exact HCB.out)⟩
              case measure => rw [iterPos_iter2, iterPos_iter2]; omega
            · have HCB := Lib.hid (show charB s[k] = false by simp only [charB, inR, Bool.or_eq_false_iff, Bool.and_eq_false_iff, decide_eq_false_iff_not]; omega)
              by_cases h3 : (s[k].toNat : Int) < 48
              · have h4 : (s[k].toNat : Int) < 97 := by omega
                clear hz hd ha
                go_wp2
                go_ret
                exact ⟨ret_bool (by rw [NN.out, all_not hlt' (by rw [HSK.out]; exact HCB.out)]), HBW.out _⟩
              · have h6 : 48 ≤ (s[k].toNat : Int) := by omega
                have h5 : 57 < (s[k].toNat : Int) := by omega
                have h9 : decide ((s[k].toNat : Int) ≤ 57) = false := decide_eq_false (by omega)
                by_cases h4 : (s[k].toNat : Int) < 97
                · clear hz hd ha h3
                  go_wp2
                  go_ret
                  exact ⟨ret_bool (by rw [NN.out, all_not hlt' (by rw [HSK.out]; exact HCB.out)]), HBW.out _⟩
                · have h10 : decide ((s[k].toNat : Int) ≤ 122) = false := decide_eq_false (by omega)
                  have h11 : 122 < (s[k].toNat : Int) := by omega
                  have h12 : 97 ≤ (s[k].toNat : Int) := by omega
                  clear hz hd ha h3 h4
                  go_wp2
                  go_ret
                  exact ⟨ret_bool (by rw [NN.out, all_not hlt' (by rw [HSK.out]; exact HCB.out)]), HBW.out _⟩
        · have hfar := decode_far s k hlt (by omega)
          have hnx := fun ty => run_next_any (P := Tryz.prog) w s k ty hlt
          have HCB := Lib.hid (show charB s[k] = false by simp only [charB, inR, Bool.or_eq_false_iff, Bool.and_eq_false_iff, decide_eq_false_iff_not]; omega)
          generalize (Utf8.decode s k).1 = r at *
          generalize (Utf8.decode s k).2 = sz at *
          have h9 : decide ((r : Int) ≤ 57) = false := decide_eq_false (by omega)
          have h10 : decide ((r : Int) ≤ 122) = false := decide_eq_false (by omega)
          have h11 : 122 < (r : Int) := by omega
          have h12 : 97 ≤ (r : Int) := by omega
          have h13 : 57 < (r : Int) := by omega
          have h14 : 48 ≤ (r : Int) := by omega
          clear ha hfar
          go_wp2
          go_ret
          exact ⟨ret_bool (by rw [NN.out, all_not hlt' (by rw [HSK.out]; exact HCB.out)]), HBW.out _⟩
      · have hnx := fun ty => run_next_end (P := Tryz.prog) w s k ty hlt
        have hkl : s.data.toList.take k = s.data.toList := List.take_of_length_le (by simp; omega)
        have HA2 := Lib.hid (show s.data.toList.all charB = true by rw [← hkl]; exact HA.out)
        clear hkl
        go_wp2
        go_ret
        exact ⟨ret_bool (by rw [NN.out, HA2.out]), HBW.out _⟩
  · have h1' : inR s.size 1 8 = false := by simpa using h1
    have NN := Lib.hid (show nameB s = false by rw [nameB, h1']; rfl)
    go_enter Tryz.func60, Tryz.ntmps60
    go_wp2_with (go_at_call 111; refine (iInRange_any _ _ _ _).mono ?_; rintro e w' ⟨rfl, rfl⟩; rw [h1'])
    go_ret
    exact ⟨ret_bool NN.out.symm, Below.refl _ _⟩
set_option maxHeartbeats 1000000 in
theorem iNameOk_any (s : ByteArray) (w : World) (hm : s.size ≤ 1048576) :
    Calls Tryz.prog 60 #[.string s] w fun e w' => e = .returned (.bool (nameB s)) ∧ Below w.heap.size w w' := by
  by_cases e1 : (s.toList == [119, 101, 105, 103, 104, 116]) = true
  · have NN := Lib.hid (show nameB s = false by rw [nameB, show fileB s = true by simp [fileB, e1]]; simp)
    go_enter Tryz.func60, Tryz.ntmps60
    go_wp2
    all_goals go_ret
    all_goals exact ⟨ret_bool NN.out.symm, Below.refl _ _⟩
  · have e1 : (s.toList == [119, 101, 105, 103, 104, 116]) = false := by simpa only [Bool.not_eq_true] using e1
    by_cases e2 : (s.toList == [109, 97, 120]) = true
    · have NN := Lib.hid (show nameB s = false by rw [nameB, show fileB s = true by simp [fileB, e2]]; simp)
      go_enter Tryz.func60, Tryz.ntmps60
      go_wp2
      all_goals go_ret
      all_goals exact ⟨ret_bool NN.out.symm, Below.refl _ _⟩
    · have e2 : (s.toList == [109, 97, 120]) = false := by simpa only [Bool.not_eq_true] using e2
      by_cases e3 : (s.toList == [99, 112, 117, 115]) = true
      · have NN := Lib.hid (show nameB s = false by rw [nameB, show fileB s = true by simp [fileB, e3]]; simp)
        go_enter Tryz.func60, Tryz.ntmps60
        go_wp2
        all_goals go_ret
        all_goals exact ⟨ret_bool NN.out.symm, Below.refl _ _⟩
      · have e3 : (s.toList == [99, 112, 117, 115]) = false := by simpa only [Bool.not_eq_true] using e3
        by_cases e4 : (s.toList == [112, 114, 111, 99, 115]) = true
        · have NN := Lib.hid (show nameB s = false by rw [nameB, show fileB s = true by simp [fileB, e4]]; simp)
          go_enter Tryz.func60, Tryz.ntmps60
          go_wp2
          all_goals go_ret
          all_goals exact ⟨ret_bool NN.out.symm, Below.refl _ _⟩
        · have e4 : (s.toList == [112, 114, 111, 99, 115]) = false := by simpa only [Bool.not_eq_true] using e4
          by_cases e5 : (s.toList == [115, 116, 97, 116]) = true
          · have NN := Lib.hid (show nameB s = false by rw [nameB, show fileB s = true by simp [fileB, e5]]; simp)
            go_enter Tryz.func60, Tryz.ntmps60
            go_wp2
            all_goals go_ret
            all_goals exact ⟨ret_bool NN.out.symm, Below.refl _ _⟩
          · have e5 : (s.toList == [115, 116, 97, 116]) = false := by simpa only [Bool.not_eq_true] using e5
            exact iNameOk_loop s w hm e1 e2 e3 e4 e5
/-- nodes of a tree, in memory -/
structure NodesAt (w : World) (M : WorldM) (nb : Nat → Nat) : Prop where
  slot : ∀ g, g < 8 → (grp M g).used = true → w.cell? ⟨nb g, 0, none⟩ = some (.int .i64 g)
  name : ∀ g, g < 8 → (grp M g).used = true → w.cell? ⟨nb g, 1, none⟩ = some (.string (grp M g).name)
  root : w.cell? ⟨nb 0, 2, none⟩ = some (.pointer none)
  up : ∀ g, g < 8 → g ≠ 0 → (grp M g).used = true → w.cell? ⟨nb g, 2, none⟩ = some (.pointer (some ⟨nb (par M g), 0, none⟩)) ∧ par M g < 8 ∧ (grp M (par M g)).used = true
/-- the program's count of steps -/
def depP (M : WorldM) : Nat → Nat → Nat → Int
  | 0, _, _ => -1
  | r + 1, n, g => if g = 0 then n else depP M r (n + 1) (par M g)
set_option maxHeartbeats 1000000 in
theorem iDepth_any (M : WorldM) (nb : Nat → Nat) (g : Nat) (hg : g < 8) (hu : (grp M g).used = true) (w : World) (hN : NodesAt w M nb) :
    Calls Tryz.prog 166 #[.pointer (some ⟨nb g, 0, none⟩)] w fun e w' => e = .returned (.int .i64 (depP M 4 0 g)) ∧ w = w' := by
  have HN := Lib.hid hN
  clear hN
  go_enter Tryz.func166, Tryz.ntmps166
  go_wp2
  go_loop [0, 3] (fun n i => ∃ (k h : Nat), k ≤ 4 ∧ i = .int .i64 k ∧ h < 8 ∧ (grp M h).used = true ∧ n = .pointer (some ⟨nb h, 0, none⟩) ∧ depP M 4 0 g = depP M (4 - k) k h) (fun _ i => 4 - (intOf i).toNat)
  case atStart => exact ⟨0, g, by omega, rfl, hg, hu, rfl, rfl⟩
  case round =>
    obtain ⟨k, h, hk, rfl, hh, huh, rfl, hd⟩ := hrel
    have HD := Lib.hid hd
    clear hd
    by_cases hk4 : k < 4
    · have c0 := HN.out.slot h hh huh
      obtain ⟨j, hj⟩ : ∃ j, 4 - k = j + 1 := ⟨3 - k, by omega⟩
      have HJ := Lib.hid hj
      clear hj
      by_cases h0 : h = 0
      · subst h0
        clear huh
        go_wp2
        go_ret
        exact ⟨ret_int (by rw [HD.out, HJ.out]; rfl), rfl⟩
      · obtain ⟨c2, hp, hpu⟩ := HN.out.up h hh h0 huh
        have hne : ((h : Int) == 0) = false := by simpa using h0
        have HST := Lib.hid (show depP M (j + 1) k h = depP M j (k + 1) (par M h) by simp only [depP, if_neg h0])
        have HPU := Lib.hid hpu
        clear h0 huh hpu
        go_wp2
        go_round
        case rel => exact ⟨k + 1, par M h, by omega, by go_num, hp, HPU.out, rfl, by rw [HD.out, HJ.out, HST.out, show 4 - (k + 1) = j by have := HJ.out; omega]⟩
        case measure => simp [intOf]; omega
    · have hk5 : k = 4 := by omega
      subst hk5
      have HE := Lib.hid (show depP M 4 0 g = -1 by rw [HD.out]; rfl)
      clear huh
      go_wp2
      go_ret
      exact ⟨ret_int HE.out.symm, rfl⟩
end Go.Proofs.YtknfpigaognklaaGreatDoor
