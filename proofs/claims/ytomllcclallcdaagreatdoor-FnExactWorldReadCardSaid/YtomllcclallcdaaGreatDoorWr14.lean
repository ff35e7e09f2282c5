/- A part of the proof. -/
import Derived.Test.YtomllcclallcdaaGreatDoorWr1
import Derived.Test.YtomllcclallcdaaGreatDoorWr5
import Derived.Test.YtomllcclallcdaaGreatDoorWr7
import Derived.Test.YtomllcclallcdaaGreatDoorWr13
import Derived.Laws.EntriesVeiled
import Derived.ProofKit
import Derived.OpenShut
import Derived.Deep.Slices
import Derived.Deep.Fields
import Derived.ChangeSame
import Derived.Test.YtomllcclallcdaaGreatDoorTie
import Derived.Test.YtomllcclallcdaaGreatDoorCards
import Derived.SevenTiedAt
import Derived.LaidMore
import Derived.Stop.Joined
import Derived.Lib.LaidTab
import Derived.Stop.LaidErr
import Derived.Lay
import Derived.Shelf.Vars
namespace Go.Proofs.YtomllcclallcdaaGreatDoor
section
open Go.RowKit Go.Sort
set_option maxRecDepth 100000 in
set_option maxHeartbeats 2000000 in
theorem iShapeOk_any (p : Nat) (ca : Option Addr) (cc : Nat) (ta : Option Addr) (tc : Nat) (ga : Option Addr) (gc : Nat) (gh : Nat → GH) (M : WorldM) (w : World) (hs : PA w p ca cc ta tc ga gc gh M) (hF : FitG M) :
    Calls Tryz.prog 75 #[.pointer (some ⟨p, 0, none⟩)] w fun e w' => e = .returned (.bool (shapeI M)) ∧ Below w.heap.size w w' := by
  have HS := Lib.hid hs
  obtain ⟨q0, q1, q2, q3, q4, q5⟩ := hs
  clear q5
  by_cases f1 : [M.now].all timeB = true
  · have F1 := Lib.hid f1
    clear f1
    by_cases f2 : inR M.cpus.length 1 4 = true
    · have F2 := Lib.hid f2
      have hc : M.cpus.length ≤ 4 := by have := (inR_iff.1 f2).2; omega
      clear f2
      by_cases f3 : (ups M == 0) = true
      · have F3 := Lib.hid f3
        have f3' : (ups M != 0) = false := by simpa using f3
        clear f3
        have SF := Lib.hid (show shapeI M = false by rw [shapeI, F1.out, F2.out, F3.out]; simp)
        go_enter Tryz.func75, Tryz.ntmps75
        go_wp2_with (first | (go_at_call 109; refine (iTimeN [M.now] 1 _ _ (IntS.new _ _ _ rfl w) rfl).mono ?_; rintro e w2 ⟨rfl, hb2⟩; rw [F1.out]; have b2 := ((Below.refl w.heap.size w).alloc (Nat.le_refl _) (.cells #[.int .i64 M.now] 3)).andThen hb2; have r2 := (b2.cell (p := ⟨p, 1, none⟩) q0).trans q2; have r3 := (b2.cell (p := ⟨p, 2, none⟩) q0).trans q3; have r4 := (b2.cell (p := ⟨p, 3, none⟩) q0).trans q4; have rl := Nat.lt_of_lt_of_le q0 b2.size) | (go_at_call 108; refine (iInRange_any _ _ _ _).mono ?_; rintro e w' ⟨rfl, rfl⟩; rw [F2.out]) | (go_at_call 110; refine (iOnline_any p ca cc ta tc ga gc gh M _ (HS.out.keep b2) hc).mono ?_; rintro e w3 ⟨rfl, hb3⟩; have s3 := (hb3.cell (p := ⟨p, 2, none⟩) rl).trans r3; have s4 := (hb3.cell (p := ⟨p, 3, none⟩) rl).trans r4))
        go_ret
        exact ⟨ret_bool SF.out.symm, b2.andThen hb3⟩
      · have F3 := Lib.hid (show (ups M == 0) = false by simpa only [Bool.not_eq_true] using f3)
        have f3' : (ups M != 0) = true := by simpa using f3
        clear f3
        by_cases f4 : ((M.tasks.length : Int) == 12) = true
        · have F4 := Lib.hid f4
          have SF := Lib.hid (show shapeI M = nodesB M by rw [shapeI, F1.out, F2.out, F3.out, F4.out]; rfl)
          go_enter Tryz.func75, Tryz.ntmps75
          go_wp2_with (first | (go_at_call 109; refine (iTimeN [M.now] 1 _ _ (IntS.new _ _ _ rfl w) rfl).mono ?_; rintro e w2 ⟨rfl, hb2⟩; rw [F1.out]; have b2 := ((Below.refl w.heap.size w).alloc (Nat.le_refl _) (.cells #[.int .i64 M.now] 3)).andThen hb2; have r2 := (b2.cell (p := ⟨p, 1, none⟩) q0).trans q2; have r3 := (b2.cell (p := ⟨p, 2, none⟩) q0).trans q3; have r4 := (b2.cell (p := ⟨p, 3, none⟩) q0).trans q4; have rl := Nat.lt_of_lt_of_le q0 b2.size) | (go_at_call 108; refine (iInRange_any _ _ _ _).mono ?_; rintro e w' ⟨rfl, rfl⟩; rw [F2.out]) | (go_at_call 110; refine (iOnline_any p ca cc ta tc ga gc gh M _ (HS.out.keep b2) hc).mono ?_; rintro e w3 ⟨rfl, hb3⟩; have s3 := (hb3.cell (p := ⟨p, 2, none⟩) rl).trans r3; have s4 := (hb3.cell (p := ⟨p, 3, none⟩) rl).trans r4) | (go_at_call 111; refine (iTreeOk_any ca ta ga gc gh M _ ((HS.out.keep b2).keep hb3).wa hF.group hF.name).mono ?_; rintro e w4 ⟨rfl, hb4⟩))
          go_ret
          exact ⟨ret_bool SF.out.symm, b2.andThen (hb3.andThen hb4)⟩
        · have F4 := Lib.hid (show ((M.tasks.length : Int) == 12) = false by simpa only [Bool.not_eq_true] using f4)
          have f4' : ((M.tasks.length : Int) == 12) = false := F4.out
          clear f4
          have SF := Lib.hid (show shapeI M = false by rw [shapeI, F1.out, F2.out, F3.out, F4.out]; simp)
          go_enter Tryz.func75, Tryz.ntmps75
          go_wp2_with (first | (go_at_call 109; refine (iTimeN [M.now] 1 _ _ (IntS.new _ _ _ rfl w) rfl).mono ?_; rintro e w2 ⟨rfl, hb2⟩; rw [F1.out]; have b2 := ((Below.refl w.heap.size w).alloc (Nat.le_refl _) (.cells #[.int .i64 M.now] 3)).andThen hb2; have r2 := (b2.cell (p := ⟨p, 1, none⟩) q0).trans q2; have r3 := (b2.cell (p := ⟨p, 2, none⟩) q0).trans q3; have r4 := (b2.cell (p := ⟨p, 3, none⟩) q0).trans q4; have rl := Nat.lt_of_lt_of_le q0 b2.size) | (go_at_call 108; refine (iInRange_any _ _ _ _).mono ?_; rintro e w' ⟨rfl, rfl⟩; rw [F2.out]) | (go_at_call 110; refine (iOnline_any p ca cc ta tc ga gc gh M _ (HS.out.keep b2) hc).mono ?_; rintro e w3 ⟨rfl, hb3⟩; have s3 := (hb3.cell (p := ⟨p, 2, none⟩) rl).trans r3; have s4 := (hb3.cell (p := ⟨p, 3, none⟩) rl).trans r4))
          go_ret
          exact ⟨ret_bool SF.out.symm, b2.andThen hb3⟩
    · have F2 := Lib.hid (show inR M.cpus.length 1 4 = false by simpa using f2)
      clear f2
      have SF := Lib.hid (show shapeI M = false by rw [shapeI, F1.out, F2.out]; simp)
      go_enter Tryz.func75, Tryz.ntmps75
      go_wp2_with (first | (go_at_call 109; refine (iTimeN [M.now] 1 _ _ (IntS.new _ _ _ rfl w) rfl).mono ?_; rintro e w2 ⟨rfl, hb2⟩; rw [F1.out]; have b2 := ((Below.refl w.heap.size w).alloc (Nat.le_refl _) (.cells #[.int .i64 M.now] 3)).andThen hb2; have r2 := (b2.cell (p := ⟨p, 1, none⟩) q0).trans q2; have r3 := (b2.cell (p := ⟨p, 2, none⟩) q0).trans q3; have r4 := (b2.cell (p := ⟨p, 3, none⟩) q0).trans q4; have rl := Nat.lt_of_lt_of_le q0 b2.size) | (go_at_call 108; refine (iInRange_any _ _ _ _).mono ?_; rintro e w' ⟨rfl, rfl⟩; rw [F2.out]))
      go_ret
      exact ⟨ret_bool SF.out.symm, b2⟩
  · have F1 := Lib.hid (show [M.now].all timeB = false by simpa only [Bool.not_eq_true] using f1)
    clear f1
    have SF := Lib.hid (show shapeI M = false by rw [shapeI, F1.out]; simp)
    go_enter Tryz.func75, Tryz.ntmps75
    go_wp2_with (go_at_call 109; refine (iTimeN [M.now] 1 _ _ (IntS.new _ _ _ rfl w) rfl).mono ?_; rintro e w2 ⟨rfl, hb2⟩; rw [F1.out]; have b2 := ((Below.refl w.heap.size w).alloc (Nat.le_refl _) (.cells #[.int .i64 M.now] 3)).andThen hb2; have r2 := (b2.cell (p := ⟨p, 1, none⟩) q0).trans q2; have r3 := (b2.cell (p := ⟨p, 2, none⟩) q0).trans q3; have r4 := (b2.cell (p := ⟨p, 3, none⟩) q0).trans q4; have rl := Nat.lt_of_lt_of_le q0 b2.size)
    go_ret
    exact ⟨ret_bool SF.out.symm, b2⟩
theorem now_of {M : WorldM} (h : shapeI M = true) : inR M.now 0 100000000000000000 = true := by
  simp only [shapeI, Bool.and_eq_true] at h
  simpa [timeB] using h.1.1.1.1
theorem tree_shape {M : WorldM} (h : shapeI M = true) : Tree M := by
  rw [shape_same] at h
  simp only [worldH, Bool.and_eq_true] at h
  exact tree_of h.1.2
theorem cpus_shape {M : WorldM} (h : shapeI M = true) : M.cpus.length ≤ 4 := by
  simp only [shapeI, Bool.and_eq_true] at h
  have := (inR_iff.1 h.1.1.1.2).2
  omega
theorem gok_shape {M : WorldM} (h : shapeI M = true) (h2 : groupsI M = true) (hx : NextOk M) : GOk M := by
  have hT := tree_shape h
  rw [groups_same M hT.len hT.root (inR_iff.1 (now_of h)) hx] at h2
  exact gok_of h2
def tests (M : WorldM) : List Bool := [shapeI M, groupsI M, tasksI M, shelvesI M, cpusI M]
set_option maxRecDepth 100000 in
set_option maxHeartbeats 4000000 in
theorem iWorldOk_any (ca : Option Addr) (cc : Nat) (ta : Option Addr) (tc : Nat) (ga : Option Addr) (gc : Nat) (gh : Nat → GH) (M : WorldM) (w : World) (hs : WA w ca ta ga gh M) (hF : FitG M) (hx : NextOk M) :
    Calls Tryz.prog 38 #[.agg #[.int .i64 M.now, .slice ca M.cpus.length cc, .slice ta M.tasks.length tc, .slice ga M.groups.length gc]] w fun e w' => e = .returned (.bool (worldB M)) ∧ Below w.heap.size w w' := by
  rw [world_same M hx]
  have hx' := hx
  clear hx
  go_enter Tryz.func38, Tryz.ntmps38
  go_upto_region 1 with (fail)
  refine PA.gen (P := fun W => Code.wp _ _ _ _ W) hs ?_
  intro W b1 s1 pw
  clear s1 hs
  have HF := Lib.hid hF
  have HX := Lib.hid hx'
  clear hF hx'
  go_wp2
  go_step3
  go_wp2
  go_step3
  go_wp2
  go_loopw [4, 6, 9] (fun r _ i wr => ∃ k : Nat, k ≤ 5 ∧ i = .int .i64 k ∧ r = .bool true ∧ ((tests M).take k).all id = true ∧ Below W.heap.size W wr) (fun _ _ i _ => 5 - (intOf i).toNat)
  case atStart => exact ⟨0, by omega, rfl, rfl, rfl, (Below.refl _ _).alloc (Nat.le_refl _) _⟩
  case round =>
    obtain ⟨k, hk, rfl, rfl, hall, hb⟩ := hrel
    have HA := Lib.hid hall
    have pw2 := pw.keep hb
    clear hall
    have hk5 : k = 0 ∨ k = 1 ∨ k = 2 ∨ k = 3 ∨ k = 4 ∨ k = 5 := by omega
    clear hk
    rcases hk5 with rfl | rfl | rfl | rfl | rfl | rfl
    · have ik : ∀ w, (Instr.index 102 (.agg #[.func (.func 75) #[] #[], .func (.func 76) #[] #[], .func (.func 77) #[] #[], .func (.func 78) #[] #[], .func (.func 79) #[] #[]]) (.int .i64 0)).run Tryz.prog w = .ok (.func (.func 75) #[] #[]) w := fun _ => by kernel_rfl
      by_cases fk : shapeI M = true
      · have FK := Lib.hid fk
        have HN := Lib.hid (show ((tests M).take 1).all id = true by simp [tests, fk])
        clear fk
        go_wp2_with (go_at_call 75; refine (iShapeOk_any w.heap.size ca cc ta tc ga gc gh M _ pw2 HF.out).mono ?_; rintro e w3 ⟨rfl, hb3⟩; rw [FK.out])
        go_roundw
        case rel => exact ⟨1, by omega, rfl, rfl, HN.out, hb.andThen hb3⟩
        case measure => simp [intOf]
      · have FK := Lib.hid (show shapeI M = false by simpa only [Bool.not_eq_true] using fk)
        have HN := Lib.hid (show (shapeI M && (groupsI M && (tasksI M && (shelvesI M && cpusI M)))) = false by rw [FK.out]; simp)
        clear fk
        go_wp2_with (go_at_call 75; refine (iShapeOk_any w.heap.size ca cc ta tc ga gc gh M _ pw2 HF.out).mono ?_; rintro e w3 ⟨rfl, hb3⟩; rw [FK.out])
        rw [Exit.noGoto_ret]
        go_ret
        exact ⟨ret_bool HN.out.symm, b1.andThen (hb.andThen hb3)⟩
    · have ik : ∀ w, (Instr.index 102 (.agg #[.func (.func 75) #[] #[], .func (.func 76) #[] #[], .func (.func 77) #[] #[], .func (.func 78) #[] #[], .func (.func 79) #[] #[]]) (.int .i64 1)).run Tryz.prog w = .ok (.func (.func 76) #[] #[]) w := fun _ => by kernel_rfl
      have h1 : shapeI M = true := by simpa [tests] using HA.out
      have hnow := now_of h1
      have h0 : 0 < M.groups.length := by rw [(tree_shape h1).len]; decide
      clear h1
      by_cases fk : groupsI M = true
      · have FK := Lib.hid fk
        have HN := Lib.hid (show ((tests M).take 2).all id = true by have h := HA.out; simp [tests] at h ⊢; simp [h, fk])
        clear fk
        go_wp2_with (go_at_call 76; refine (iGroupsOk_any w.heap.size ca cc ta tc ga gc gh M _ pw2 HF.out h0 hnow).mono ?_; rintro e w3 ⟨rfl, hb3⟩; rw [FK.out])
        go_roundw
        case rel => exact ⟨2, by omega, rfl, rfl, HN.out, hb.andThen hb3⟩
        case measure => simp [intOf]
      · have FK := Lib.hid (show groupsI M = false by simpa only [Bool.not_eq_true] using fk)
        have HN := Lib.hid (show (shapeI M && (groupsI M && (tasksI M && (shelvesI M && cpusI M)))) = false by rw [FK.out]; simp)
        clear fk
        go_wp2_with (go_at_call 76; refine (iGroupsOk_any w.heap.size ca cc ta tc ga gc gh M _ pw2 HF.out h0 hnow).mono ?_; rintro e w3 ⟨rfl, hb3⟩; rw [FK.out])
        rw [Exit.noGoto_ret]
        go_ret
        exact ⟨ret_bool HN.out.symm, b1.andThen (hb.andThen hb3)⟩
    · have ik : ∀ w, (Instr.index 102 (.agg #[.func (.func 75) #[] #[], .func (.func 76) #[] #[], .func (.func 77) #[] #[], .func (.func 78) #[] #[], .func (.func 79) #[] #[]]) (.int .i64 2)).run Tryz.prog w = .ok (.func (.func 77) #[] #[]) w := fun _ => by kernel_rfl
      have h1 : shapeI M = true ∧ groupsI M = true := by simpa [tests] using HA.out
      have HT := Lib.hid (tree_shape h1.1)
      have HG := Lib.hid (gok_shape h1.1 h1.2 HX.out)
      have hc := cpus_shape h1.1
      clear h1
      by_cases fk : tasksI M = true
      · have FK := Lib.hid fk
        have HN := Lib.hid (show ((tests M).take 3).all id = true by have h := HA.out; simp [tests] at h ⊢; simp [h, fk])
        clear fk
        go_wp2_with (go_at_call 77; refine (iTasksOk_any w.heap.size ca cc ta tc ga gc gh M _ pw2 HF.out HT.out HG.out hc).mono ?_; rintro e w3 ⟨rfl, hb3⟩; rw [FK.out])
        go_roundw
        case rel => exact ⟨3, by omega, rfl, rfl, HN.out, hb.andThen hb3⟩
        case measure => simp [intOf]
      · have FK := Lib.hid (show tasksI M = false by simpa only [Bool.not_eq_true] using fk)
        have HN := Lib.hid (show (shapeI M && (groupsI M && (tasksI M && (shelvesI M && cpusI M)))) = false by rw [FK.out]; simp)
        clear fk
        go_wp2_with (go_at_call 77; refine (iTasksOk_any w.heap.size ca cc ta tc ga gc gh M _ pw2 HF.out HT.out HG.out hc).mono ?_; rintro e w3 ⟨rfl, hb3⟩; rw [FK.out])
        rw [Exit.noGoto_ret]
        go_ret
        exact ⟨ret_bool HN.out.symm, b1.andThen (hb.andThen hb3)⟩
    · have ik : ∀ w, (Instr.index 102 (.agg #[.func (.func 75) #[] #[], .func (.func 76) #[] #[], .func (.func 77) #[] #[], .func (.func 78) #[] #[], .func (.func 79) #[] #[]]) (.int .i64 3)).run Tryz.prog w = .ok (.func (.func 78) #[] #[]) w := fun _ => by kernel_rfl
      have h1 : shapeI M = true ∧ groupsI M = true ∧ tasksI M = true := by simpa [tests] using HA.out
      have HT := Lib.hid (tree_shape h1.1)
      have HG := Lib.hid (gok_shape h1.1 h1.2.1 HX.out)
      have hc := cpus_shape h1.1
      clear h1
      by_cases fk : shelvesI M = true
      · have FK := Lib.hid fk
        have HN := Lib.hid (show ((tests M).take 4).all id = true by have h := HA.out; simp [tests] at h ⊢; simp [h, fk])
        clear fk
        go_wp2_with (go_at_call 78; refine (iShelvesOk_any w.heap.size ca cc ta tc ga gc gh M _ pw2 HF.out HT.out HG.out hc).mono ?_; rintro e w3 ⟨rfl, hb3⟩; rw [FK.out])
        go_roundw
        case rel => exact ⟨4, by omega, rfl, rfl, HN.out, hb.andThen hb3⟩
        case measure => simp [intOf]
      · have FK := Lib.hid (show shelvesI M = false by simpa only [Bool.not_eq_true] using fk)
        have HN := Lib.hid (show (shapeI M && (groupsI M && (tasksI M && (shelvesI M && cpusI M)))) = false by rw [FK.out]; simp)
        clear fk
        go_wp2_with (go_at_call 78; refine (iShelvesOk_any w.heap.size ca cc ta tc ga gc gh M _ pw2 HF.out HT.out HG.out hc).mono ?_; rintro e w3 ⟨rfl, hb3⟩; rw [FK.out])
        rw [Exit.noGoto_ret]
        go_ret
        exact ⟨ret_bool HN.out.symm, b1.andThen (hb.andThen hb3)⟩
    · have ik : ∀ w, (Instr.index 102 (.agg #[.func (.func 75) #[] #[], .func (.func 76) #[] #[], .func (.func 77) #[] #[], .func (.func 78) #[] #[], .func (.func 79) #[] #[]]) (.int .i64 4)).run Tryz.prog w = .ok (.func (.func 79) #[] #[]) w := fun _ => by kernel_rfl
      have h1 : shapeI M = true ∧ groupsI M = true ∧ tasksI M = true ∧ shelvesI M = true := by simpa [tests] using HA.out
      have HT := Lib.hid (tree_shape h1.1)
      have HG := Lib.hid (gok_shape h1.1 h1.2.1 HX.out)
      have HE := Lib.hid (ear_of HT.out h1.2.2.1 h1.2.2.2)
      clear h1
      by_cases fk : cpusI M = true
      · have FK := Lib.hid fk
        have HN := Lib.hid (show ((tests M).take 5).all id = true by have h := HA.out; simp [tests] at h ⊢; simp [h, fk])
        clear fk
        go_wp2_with (go_at_call 79; refine (iCpusOk_any w.heap.size ca cc ta tc ga gc gh M _ pw2 HF.out HT.out HG.out HE.out).mono ?_; rintro e w3 ⟨rfl, hb3⟩; rw [FK.out])
        go_roundw
        case rel => exact ⟨5, by omega, rfl, rfl, HN.out, hb.andThen hb3⟩
        case measure => simp [intOf]
      · have FK := Lib.hid (show cpusI M = false by simpa only [Bool.not_eq_true] using fk)
        have HN := Lib.hid (show (shapeI M && (groupsI M && (tasksI M && (shelvesI M && cpusI M)))) = false by rw [FK.out]; simp)
        clear fk
        go_wp2_with (go_at_call 79; refine (iCpusOk_any w.heap.size ca cc ta tc ga gc gh M _ pw2 HF.out HT.out HG.out HE.out).mono ?_; rintro e w3 ⟨rfl, hb3⟩; rw [FK.out])
        rw [Exit.noGoto_ret]
        go_ret
        exact ⟨ret_bool HN.out.symm, b1.andThen (hb.andThen hb3)⟩
    · have HN := Lib.hid (show (shapeI M && (groupsI M && (tasksI M && (shelvesI M && cpusI M)))) = true by have h := HA.out; simp [tests] at h; simp [h])
      go_wp2
      rw [Exit.noGoto_ret]
      go_ret
      exact ⟨ret_bool HN.out.symm, b1.andThen hb⟩
end
end Go.Proofs.YtomllcclallcdaaGreatDoor
namespace Go.Proofs.YtomllcclallcdaaGreatDoor
section
open Go.RowKit Go.Sort
attribute [local go_sem] strB_size
theorem bu_below {B b : Nat} {bs : List Value} {w W : World} (h : Lib.IsBuilder 77 5 B b bs w) (hb : Below w.heap.size w W) : Lib.IsBuilder 77 5 B b bs W := by
  have go : ∀ p, Lib.BuilderAt 77 5 B b p bs w → Lib.BuilderAt 77 5 B b p bs W := fun p h => by
    have hlt := h.lt
    obtain ⟨hB, v, hbk, hown, hne⟩ := h
    exact ⟨hB, v, (hb.block b hlt).trans hbk, row_below hown hb, hne⟩
  rcases h with h | h
  · exact .inl (go _ h)
  · exact .inr (go _ h)
theorem strCells_strB (Y : List UInt8) : Lib.strCells (strB Y) = Lib.byteCells Y := rfl
theorem bText_any (B b : Nat) (X Y : List UInt8) (w : World) (h : Lib.IsBuilder 77 5 B b (Lib.byteCells X) w) (hX : X.length ≤ 100000) (hY : Y.length ≤ 100000) (hBw : B ≤ w.heap.size) :
    Calls Tryz.prog 39 #[.pointer (some ⟨b, 0, none⟩), .string (strB Y)] w fun e w' => e = .returned (.tuple #[.int .i64 Y.length, .nilIface]) ∧ Lib.IsBuilder 77 5 B b (Lib.byteCells (X ++ Y)) w' ∧ Below B w w' := by
  refine (bWrite_any B b _ (strB Y) w h (by rw [strB_size, Lib.byteCells_length]; omega) hBw).mono ?_
  rintro e w' ⟨rfl, h1, h2⟩
  refine ⟨by rw [strB_size], .inr ?_, h2⟩
  rw [Lib.byteCells_append, ← strCells_strB]
  exact h1
theorem iGroupT_any (ca : Option Addr) (ta : Option Addr) (ga : Option Addr) (gh : Nat → GH) (M : WorldM) (w : World) (hs : WA w ca ta ga gh M) (htab : Lib.TabIs Tryz.prog w "internal/strconv.uint64pow10" .u64 Lib.pow10Tab) (FA : Facts M) (NO : NumOk M) (k : Nat) (hk : k < 8) (hu : (grp M k).used = true) :
    Calls Tryz.prog 42 #[.int .i64 k, .agg #[.bool true, .int .i64 (grp M k).parent, .string (grp M k).name, .int .i64 (grp M k).weight, .int .i64 (grp M k).cpus, .int .i64 (grp M k).period, .int .i64 (grp M k).next, .int .i64 (grp M k).sum, .int .i64 (grp M k).band.quota, .int .i64 (grp M k).band.pool, .int .i64 (grp M k).band.spent, .slice (gh k).la (grp M k).band.locals.length (gh k).lc, .slice (gh k).da (grp M k).band.dry.length (gh k).dc, .slice (gh k).sa (grp M k).shelves.length (gh k).sc]] w fun e w' => e = .returned (.string (strB (groupT M k))) ∧ Below w.heap.size w w' := by
  have h := iGroup_any ca ta ga gh M w hs htab FA NO k hk hu
  rwa [hu] at h
set_option maxRecDepth 100000 in
set_option maxHeartbeats 8000000 in
theorem iText_any (ca : Option Addr) (cc : Nat) (ta : Option Addr) (tc : Nat) (ga : Option Addr) (gc : Nat) (gh : Nat → GH) (M : WorldM) (w : World) (hs : WA w ca ta ga gh M) (hF : FitG M) (hx : NextOk M) (htab : Lib.TabIs Tryz.prog w "internal/strconv.uint64pow10" .u64 Lib.pow10Tab) :
    Calls Tryz.prog 15 #[.agg #[.int .i64 M.now, .slice ca M.cpus.length cc, .slice ta M.tasks.length tc, .slice ga M.groups.length gc]] w fun e w' => e = .returned (.string (strB (textM M))) ∧ Below w.heap.size w w' := by
  have HX := Lib.hid hx
  have HT := Lib.hid htab
  clear hx htab
  go_enter Tryz.func15, Tryz.ntmps15
  go_upto_region 1 with (fail)
  refine PA.gen (P := fun W => Code.wp _ _ _ _ W) hs ?_
  intro W b1 s1 pw
  have hcm := hF.cpu
  have htm := hF.task
  have hgm := hF.group
  have PW0 := Lib.hid pw
  obtain ⟨q0, q1, q2, q3, q4, q5⟩ := pw
  clear s1
  by_cases f1 : worldB M = true
  · have F1 := Lib.hid f1
    clear f1
    have HFA := Lib.hid (facts_of F1.out)
    have HNO := Lib.hid (numOk_of F1.out HX.out)
    have TM := Lib.hid (show textM M = bodyT M by rw [textM, if_pos F1.out])
    go_upto_region 4 with (go_at_call 38; refine (iWorldOk_any ca cc ta tc ga gc gh M _ q5 hF HX.out).mono ?_; rintro e w2 ⟨rfl, hb2⟩; rw [F1.out]; have r1 := (hb2.cell (p := ⟨w.heap.size, 0, none⟩) q0).trans q1; have r2 := (hb2.cell (p := ⟨w.heap.size, 1, none⟩) q0).trans q2; have r3 := (hb2.cell (p := ⟨w.heap.size, 2, none⟩) q0).trans q3; have r4 := (hb2.cell (p := ⟨w.heap.size, 3, none⟩) q0).trans q4; have r0 := Nat.lt_of_lt_of_le q0 hb2.size)
    have PW2 := Lib.hid (PW0.out.keep hb2)
    have HB0 := Lib.hid (Lib.fresh_isBuilder 77 5 w2)
    have bA : Below w2.heap.size w2 (w2.alloc (.cells #[.pointer none, .slice none 0 0] 77)) := (Below.refl _ _).alloc (Nat.le_refl _) _
    have hW3 : (w2.alloc (.cells #[.pointer none, .slice none 0 0] 77)).heap.size = w2.heap.size + 1 := by simp
    have HT3 := Lib.hid (tab_keep HT.out (b1.andThen hb2))
    have bel2 := Lib.hid (b1.andThen hb2)
    generalize (w2.alloc (.cells #[.pointer none, .slice none 0 0] 77)) = W3 at *
    clear q0 q1 q2 q3 q4 q5 r0 r1 r2 r3 r4 hb2 b1 PW0
    have pw3 := PW2.out.keep bA
    obtain ⟨q0, q1, q2, q3, q4, q5⟩ := pw3
    obtain ⟨n2, hn2⟩ : ∃ n2, w2.heap.size = n2 := ⟨_, rfl⟩
    have HN2 := Lib.hid hn2
    rw [hn2] at HB0 hW3 ⊢
    have HW3 := Lib.hid hW3
    clear hn2 hW3
    go_upto_region 5 with (first | (go_at_call 40; refine (iRow_any ⟨#[110, 111, 119]⟩ _ _ [M.now] _ (IntS.fresh0 _ _ _ rfl _) (by decide) (by simp) HNO.out.nowF (tab_keep HT3.out (bA.andThen ((Below.refl _ _).alloc (Nat.le_refl _) _)))).mono ?_; rintro e w4 ⟨rfl, hb4⟩; rw [show lineB (⟨#[110, 111, 119]⟩ : ByteArray).data.toList [M.now] = preC M 0 by simp [preC, catB]]) | (go_at_call 39; refine (bText_any n2 n2 ([]) (preC M 0) _ (bu_below HB0.out (((Below.refl _ _).alloc (Nat.le_refl _) _).andThen hb4)) (by simp) (by have := preC_len HFA.out HNO.out (Nat.zero_le M.cpus.length); omega) (by have := (((Below.refl _ W3).alloc (Nat.le_refl _) _).andThen hb4).size; have := HW3.out; omega)).mono ?_; rintro e w5 ⟨rfl, hB5, hb5⟩))
    rw [List.nil_append] at hB5
    have hw5 : Below n2 w2 w5 := Below.trans (by rw [← HN2.out]; exact bA.andThen (((Below.refl _ _).alloc (Nat.le_refl _) _).andThen hb4)) hb5
    clear hb4 hb5 bA HW3 HB0 q0 q1 q2 q3 q4 q5
    have PWK := Lib.hid (fun (X : World) (h : Below n2 w2 X) => PW2.out.keep (show Below w2.heap.size w2 X by rw [HN2.out]; exact h))
    have TBK := Lib.hid (fun (X : World) (h : Below n2 w2 X) => tab_keep HT3.out (show Below w2.heap.size w2 X by rw [HN2.out]; exact h))
    have SZK := Lib.hid (fun (X : World) (h : Below n2 w2 X) => (show n2 ≤ X.heap.size by rw [← HN2.out]; exact h.size))
    have pw5 := PWK.out _ hw5
    obtain ⟨q0, q1, q2, q3, q4, q5⟩ := pw5
    go_wp2
    go_loopw [21] (fun i wr => ∃ c : Nat, c ≤ M.cpus.length ∧ i = .int .i64 c ∧ Lib.IsBuilder 77 5 n2 n2 (Lib.byteCells (preC M c)) wr ∧ Below n2 w2 wr) (fun i _ => M.cpus.length - (intOf i).toNat)
    case atStart => exact ⟨0, by omega, rfl, hB5, hw5⟩
    case round =>
      obtain ⟨c, hc, rfl, hBu, hb⟩ := hrel
      have HBU := Lib.hid hBu
      clear hBu
      have pw5 := PWK.out _ hb
      clear q0 q1 q2 q3 q4 q5
      obtain ⟨q0, q1, q2, q3, q4, q5⟩ := pw5
      have HXL := Lib.hid (preC_len HFA.out HNO.out hc)
      by_cases hlt : c < M.cpus.length
      · obtain ⟨b, o, rfl, hB, c0, c1, c2, c3, c4⟩ := q5.cpu_ hlt
        have hc0 : (0 : Int) ≤ (c : Int) := by omega
        have hc1 : (c : Int) < (M.cpus.length : Int) := by omega
        have hc9 : (c : Int) < 9 := by have := HFA.out.c4; omega
        go_upto_region 8 with (fail)
        refine gen1 (p := fun W => Code.wp _ _ _ _ W) ?_
        intro W5 b5 s5 kz
        have z0 := kz.cell 0
        have z1 := kz.cell 1
        have z2 := kz.cell 2
        have z3 := kz.cell 3
        have z4 := kz.cell 4
        simp at z0 z1 z2 z3 z4
        have HBEL := Lib.hid (hb.trans (b5.mono (SZK.out _ hb)))
        have HBU5 := Lib.hid (bu_below HBU.out b5)
        have bd : Below W5.heap.size W5 W5.drew := ⟨rfl, rfl, rfl, Nat.le_refl _, fun _ _ => rfl⟩
        have q_0 := fun d os => cell_regrown z0 d os
        have q_1 := fun d os => cell_regrown z1 d os
        have q_2 := fun d os => cell_regrown z2 d os
        have q_3 := fun d os => cell_regrown z3 d os
        have q_4 := fun d os => cell_regrown z4 d os
        have HC := Lib.hid (preC_succ M c)
        have HY := Lib.hid (cpuT_len HNO.out hlt)
        have HSR := Lib.hid (HNO.out.cpuF c hlt)
        have HSH := Lib.hid (show lineB [99, 112, 117] [bitM (cpo M c).up, (cpo M c).cur, (cpo M c).ran, (cpo M c).busy, (cpo M c).idle] = cpuT M c from rfl)
        have hsz5 := SZK.out _ HBEL.out
        clear kz s5 c0 c1 c2 c3 c4 q0 q1 q2 q3 q4 q5 z0 z1 z2 z3 z4 b5 hb HBU
        refine region_V 13 [0, 0, 0, 0, 0, 0, 0, 0, 0, 0, 1, 1, 1, 2] [0, 1, 3, 4, 5, 6, 7, 8, 9, 10, 2, 11, 12, 13] (by kernel_rfl) (by kernel_rfl) (by kernel_rfl) (by kernel_rfl) (by decide) rfl (by kernel_rfl) (by kernel_rfl) ?_
        simp only [permL, List.getElem?_cons_zero, List.getElem?_cons_succ, Option.toList_some, List.cons_append, List.nil_append]
        repeat (first | (refine wpS_skip (by rfl) ?_; simp only [Act.put, List.setIfInBounds_toArray, List.set_cons_zero, List.set_cons_succ]) | (refine wpS_det (by rfl) (fun K hK => ?_); go_big_quiet_op; refine hK _ ?_; clear hK K))
        refine wpS_bar (by rfl) (fun K hK => ?_)
        go_big_op
        go_at_call 41
        refine (iBit_any _ _).mono ?_
        rintro e w' ⟨rfl, rfl⟩
        refine hK _ _ (regrown_of_below bd) ?_
        clear hK K
        refine wpS_bar (by rfl) (fun K hK => ?_)
        go_big_op
        refine hK _ _ (regrown_of_below (bd.andThen ((Below.refl _ _).alloc (Nat.le_refl _) _))) ?_
        clear hK K
        refine wpS_bar (by rfl) (fun K hK => ?_)
        go_big_op
        go_at_call 40
        refine (iRow_any ⟨#[99, 112, 117]⟩ _ _ [bitM (cpo M c).up, (cpo M c).cur, (cpo M c).ran, (cpo M c).busy, (cpo M c).idle] _ (IntS.fresh _ _ _ rfl _) (by decide) (by simp) HSR.out (TBK.out _ (HBEL.out.trans ((((Below.refl _ W5).alloc (Nat.le_refl _) _).drew).mono (SZK.out _ HBEL.out))))).mono ?_
        rintro e w6 ⟨rfl, hb6⟩
        rw [show (⟨#[99, 112, 117]⟩ : ByteArray).data.toList = [99, 112, 117] from rfl, HSH.out]
        refine hK _ _ (regrown_of_below ((bd.andThen ((Below.refl _ _).alloc (Nat.le_refl _) _)).andThen hb6)) ?_
        clear hK K
        refine wpS_end (by rfl) (fun K hK => ?_)
        go_big_op
        go_at_call 39
        refine (bText_any n2 n2 (preC M c) (cpuT M c) _ (bu_below HBU5.out ((bd.andThen ((Below.refl _ _).alloc (Nat.le_refl _) _)).andThen hb6)) (by have := HXL.out; omega) (by have := HY.out; omega) (by have := ((bd.andThen ((Below.refl _ _).alloc (Nat.le_refl _) _)).andThen hb6).size; omega)).mono ?_
        rintro e w7 ⟨rfl, hB7, hb7⟩
        refine hK _ _ ?_
        clear hK K
        refine wpS_nil ?_
        have hw7 : Below n2 w2 w7 := (HBEL.out.trans (((bd.andThen ((Below.refl _ _).alloc (Nat.le_refl _) _)).andThen hb6).mono (SZK.out _ HBEL.out))).trans hb7
        rw [← HC.out] at hB7
        go_wp2
        go_roundw
        case rel => exact ⟨c + 1, by omega, by go_num, hB7, hw7⟩
        case measure => simp [intOf]; omega
      · have HE := Lib.hid (show preC M c = preG M 0 by rw [show c = M.cpus.length by omega]; simp [preG, groupsT, catB])
        have hge : (M.cpus.length : Int) ≤ (c : Int) := by omega
        have hdec : decide (c < M.cpus.length) = false := decide_eq_false (by omega)
        have HBU2 := Lib.hid (show Lib.IsBuilder 77 5 n2 n2 (Lib.byteCells (preG M 0)) wr by rw [← HE.out]; exact HBU.out)
        have HBW := Lib.hid hb
        clear hlt hc HBU
        go_wp2
        clear hge hdec
        go_loopw [43] (fun i wr => ∃ k : Nat, k ≤ M.groups.length ∧ i = .int .i64 k ∧ Lib.IsBuilder 77 5 n2 n2 (Lib.byteCells (preG M k)) wr ∧ Below n2 w2 wr) (fun i _ => M.groups.length - (intOf i).toNat)
        case atStart => exact ⟨0, by omega, rfl, HBU2.out, HBW.out⟩
        case round =>
          obtain ⟨k, hk, rfl, hBu, hb⟩ := hrel
          have HBU := Lib.hid hBu
          clear hBu HBU2 HBW
          have pw5 := PWK.out _ hb
          clear q0 q1 q2 q3 q4 q5
          obtain ⟨q0, q1, q2, q3, q4, q5⟩ := pw5
          have HXL := Lib.hid (preG_len HFA.out HNO.out (k := k) (by have := HFA.out.tree.len; omega))
          by_cases hlt : k < M.groups.length
          · obtain ⟨b, o, rfl, hB, c0, c1, c2, c3, c4, c5, c6, c7, c8, c9, c10, c11, c12, c13⟩ := q5.group_ hlt
            have hk8 : k < 8 := by have := HFA.out.tree.len; omega
            have hc0 : (0 : Int) ≤ (k : Int) := by omega
            have hc1 : (k : Int) < (M.groups.length : Int) := by omega
            have hc9 : (k : Int) < 9 := by omega
            have HSL := Lib.hid hlt
            cases hu : (grp M k).used with
            | true =>
              have HU := Lib.hid hu
              rw [hu] at c0
              clear hu
              go_upto_region 13 with (fail)
              refine gen1 (p := fun W => Code.wp _ _ _ _ W) ?_
              intro W5 b5 s5 kz
              have z0 := kz.cell 0
              have z1 := kz.cell 1
              have z2 := kz.cell 2
              have z3 := kz.cell 3
              have z4 := kz.cell 4
              have z5 := kz.cell 5
              have z6 := kz.cell 6
              have z7 := kz.cell 7
              have z8 := kz.cell 8
              have z9 := kz.cell 9
              have z10 := kz.cell 10
              have z11 := kz.cell 11
              have z12 := kz.cell 12
              have z13 := kz.cell 13
              simp at z0 z1 z2 z3 z4 z5 z6 z7 z8 z9 z10 z11 z12 z13
              have HBEL := Lib.hid (hb.trans (b5.mono (SZK.out _ hb)))
              have HBU5 := Lib.hid (bu_below HBU.out b5)
              have HY := Lib.hid (groupT_len HFA.out HNO.out hk8 HU.out)
              have hsz5 := SZK.out _ HBEL.out
              clear kz s5 c0 c1 c2 c3 c4 c5 c6 c7 c8 c9 c10 c11 c12 c13 q0 q1 q2 q3 q4 q5 b5 hb HBU
              go_wp2_with (first | (go_at_call 42; refine (iGroupT_any ca ta _ gh M _ (PWK.out _ HBEL.out).wa (TBK.out _ HBEL.out) HFA.out HNO.out k hk8 HU.out).mono ?_; rintro e w6 ⟨rfl, hb6⟩) | (go_at_call 39; refine (bText_any n2 n2 (preG M k) (groupT M k) _ (bu_below HBU5.out hb6) (by have := HXL.out; omega) (by have := HY.out; omega) (by have := hb6.size; omega)).mono ?_; rintro e w7 ⟨rfl, hB7, hb7⟩))
              rw [← preG_t HU.out] at hB7
              have hw7 : Below n2 w2 w7 := (HBEL.out.trans (hb6.mono (SZK.out _ HBEL.out))).trans hb7
              go_roundw
              case rel => exact ⟨k + 1, by omega, by go_num, hB7, hw7⟩
              case measure => simp [intOf]; omega
            | false =>
              have HU := Lib.hid hu
              rw [hu] at c0
              clear hu
              go_upto_region 13 with (fail)
              refine gen1 (p := fun W => Code.wp _ _ _ _ W) ?_
              intro W5 b5 s5 kz
              have z0 := kz.cell 0
              simp at z0
              have HBEL := Lib.hid (hb.trans (b5.mono (SZK.out _ hb)))
              have HBU5 := Lib.hid (bu_below HBU.out b5)
              clear kz s5 c0 c1 c2 c3 c4 c5 c6 c7 c8 c9 c10 c11 c12 c13 q0 q1 q2 q3 q4 q5 b5 hb HBU
              go_wp2
              go_roundw
              case rel => exact ⟨k + 1, by omega, by go_num, by rw [preG_f HU.out]; exact HBU5.out, HBEL.out⟩
              case measure => simp [intOf]; omega
          · have HE2 := Lib.hid (show preG M k = preT M 0 by rw [show k = M.groups.length by omega]; simp [preT, tasksT, catB])
            have hge : (M.groups.length : Int) ≤ (k : Int) := by omega
            have hdec : decide (k < M.groups.length) = false := decide_eq_false (by omega)
            have HBU2 := Lib.hid (show Lib.IsBuilder 77 5 n2 n2 (Lib.byteCells (preT M 0)) wr by rw [← HE2.out]; exact HBU.out)
            have HBW := Lib.hid hb
            clear hlt hk HBU
            go_wp2
            clear hge hdec
            go_loopw [58] (fun i wr => ∃ t : Nat, t ≤ M.tasks.length ∧ i = .int .i64 t ∧ Lib.IsBuilder 77 5 n2 n2 (Lib.byteCells (preT M t)) wr ∧ Below n2 w2 wr) (fun i _ => M.tasks.length - (intOf i).toNat)
            case atStart => exact ⟨0, by omega, rfl, HBU2.out, HBW.out⟩
            case round =>
              obtain ⟨t, ht, rfl, hBu, hb⟩ := hrel
              have HBU := Lib.hid hBu
              clear hBu HBU2 HBW
              have pw5 := PWK.out _ hb
              clear q0 q1 q2 q3 q4 q5
              obtain ⟨q0, q1, q2, q3, q4, q5⟩ := pw5
              have HXL2 := Lib.hid (preT_len HFA.out HNO.out ht)
              by_cases hlt : t < M.tasks.length
              · obtain ⟨b, o, rfl, hB, c0, c1, c2, c3, c4, c5, c6, c7, c8⟩ := q5.task_ hlt
                have hc0 : (0 : Int) ≤ (t : Int) := by omega
                have hc1 : (t : Int) < (M.tasks.length : Int) := by omega
                have hc9 : (t : Int) < 13 := by have := HFA.out.t12; omega
                go_upto_region 19 with (fail)
                refine gen1 (p := fun W => Code.wp _ _ _ _ W) ?_
                intro W5 b5 s5 kz
                have z0 := kz.cell 0
                have z1 := kz.cell 1
                have z2 := kz.cell 2
                have z3 := kz.cell 3
                have z4 := kz.cell 4
                have z5 := kz.cell 5
                have z6 := kz.cell 6
                have z7 := kz.cell 7
                have z8 := kz.cell 8
                simp at z0 z1 z2 z3 z4 z5 z6 z7 z8
                have HBEL := Lib.hid (hb.trans (b5.mono (SZK.out _ hb)))
                have HBU5 := Lib.hid (bu_below HBU.out b5)
                have hsz5 := SZK.out _ HBEL.out
                clear kz s5 c0 c1 c2 c3 c4 c5 c6 c7 c8 q0 q1 q2 q3 q4 q5 b5 hb HBU
                by_cases hst : (tsk M t).st = 0
                · have hz : ((tsk M t).st != 0) = false := by simp [hst]
                  have HC := Lib.hid (preT_f hst)
                  clear hst
                  go_wp2
                  go_roundw
                  case rel => exact ⟨t + 1, by omega, by go_num, by rw [HC.out]; exact HBU5.out, HBEL.out⟩
                  case measure => simp [intOf]; omega
                · have hz : ((tsk M t).st != 0) = true := by simp [hst]
                  have HC := Lib.hid (preT_t hst)
                  have HY := Lib.hid (taskT_len HNO.out hlt hst)
                  have HSR := Lib.hid (HNO.out.tskF t hlt hst)
                  have HSH := Lib.hid (show lineB [116, 97, 115, 107] [(t : Int), (tsk M t).st, (tsk M t).gr, (tsk M t).cpu, (tsk M t).nice, (tsk M t).mask, (tsk M t).v, (tsk M t).sum, (tsk M t).used, (tsk M t).load] = taskT M t from rfl)
                  clear hst
                  go_wp2_with (first | (go_at_call 40; refine (iRow_any ⟨#[116, 97, 115, 107]⟩ _ _ [(t : Int), (tsk M t).st, (tsk M t).gr, (tsk M t).cpu, (tsk M t).nice, (tsk M t).mask, (tsk M t).v, (tsk M t).sum, (tsk M t).used, (tsk M t).load] _ (IntS.fresh0 _ _ _ rfl _) (by decide) (by simp) HSR.out (TBK.out _ (HBEL.out.trans (((Below.refl _ _).alloc (Nat.le_refl _) _).mono (SZK.out _ HBEL.out))))).mono ?_; rintro e w6 ⟨rfl, hb6⟩; rw [show (⟨#[116, 97, 115, 107]⟩ : ByteArray).data.toList = [116, 97, 115, 107] from rfl, HSH.out]) | (go_at_call 39; refine (bText_any n2 n2 (preT M t) (taskT M t) _ (bu_below HBU5.out (((Below.refl _ _).alloc (Nat.le_refl _) _).andThen hb6)) (by have := HXL2.out; omega) (by have := HY.out; omega) (by have := (((Below.refl _ W5).alloc (Nat.le_refl _) _).andThen hb6).size; omega)).mono ?_; rintro e w7 ⟨rfl, hB7, hb7⟩))
                  rw [← HC.out] at hB7
                  have hw7 : Below n2 w2 w7 := (HBEL.out.trans ((((Below.refl _ _).alloc (Nat.le_refl _) _).andThen hb6).mono (SZK.out _ HBEL.out))).trans hb7
                  go_roundw
                  case rel => exact ⟨t + 1, by omega, by go_num, hB7, hw7⟩
                  case measure => simp [intOf]; omega
              · have HE3 := Lib.hid (show preT M t = textM M by rw [TM.out, ← pre_body, show t = M.tasks.length by omega])
                have hge2 : (M.tasks.length : Int) ≤ (t : Int) := by omega
                have HBU3 := Lib.hid (show Lib.IsBuilder 77 5 n2 n2 (Lib.byteCells (textM M)) wr by rw [← HE3.out]; exact HBU.out)
                have hsz := SZK.out _ hb
                clear hlt
                go_wp2_with (go_at_call 43; refine (Tryz.Builder_String_any n2 n2 (textM M) _ HBU3.out hsz).mono ?_; rintro e w8 ⟨rfl, hb8⟩)
                go_ret
                exact ⟨rfl, bel2.out.andThen (show Below w2.heap.size w2 w8 by rw [HN2.out]; exact hb.trans hb8)⟩
  · have F1 := Lib.hid (show worldB M = false by simpa only [Bool.not_eq_true] using f1)
    clear f1
    have TM := Lib.hid (show (⟨#[]⟩ : ByteArray) = strB (textM M) by rw [textM, if_neg (by rw [F1.out]; simp)]; rfl)
    go_wp2_with (go_at_call 38; refine (iWorldOk_any ca cc ta tc ga gc gh M _ q5 hF HX.out).mono ?_; rintro e w2 ⟨rfl, hb2⟩; rw [F1.out]; have r1 := (hb2.cell (p := ⟨w.heap.size, 0, none⟩) q0).trans q1; have r2 := (hb2.cell (p := ⟨w.heap.size, 1, none⟩) q0).trans q2; have r3 := (hb2.cell (p := ⟨w.heap.size, 2, none⟩) q0).trans q3; have r4 := (hb2.cell (p := ⟨w.heap.size, 3, none⟩) q0).trans q4; have r0 := Nat.lt_of_lt_of_le q0 hb2.size)
    go_ret
    exact ⟨ret_str TM.out, b1.andThen hb2⟩
end
end Go.Proofs.YtomllcclallcdaaGreatDoor
namespace Go.Proofs.YtomllcclallcdaaGreatDoor
section
open Go.RowKit Go.Sort
theorem suf_has (l : List UInt8) : Lib.hasSuffix l [10] = decide (l.getLast? = some 10) := by
  unfold Lib.hasSuffix
  rcases List.eq_nil_or_concat l with rfl | ⟨a, b, rfl⟩
  · rfl
  · rw [List.concat_eq_append, List.getLast?_append]
    by_cases h : b = 10
    · subst h
      rw [decide_eq_true (by simp)]
      exact List.isSuffixOf_iff_suffix.2 (List.suffix_append _ _)
    · rw [decide_eq_false (by simpa using h)]
      rw [Bool.eq_false_iff]
      intro hs
      obtain ⟨t, ht⟩ := List.isSuffixOf_iff_suffix.1 hs
      have := congrArg List.getLast? ht
      simp at this
      exact h this.symm
theorem suf_trim {l : List UInt8} (h : l.getLast? = some 10) : Lib.trimSuffix l [10] = l.dropLast := by
  unfold Lib.trimSuffix
  rw [suf_has, if_pos (by simpa using h), List.dropLast_eq_take]
  rfl
theorem iSuf_any (s : ByteArray) (w : World) (hs : s.size ≤ 9223372036854775807) : Calls Tryz.prog 12 #[.string s, .string ⟨#[10]⟩] w fun e w' => ∃ b : ByteArray, e = .returned (.tuple #[.string b, .bool (decide (s.data.toList.getLast? = some 10))]) ∧ w = w' ∧ (s.data.toList.getLast? = some 10 → b = strB s.data.toList.dropLast) := by
  refine (Tryz.strings_CutSuffix s ⟨#[10]⟩ w hs).mono fun e w' hh => ?_
  obtain ⟨rfl, rfl⟩ := hh
  have e1 : (⟨#[10]⟩ : ByteArray).data.toList = [10] := rfl
  rw [e1, suf_has]
  refine ⟨_, rfl, rfl, fun h => ?_⟩
  rw [suf_trim h]
  rfl
theorem outIm_no {s : List UInt8} (h : ¬ (s.length ≤ 20000 ∧ s.getLast? = some 10)) : outIm s = none := by
  unfold outIm
  rw [if_neg h]
theorem outIm_done {s : List UInt8} {L : List (List UInt8)} {X : WorldM} (hL : cutB 10 s.dropLast = L) (hl : s.length ≤ 20000) (h10 : s.getLast? = some 10) (h : L.foldlM lineIm blankM = some X) : outIm s = if textM X = s then some X else none := by
  unfold outIm
  rw [if_pos ⟨hl, h10⟩, hL, h]
  rfl
theorem outIm_none {s : List UInt8} {L : List (List UInt8)} (hL : cutB 10 s.dropLast = L) {k : Nat} (hk : k < L.length) (h : (L.take (k + 1)).foldlM lineIm blankM = none) : outIm s = none := by
  unfold outIm
  split
  · rw [hL, ← List.take_append_drop (k + 1) L, List.foldlM_append, h]
    rfl
  · rfl
set_option maxRecDepth 100000 in
set_option maxHeartbeats 4000000 in
theorem iRead_long (s : ByteArray) (w : World) (hs : 20000 < s.size) (hs2 : s.size ≤ 9223372036854775807) : Calls Tryz.prog 5 #[.string s] w (RPost world0' false w) := by
  have i1 : (20000 : Int) < (s.size : Int) := by omega
  have SF := Lib.hid (fun (W : World) => iSuf_any s W hs2)
  clear hs hs2
  go_enter Tryz.func5, Tryz.ntmps5
  go_upto_region 1 with (fail)
  refine gen1 (p := fun W => Code.wp _ _ _ _ W) ?_
  intro W b1 s1 k1
  have B1 := Lib.hid b1
  have K1 := Lib.hid k1
  have S1 := Lib.hid s1
  clear b1 s1 k1
  go_upto_region 2 with (go_at_call 12; refine (SF.out _).mono ?_; rintro e w2 ⟨b, rfl, rfl, hb⟩)
  clear hb
  generalize decide (s.data.toList.getLast? = some 10) = d0 at *
  go_upto_region 3 with (fail)
  have d0 := K1.out.cell 0
  have d1 := K1.out.cell 1
  have d2 := K1.out.cell 2
  have d3 := K1.out.cell 3
  have df := fun i => K1.out.frozen i
  simp at d0 d1 d2 d3
  go_wp2
  have kk := Lib.hid (show Keep (fun i => i = w.heap.size) W ((((W.setCell ⟨w.heap.size, 0, none⟩ (.int .i64 0)).setCell ⟨w.heap.size, 1, none⟩ (.slice none 0 0)).setCell ⟨w.heap.size, 2, none⟩ (.slice none 0 0)).setCell ⟨w.heap.size, 3, none⟩ (.slice none 0 0)) from ((((Keep.set _ _ _ (by rfl)).trans (Keep.set _ _ _ (by rfl))).trans (Keep.set _ _ _ (by rfl))).trans (Keep.set _ _ _ (by rfl))))
  refine bodyPost_ret (v := .tuple #[.agg #[.int .i64 0, .slice none 0 0, .slice none 0 0, .slice none 0 0], .bool false]) (by simp [results, Tryz.results5, go_sem, *]) rfl ?_
  refine ⟨wh0, rfl, ?_, own0 _ _⟩
  exact B1.out.trans (kk.out.below B1.out.size fun i h => by omega)
set_option maxRecDepth 100000 in
set_option maxHeartbeats 4000000 in
theorem iRead_end (s : ByteArray) (w : World) (hs : s.size ≤ 20000) (h10 : ¬ s.data.toList.getLast? = some 10) : Calls Tryz.prog 5 #[.string s] w (RPost world0' false w) := by
  have i1 : (s.size : Int) ≤ 20000 := by omega
  have i2 : decide ((20000 : Int) < (s.size : Int)) = false := decide_eq_false (by omega)
  have SF := Lib.hid (fun (W : World) => iSuf_any s W (by omega))
  have d0 : decide (s.data.toList.getLast? = some 10) = false := decide_eq_false h10
  rw [d0] at SF
  clear hs h10 d0
  go_enter Tryz.func5, Tryz.ntmps5
  go_upto_region 1 with (fail)
  refine gen1 (p := fun W => Code.wp _ _ _ _ W) ?_
  intro W b1 s1 k1
  have B1 := Lib.hid b1
  have K1 := Lib.hid k1
  have S1 := Lib.hid s1
  clear b1 s1 k1
  go_upto_region 2 with (go_at_call 12; refine (SF.out _).mono ?_; rintro e w2 ⟨b, rfl, rfl, hb⟩)
  clear hb
  go_upto_region 3 with (fail)
  clear i2
  have d0 := K1.out.cell 0
  have d1 := K1.out.cell 1
  have d2 := K1.out.cell 2
  have d3 := K1.out.cell 3
  have df := fun i => K1.out.frozen i
  simp at d0 d1 d2 d3
  go_wp2
  have kk := Lib.hid (show Keep (fun i => i = w.heap.size) W ((((W.setCell ⟨w.heap.size, 0, none⟩ (.int .i64 0)).setCell ⟨w.heap.size, 1, none⟩ (.slice none 0 0)).setCell ⟨w.heap.size, 2, none⟩ (.slice none 0 0)).setCell ⟨w.heap.size, 3, none⟩ (.slice none 0 0)) from ((((Keep.set _ _ _ (by rfl)).trans (Keep.set _ _ _ (by rfl))).trans (Keep.set _ _ _ (by rfl))).trans (Keep.set _ _ _ (by rfl))))
  refine bodyPost_ret (v := .tuple #[.agg #[.int .i64 0, .slice none 0 0, .slice none 0 0, .slice none 0 0], .bool false]) (by simp [results, Tryz.results5, go_sem, *]) rfl ?_
  refine ⟨wh0, rfl, ?_, own0 _ _⟩
  exact B1.out.trans (kk.out.below B1.out.size fun i h => by omega)
set_option maxRecDepth 100000 in
set_option maxHeartbeats 4000000 in
theorem iRead_main (s : ByteArray) (w : World) (hs : s.size ≤ 20000) (h10 : s.data.toList.getLast? = some 10) (hlib : LibS w) (htab : Lib.TabIs Tryz.prog w "internal/strconv.uint64pow10" .u64 Lib.pow10Tab) : Calls Tryz.prog 5 #[.string s] w (RPost (readW (outIm s.data.toList)) (outIm s.data.toList).isSome w) := by
  have i1 : (s.size : Int) ≤ 20000 := by omega
  have i2 : decide ((20000 : Int) < (s.size : Int)) = false := decide_eq_false (by omega)
  have HS := Lib.hid hs
  have SF := Lib.hid (fun (W : World) => iSuf_any s W (by omega))
  have d0 : decide (s.data.toList.getLast? = some 10) = true := decide_eq_true h10
  rw [d0] at SF
  have H10 := Lib.hid h10
  clear d0 h10
  obtain ⟨L, hL⟩ : ∃ L, cutB 10 s.data.toList.dropLast = L := ⟨_, rfl⟩
  have HLE := Lib.hid hL
  have hsb : (strB s.data.toList.dropLast).size ≤ 20000 := by rw [strB_size, List.length_dropLast]; have := len_s s; omega
  have LN := Lib.hid (show ∀ W, LibS W → Calls Tryz.prog 13 #[.string (strB s.data.toList.dropLast), .string ⟨#[10]⟩] W (fun e w' => e = .returned (.slice (some ⟨W.heap.size, 0, none⟩) L.length L.length) ∧ Below W.heap.size W w' ∧ WordS w' (some ⟨W.heap.size, 0, none⟩) L) from fun W hW => by have := iSplit_any (strB s.data.toList.dropLast) 10 hsb W hW; rw [show (strB s.data.toList.dropLast).data.toList = s.data.toList.dropLast from rfl, hL] at this; exact this)
  have HLN := Lib.hid (show ∀ a ∈ L, a.length ≤ 20000 from fun a ha => by rw [← hL] at ha; exact lines_len (by rw [List.length_dropLast]; have := len_s s; omega) a ha)
  have lc0 : (L.length : Int) ≤ 20001 := by rw [← hL]; have := cut_count 10 s.data.toList.dropLast; rw [List.length_dropLast] at this; have := len_s s; omega
  have HLS := Lib.hid hlib
  have HTB := Lib.hid htab
  clear hL hs hsb hlib htab
  go_enter Tryz.func5, Tryz.ntmps5
  go_upto_region 1 with (fail)
  refine gen1 (p := fun W => Code.wp _ _ _ _ W) ?_
  intro W b1 s1 k1
  have B1 := Lib.hid b1
  have K1 := Lib.hid k1
  have S1 := Lib.hid s1
  clear b1 s1 k1
  go_upto_region 2 with (go_at_call 12; refine (SF.out _).mono ?_; rintro e w2 ⟨b, rfl, rfl, hb⟩)
  have eb := hb H10.out
  subst eb
  generalize hbd : strB s.data.toList.dropLast = bd at *
  clear hb
  go_upto_region 4 with (fail)
  have gm1 := gmT
  have gm2 := gmG
  refine wp_cut (fun kt kg kb => { tmps := #[.string s, undef, .pointer (some ⟨w.heap.size, 0, none⟩), .bool false, .string bd, .bool true, .pointer (some ⟨kb, 0, none⟩), undef, undef, .tuple #[.string bd, .bool true], .string s, .tuple #[.string bd, .bool true], .string bd, .bool true, .string s, .int .i64 s.size, .bool false, .bool false, .bool true, .bool false, .bool false, undef, .slice (some ⟨kt, 0, none⟩) 12 12, .slice (some ⟨kg, 0, none⟩) 8 8, .agg #[.int .i64 0, .slice none 0 0, .slice (some ⟨kt, 0, none⟩) 12 12, .slice (some ⟨kg, 0, none⟩) 8 8], undef, undef, undef, undef, undef, undef, undef, undef, undef, undef, undef, undef, undef, undef, undef, undef, undef, undef], defers := [] }) (fun kt kg kb w' => Bl3 W w' zT zG kt kg kb) ?_ ?_
  · go_region
    all_goals refine ⟨rfl, _, _, _, rfl, ?_⟩
    all_goals constructor
    all_goals first | exact (al3 W _ _ _ _ _ _).1 | exact (al3 W _ _ _ _ _ _).2.1 | exact (al3 W _ _ _ _ _ _).2.2.1 | exact (al3 W _ _ _ _ _ _).2.2.2 | exact Nat.le_refl _ | omega
  intro kt kg kb w1 hbl
  have HB := Lib.hid hbl
  clear gm1 gm2 hbl i2
  have LN1 := Lib.hid (LN.out w1 (HLS.out.below (B1.out.andThen HB.out.bel)))
  go_upto_region 6 with (go_at_call 13; refine LN1.out.mono ?_; rintro e w2 ⟨rfl, hb2, hW⟩)
  have HRW := Lib.hid hW
  have HB2 := Lib.hid hb2
  have BW := Lib.hid (B1.out.andThen (HB.out.bel.andThen hb2))
  have HS1 := Lib.hid HB.out.bel.size
  have HNE := Lib.hid (show kt ≠ kb ∧ kg ≠ kb ∧ kt < w1.heap.size ∧ kg < w1.heap.size ∧ kb < w1.heap.size from ⟨blk_ne HB.out.rt HB.out.rb (by decide), blk_ne HB.out.rg HB.out.rb (by decide), HB.out.rt.lt, HB.out.rg.lt, HB.out.rb.lt⟩)
  have HA0 : ∀ g, Has none (some ⟨kt, 0, none⟩) (some ⟨kg, 0, none⟩) (fun _ => nilH) blankM.groups.length g → g = kt ∨ g = kg ∨ w2.heap.size ≤ g := fun g hg => by
    rcases hg with h | h | h | ⟨k, _, h | h | h⟩
    · cases h
    · cases h; exact .inl rfl
    · cases h; exact .inr (.inl rfl)
    · cases h
    · cases h
    · cases h
  have I0 := Lib.hid (show RI W.heap.size w.heap.size kt kg kb w2 w2 none 0 (fun _ => nilH) blankM from ⟨K1.out.below (HB.out.bel.andThen hb2) K1.out.lt, HB.out.rb.below hb2 HB.out.rb.lt, HB.out.own.below hb2, HA0, Keep.refl _ _⟩)
  clear HA0
  have HLB := Lib.hid (show W.heap.size ≤ kt ∧ W.heap.size ≤ kg ∧ W.heap.size ≤ kb from ⟨HB.out.lt, HB.out.lg, HB.out.lb⟩)
  clear hb2 hW LN LN1 HB K1 B1
  go_loopw [3, 8, 28] (fun r3 _ i wr => ∃ (k : Nat) (X : WorldM) (ca : Option Addr) (cc : Nat) (gh : Nat → GH), k ≤ L.length ∧ i = .int .i64 k ∧ r3 = .bool false ∧ (L.take k).foldlM lineIm blankM = some X ∧ RFit X ∧ RI W.heap.size w.heap.size kt kg kb w2 wr ca cc gh X) (fun _ _ i _ => L.length - (intOf i).toNat)
  case atStart => exact ⟨0, blankM, none, 0, fun _ => nilH, Nat.zero_le _, rfl, rfl, rfl, blank_fit, I0.out⟩
  case round =>
    obtain ⟨k, X, ca, cc, gh, hk, rfl, rfl, hf, hx, hI⟩ := hrel
    have II := Lib.hid hI
    have HX := Lib.hid hx
    have HF := Lib.hid hf
    clear I0 hI hx hf
    have BR := Lib.hid (show Below w.heap.size w wr from BW.out.trans (II.out.keep.below (by have := BW.out.size; exact this) fun g hg => by have hg2 : g = kt ∨ g = kg ∨ g = kb := hg; have := S1.out; have := HLB.out; omega))
    have LW := Lib.hid (HLS.out.below BR.out)
    have HWr := Lib.hid (show WordS wr (some ⟨w1.heap.size, 0, none⟩) L from ⟨fun k hk => by
      obtain ⟨b, o, e1, e2, e3⟩ := HRW.out.at_ k hk
      cases e1
      exact ⟨_, _, rfl, Nat.lt_of_lt_of_le e2 II.out.keep.size, II.out.keep.cell e3 e2 fun hg => by have hg2 : w1.heap.size = kt ∨ w1.heap.size = kg ∨ w1.heap.size = kb := hg; have := HNE.out; omega⟩⟩)
    by_cases hlt : k < L.length
    · have HLT := Lib.hid hlt
      obtain ⟨_, _, e, hkl, cw⟩ := HWr.out.at_ k hlt
      cases e
      rw [Nat.zero_add] at cw
      have HWL := Lib.hid (HLN.out L[k] (List.getElem_mem hlt))
      have HFS := Lib.hid (show (L.take (k + 1)).foldlM lineIm blankM = lineIm X L[k] by rw [List.take_succ_eq_append_getElem hlt, List.foldlM_append, HF.out]; show (lineIm X L[k] >>= fun x => pure x) = _; cases lineIm X L[k] <;> rfl)
      have i3 : (0 : Int) ≤ (k : Int) := by omega
      have i4 : (k : Int) < (L.length : Int) := by omega
      have HAK := Lib.hid (show ∀ i, Has ca (some ⟨kt, 0, none⟩) (some ⟨kg, 0, none⟩) gh X.groups.length i → i < wr.heap.size ∧ i ≠ kb ∧ i ≠ w.heap.size from fun i hi => by have h1 := II.out.has i hi; have h2 := (II.out.ow.own.has hi).2; have := HNE.out; have := HLB.out; have := S1.out; have := HB2.out.size; have := HS1.out; omega)
      have SL := Lib.hid (iLine_any kt kg kb ca cc 12 8 gh X W.heap.size wr II.out.ow HX.out II.out.bx (fun i hi => ⟨(HAK.out i hi).1, (HAK.out i hi).2.1⟩) II.out.bx.lt (by have := BR.out.size; have := S1.out; have := II.out.bx.lt; have := HLB.out; omega) LW.out (strB L[k]) (by rw [strB_size]; exact HWL.out))
      have e0 : (strB L[k]).data.toList = L[k] := rfl
      rw [e0] at SL
      clear e0 hk
      generalize strB L[k] = s0 at *
      cases hq : lineIm X L[k] with
      | none =>
        have HQ := Lib.hid hq
        rw [hq] at SL
        clear hq
        go_upto_region 9 with (go_at_call 14; refine SL.out.mono ?_; rintro e w4 ⟨hke, rfl⟩)
        have HKK := Lib.hid hke
        have B6 := Lib.hid (show Below w.heap.size w w4 from BR.out.trans (hke.below BR.out.size fun i hi => by rcases hi with h | h; (have := II.out.has i h; have := HLB.out; have := S1.out; have := BW.out.size; omega); (have := HLB.out; have := S1.out; omega)))
        have K1f := Lib.hid (hke.blk II.out.k1 (fun e => by rcases e with h | h; exact (HAK.out _ h).2.2 rfl; (have := HLB.out; have := S1.out; omega)))
        have HZ := Lib.hid (show outIm s.data.toList = none from outIm_none HLE.out HLT.out (HFS.out.trans HQ.out))
        clear hke HKK
        have d0 := K1f.out.cell 0
        have d1 := K1f.out.cell 1
        have d2 := K1f.out.cell 2
        have d3 := K1f.out.cell 3
        have df := fun i => K1f.out.frozen i
        simp at d0 d1 d2 d3
        go_wp2
        have kk := Lib.hid (show Keep (fun i => i = w.heap.size) w4 ((((w4.setCell ⟨w.heap.size, 0, none⟩ (.int .i64 0)).setCell ⟨w.heap.size, 1, none⟩ (.slice none 0 0)).setCell ⟨w.heap.size, 2, none⟩ (.slice none 0 0)).setCell ⟨w.heap.size, 3, none⟩ (.slice none 0 0)) from ((((Keep.set _ _ _ (by rfl)).trans (Keep.set _ _ _ (by rfl))).trans (Keep.set _ _ _ (by rfl))).trans (Keep.set _ _ _ (by rfl))))
        refine bodyPost_ret (v := .tuple #[.agg #[.int .i64 0, .slice none 0 0, .slice none 0 0, .slice none 0 0], .bool false]) (by simp [results, Tryz.results5, go_sem, *]) rfl ?_
        rw [HZ.out]
        refine ⟨wh0, rfl, ?_, own0 _ _⟩
        exact B6.out.trans (kk.out.below B6.out.size fun i h => by omega)
      | some X' =>
        have HQ := Lib.hid hq
        rw [hq] at SL
        clear hq
        go_upto_region 10 with (go_at_call 14; refine SL.out.mono ?_; rintro e w4 ⟨hke, rfl, ca', cc', gh', hbx, how, hnew⟩)
        have HK4 := Lib.hid (hke.mono fun g _ hg => show g = kt ∨ g = kg ∨ w2.heap.size ≤ g ∨ g = kb from by rcases hg with h | h; (have := II.out.has g h; omega); exact .inr (.inr (.inr h)))
        have I2 := Lib.hid (show RI W.heap.size w.heap.size kt kg kb w2 w4 ca' cc' gh' X' from ⟨hke.blk II.out.k1 (fun e => by rcases e with h | h; exact (HAK.out _ h).2.2 rfl; (have := HLB.out; have := S1.out; omega)), hbx, how,
          fun i hi => by
          rcases hnew i hi with h | h
          · exact II.out.has i h
          · have := II.out.keep.size; exact .inr (.inr (by omega)),
          II.out.keep.then_ hke fun i hi h => by rcases h with h | h; (have := II.out.has i h; (have h3 := II.out.has i h; rcases h3 with h3 | h3 | h3; exact .inl h3; exact .inr (.inl h3); omega)); exact .inr (.inr h)⟩)
        clear hbx how hnew hke HK4
        go_wp2
        go_roundw
        case rel => exact ⟨k + 1, X', ca', cc', gh', HLT.out, by go_num, rfl, HFS.out.trans HQ.out, im_fit HX.out HWL.out HQ.out, I2.out⟩
        case measure => have := HLT.out; simp [intOf]; omega
    · obtain rfl : k = L.length := by omega
      have HFA := Lib.hid (show L.foldlM lineIm blankM = some X by have := HF.out; rw [List.take_length] at this; exact this)
      have HOUT := Lib.hid (outIm_done HLE.out (by have := len_s s; have := HS.out; omega) H10.out HFA.out)
      have TX := Lib.hid (fun (W' : World) (hw : WA W' ca (some ⟨kt, 0, none⟩) (some ⟨kg, 0, none⟩) gh X) (ht : Lib.TabIs Tryz.prog W' "internal/strconv.uint64pow10" .u64 Lib.pow10Tab) => iText_any ca cc (some ⟨kt, 0, none⟩) 12 (some ⟨kg, 0, none⟩) 8 gh X W' hw HX.out.fitG HX.out.next ht)
      have i4 : (L.length : Int) ≤ (L.length : Int) := Int.le_refl _
      have KBr := Lib.hid II.out.bx
      have TBr := Lib.hid (tab_keep HTB.out BR.out)
      clear hlt hk
      by_cases ht : textM X = s.data.toList
      · have HZ := Lib.hid (show outIm s.data.toList = some X by rw [HOUT.out, if_pos ht])
        have q1 : ((strB (textM X)).toList == s.toList) = true := by rw [ht]; exact beq_self_eq_true _
        have q2 : ((strB (textM X)).toList != s.toList) = false := by simp [bne, q1]
        clear ht
        have c0 := KBr.out.cell 0
        have c1 := KBr.out.cell 1
        have c2 := KBr.out.cell 2
        have c3 := KBr.out.cell 3
        have cf := fun i => KBr.out.frozen i
        simp at c0 c1 c2 c3
        go_upto_region 13 with (go_at_call 15; refine (TX.out _ (II.out.ow.own.wa) TBr.out).mono ?_; rintro e w5 ⟨rfl, hb5⟩)
        clear q1 q2
        clear c0 c1 c2 c3 cf
        have K1r := Lib.hid (II.out.k1.below hb5 II.out.k1.lt)
        have KBs := Lib.hid (KBr.out.below hb5 KBr.out.lt)
        have OW5 := Lib.hid (II.out.ow.own.below hb5)
        have B5 := Lib.hid (BR.out.andThen hb5)
        have c0 := KBs.out.cell 0
        have c1 := KBs.out.cell 1
        have c2 := KBs.out.cell 2
        have c3 := KBs.out.cell 3
        have cf := fun i => KBs.out.frozen i
        simp at c0 c1 c2 c3
        have d0 := K1r.out.cell 0
        have d1 := K1r.out.cell 1
        have d2 := K1r.out.cell 2
        have d3 := K1r.out.cell 3
        have df := fun i => K1r.out.frozen i
        simp at d0 d1 d2 d3
        go_wp2
        have kk := Lib.hid (show Keep (fun i => i = w.heap.size) w5 ((((w5.setCell ⟨w.heap.size, 0, none⟩ (.int .i64 X.now)).setCell ⟨w.heap.size, 1, none⟩ (.slice ca X.cpus.length cc)).setCell ⟨w.heap.size, 2, none⟩ (.slice (some ⟨kt, 0, none⟩) X.tasks.length 12)).setCell ⟨w.heap.size, 3, none⟩ (.slice (some ⟨kg, 0, none⟩) X.groups.length 8)) from ((((Keep.set _ _ _ (by rfl)).trans (Keep.set _ _ _ (by rfl))).trans (Keep.set _ _ _ (by rfl))).trans (Keep.set _ _ _ (by rfl))))
        refine bodyPost_ret (v := .tuple #[.agg #[.int .i64 X.now, .slice ca X.cpus.length cc, .slice (some ⟨kt, 0, none⟩) X.tasks.length 12, .slice (some ⟨kg, 0, none⟩) X.groups.length 8], .bool true]) (by simp [results, Tryz.results5, go_sem, *]) rfl ?_
        rw [HZ.out]
        refine ⟨⟨ca, cc, some ⟨kt, 0, none⟩, 12, some ⟨kg, 0, none⟩, 8, gh⟩, rfl, B5.out.trans (kk.out.below B5.out.size fun i h => by omega), ?_⟩
        exact (OW5.out.keep kk.out fun i hi e => by have e2 : i = w.heap.size := e; have := (OW5.out.has hi).1; have := S1.out; omega).mono (by have := S1.out; omega)
      · have HZ := Lib.hid (show outIm s.data.toList = none by rw [HOUT.out, if_neg ht])
        have q1 : ((strB (textM X)).toList == s.toList) = false := by rw [ByteArray.toList_eq, ByteArray.toList_eq]; show (textM X == s.data.toList) = false; simpa using ht
        have q2 : ((strB (textM X)).toList != s.toList) = true := by simp [bne, q1]
        clear ht
        have c0 := KBr.out.cell 0
        have c1 := KBr.out.cell 1
        have c2 := KBr.out.cell 2
        have c3 := KBr.out.cell 3
        have cf := fun i => KBr.out.frozen i
        simp at c0 c1 c2 c3
        go_upto_region 12 with (go_at_call 15; refine (TX.out _ (II.out.ow.own.wa) TBr.out).mono ?_; rintro e w5 ⟨rfl, hb5⟩)
        clear q1 q2
        clear c0 c1 c2 c3 cf
        have K1r := Lib.hid (II.out.k1.below hb5 II.out.k1.lt)
        have B5 := Lib.hid (BR.out.andThen hb5)
        have d0 := K1r.out.cell 0
        have d1 := K1r.out.cell 1
        have d2 := K1r.out.cell 2
        have d3 := K1r.out.cell 3
        have df := fun i => K1r.out.frozen i
        simp at d0 d1 d2 d3
        go_wp2
        have kk := Lib.hid (show Keep (fun i => i = w.heap.size) w5 ((((w5.setCell ⟨w.heap.size, 0, none⟩ (.int .i64 0)).setCell ⟨w.heap.size, 1, none⟩ (.slice none 0 0)).setCell ⟨w.heap.size, 2, none⟩ (.slice none 0 0)).setCell ⟨w.heap.size, 3, none⟩ (.slice none 0 0)) from ((((Keep.set _ _ _ (by rfl)).trans (Keep.set _ _ _ (by rfl))).trans (Keep.set _ _ _ (by rfl))).trans (Keep.set _ _ _ (by rfl))))
        refine bodyPost_ret (v := .tuple #[.agg #[.int .i64 0, .slice none 0 0, .slice none 0 0, .slice none 0 0], .bool false]) (by simp [results, Tryz.results5, go_sem, *]) rfl ?_
        rw [HZ.out]
        refine ⟨wh0, rfl, ?_, own0 _ _⟩
        exact B5.out.trans (kk.out.below B5.out.size fun i h => by omega)
theorem iRead_any (s : ByteArray) (w : World) (hs2 : s.size ≤ 9223372036854775807) (hlib : LibS w) (htab : Lib.TabIs Tryz.prog w "internal/strconv.uint64pow10" .u64 Lib.pow10Tab) : Calls Tryz.prog 5 #[.string s] w (RPost (readW (outSp s.data.toList)) (outSp s.data.toList).isSome w) := by
  rw [← out_same]
  by_cases h : s.size ≤ 20000
  · by_cases h10 : s.data.toList.getLast? = some 10
    · exact iRead_main s w h h10 hlib htab
    · rw [outIm_no (fun e => h10 e.2)]
      exact iRead_end s w h h10
  · rw [outIm_no (fun e => by have := len_s s; omega)]
    exact iRead_long s w (by omega) hs2
end
end Go.Proofs.YtomllcclallcdaaGreatDoor
namespace Go.Proofs.YtomllcclallcdaaGreatDoor
section
open Go.RowKit Go.Sort
theorem wfit_of {M : WorldM} (h : RFit M) : WFit M := ⟨by have := h.cpu; omega, by have := h.task; omega, by have := h.gl; omega, fun k hk => by
  have hk8 : k < 8 := by have := h.gl; omega
  rw [grp_eq hk]
  exact ⟨by have := h.nm k; omega, ⟨by have := h.loc k; omega, by rw [h.dry k]; have := h.loc k; omega⟩, by have := h.she k; omega⟩⟩
theorem wfit_read (s : List UInt8) : WFit (readW (outSp s)) := by
  cases h : outSp s with
  | none => exact ⟨by decide, by decide, by decide, fun k hk => absurd hk (Nat.not_lt_zero _)⟩
  | some M => exact wfit_of (outSp_some h).2.2.2
set_option maxRecDepth 100000 in
set_option maxHeartbeats 4000000 in
theorem FnWorldRead_any (s : ByteArray) (w : World) (hlib : LibS w) (htab : Lib.TabIs Tryz.prog w "internal/strconv.uint64pow10" .u64 Lib.pow10Tab) :
    Calls Tryz.prog 3 #[.string s] w fun e w' => e = .returned (.bool true) ∧ Below w.heap.size w w' := by
  by_cases hq : (1048576 : Int) < (s.size : Int)
  · go_enter Tryz.func3, Tryz.ntmps3
    go_wp2
    go_ret
    exact ⟨rfl, Below.refl _ _⟩
  have HF := Lib.hid (wfit_read s.data.toList)
  have SC := Lib.hid (fun W => sRead_any s W)
  have IC := Lib.hid (fun (W : World) (hb : Below w.heap.size w W) => iRead_any s W (by omega) (hlib.below hb) (tab_keep htab hb))
  clear hlib htab
  generalize readW (outSp s.data.toList) = M at *
  generalize (outSp s.data.toList).isSome = bb at *
  have hbb : (bb != bb) = false := by simp
  have hq2 : decide ((1048576 : Int) < (s.size : Int)) = false := decide_eq_false hq
  go_enter Tryz.func3, Tryz.ntmps3
  go_upto_region 4 with (go_at_call 4; refine (SC.out _).mono ?_; rintro e w2 ⟨hw, rfl, hb2, ow2⟩)
  clear hq hq2
  refine gen1 (p := fun W => Code.wp _ _ _ _ W) ?_
  intro W3 b3 s3 kw
  have KW := Lib.hid kw
  have HW := Lib.hid (ow2.wat.keep b3)
  have B3 := Lib.hid (hb2.andThen b3)
  clear b3 kw s3 ow2 hb2
  go_upto_region 5 with (go_at_call 5; refine (IC.out _ B3.out).mono ?_; rintro e w5 ⟨hg, rfl, hb5, og5⟩)
  have OG5 := Lib.hid og5
  have B5 := Lib.hid hb5
  clear og5 hb5
  refine gen1 (p := fun W => Code.wp _ _ _ _ W) ?_
  intro W6 b6 s6 kg
  have KG := Lib.hid kg
  have OG := Lib.hid (OG5.out.below b6)
  have C6 := Lib.hid (B5.out.andThen b6)
  have HGS := Lib.hid (show ∀ i, Has hg.ca hg.ta hg.ga hg.gh M.groups.length i → W3.heap.size ≤ i ∧ i < w5.heap.size from fun i hi => OG5.out.has hi)
  have Z6 := Lib.hid s6
  have Z5 := Lib.hid B5.out.size
  clear b6 kg s6 OG5 B5
  have k := Lib.hid (KW.out.below C6.out KW.out.lt)
  have q0 := k.out.cell 0
  have q1 := k.out.cell 1
  have q2 := k.out.cell 2
  have q3 := k.out.cell 3
  have qf := fun i => k.out.frozen i
  simp at q0 q1 q2 q3
  have p0 := KG.out.cell 0
  have p1 := KG.out.cell 1
  have p2 := KG.out.cell 2
  have p3 := KG.out.cell 3
  have pf := fun i => KG.out.frozen i
  simp at p0 p1 p2 p3
  go_upto_region 7 with (go_at_call 6; refine (eqWorld_any hg hw M _ HF.out OG.out.wat (HW.out.keep C6.out)).mono ?_; rintro e v1 ⟨rfl, hbv1⟩)
  clear q0 q1 q2 q3 qf
  clear p0 p1 p2 p3 pf
  clear k
  have D6 := Lib.hid (C6.out.andThen hbv1)
  have OG1 := Lib.hid (OG.out.below hbv1)
  have KG1 := Lib.hid (KG.out.below hbv1 KG.out.lt)
  clear hbv1 OG KG C6
  have q0 := KG1.out.cell 0
  have q1 := KG1.out.cell 1
  have q2 := KG1.out.cell 2
  have q3 := KG1.out.cell 3
  have qf := fun i => KG1.out.frozen i
  simp at q0 q1 q2 q3
  go_upto_region 9 with (go_at_call 7; refine (markWorld_any hg _ M _ HF.out OG1.out).mono ?_; rintro e v2 ⟨rfl, km, om⟩)
  clear q0 q1 q2 q3 qf
  have eb := endW_pos HF.out
  have OM := Lib.hid om
  have E6 := Lib.hid (D6.out.trans (km.below D6.out.size fun i hi => (HGS.out i hi).1))
  have KG2 := Lib.hid (km.blk KG1.out fun hj => by have := (HGS.out _ hj).2; omega)
  clear km om OG1 KG1 D6
  have q0 := KG2.out.cell 0
  have q1 := KG2.out.cell 1
  have q2 := KG2.out.cell 2
  have q3 := KG2.out.cell 3
  have qf := fun i => KG2.out.frozen i
  simp at q0 q1 q2 q3
  go_upto_region 15 with (go_at_call 8; refine (heldWorld_any hg M _ HF.out OM.out.wa).mono ?_; rintro e v3 ⟨rfl, hbv3⟩)
  clear q0 q1 q2 q3 qf
  have F6 := Lib.hid (E6.out.andThen hbv3)
  have OM3 := Lib.hid (OM.out.below hbv3)
  have KG3 := Lib.hid (KG2.out.below hbv3 KG2.out.lt)
  clear hbv3 OM KG2 E6
  go_upto_region 16 with (go_at_call 5; refine (IC.out _ (B3.out.andThen F6.out)).mono ?_; rintro e w7 ⟨hh, rfl, hb7, oh7⟩)
  have OH7 := Lib.hid oh7
  have B7 := Lib.hid hb7
  clear oh7 hb7
  refine gen1 (p := fun W => Code.wp _ _ _ _ W) ?_
  intro W8 b8 s8 kh
  have KH := Lib.hid kh
  have OH := Lib.hid (OH7.out.below b8)
  have C8 := Lib.hid (B7.out.andThen b8)
  clear b8 kh s8 OH7 B7
  have H6 := Lib.hid (F6.out.andThen C8.out)
  have k := Lib.hid (KW.out.below H6.out KW.out.lt)
  have q0 := k.out.cell 0
  have q1 := k.out.cell 1
  have q2 := k.out.cell 2
  have q3 := k.out.cell 3
  have qf := fun i => k.out.frozen i
  simp at q0 q1 q2 q3
  have p0 := KH.out.cell 0
  have p1 := KH.out.cell 1
  have p2 := KH.out.cell 2
  have p3 := KH.out.cell 3
  have pf := fun i => KH.out.frozen i
  simp at p0 p1 p2 p3
  go_upto_region 18 with (go_at_call 6; refine (eqWorld_any hh hw M _ HF.out OH.out.wat (HW.out.keep H6.out)).mono ?_; rintro e u1 ⟨rfl, hbu1⟩)
  clear q0 q1 q2 q3 qf
  clear p0 p1 p2 p3 pf
  have D8 := Lib.hid (C8.out.andThen hbu1)
  clear k hbu1
  have k := Lib.hid (KG3.out.below D8.out KG3.out.lt)
  have q0 := k.out.cell 0
  have q1 := k.out.cell 1
  have q2 := k.out.cell 2
  have q3 := k.out.cell 3
  have qf := fun i => k.out.frozen i
  simp at q0 q1 q2 q3
  go_wp2_with (go_at_call 8; refine (heldWorld_any hg M _ HF.out (OM3.out.below D8.out).wa).mono ?_; rintro e u2 ⟨rfl, hbu2⟩)
  go_ret
  exact ⟨rfl, (B3.out.andThen (F6.out.andThen D8.out)).andThen hbu2⟩
end
end Go.Proofs.YtomllcclallcdaaGreatDoor
namespace Go.Proofs.YtomllcclallcdaaGreatDoor
section
open Go.RowKit Go.ChangeShapes Go.WideShapes Go.ChangeAt Go.Deep
section
variable {H : Type} {enc : TypeId × Value → H} {P : Program}
theorem trodAll_stays (hl : laidOutB P = true) {W W' : World} {sp' : Nat → Bool} :
    ∀ {ts : List TypeId} {vs : List Value} {ds : List (DataW H)} {ps : List MemPlace}, (∀ t ∈ ts, P.readableRec t = true ∧ t < P.types.size) →
      DataW.TrodAll enc P W 0 (fun _ => true) true ts vs ds ps → (∀ p ∈ ps, W.sameAt W' p) → (∀ p ∈ ps, sp' p.block = true) → DataW.TrodAll enc P W' 0 sp' true ts vs ds ps
  | [], _, _, _, _, h, _, _ => by
    obtain ⟨rfl, rfl, rfl⟩ := trodAll_nil h
    exact trodAll_mk0
  | t :: ts, _, _, _, hr, h, hs, hsp => by
    obtain ⟨v, vs1, d, ds1, a, b, rfl, rfl, rfl, h1, h2⟩ := trodAll_cons h
    have hrt := hr t (by simp)
    exact trodAll_cons_mk (Go.WideElems.Trod_stays hl hrt.1 hrt.2 h1 (fun p hp => hs p (by simp [hp])) (fun p hp => hsp p (by simp [hp])))
      (trodAll_stays hl (fun t ht => hr t (by simp [ht])) h2 (fun p hp => hs p (by simp [hp])) (fun p hp => hsp p (by simp [hp])))
theorem law_post {f : Func} {s : ChangeSpec} {W W' : World} {args : Array Value} {ds : List (DataW H)} {before : List MemPlace} {tb : TypeId}
    (hl : laidOutB P = true) (hr : ∀ t ∈ f.params.toList, P.readableRec t = true ∧ t < P.types.size) (hrt : f.resultTypes = #[tb]) (htb : P.underlying tb = some .bool)
    (hsv : s.vars = [])
    (hW : DataW.Whole enc P f.params.toList s.vars false W args.toList ds [] before)
    (hA : DataW.TrodAll enc P W 0 (fun _ => true) true f.params.toList args.toList ds before)
    (hfn : s.fn H (ds ++ []) = { results := [.lit (.bool true)], args := ds }) (hb : Below W.heap.size W W') :
    s.post enc P f false true false false W args (.bool true) W' := by
  have hlt : ∀ p ∈ before, p.block < W.heap.size := fun p hp => hW.lt p hp
  have hV : ∀ sp, DataW.TrodVars enc P W' sp s.vars (s.fn H (ds ++ [])).vars [] := by
    intro sp
    rw [hsv, hfn]
    rfl
  have hres : ∀ (b : Nat) (sp : Nat → Bool) (hd : Bool), DataW.TrodAll enc P W' b sp hd f.resultTypes.toList ((Value.bool true).resultList f.resultTypes.size) (s.fn H (ds ++ [])).results [] := by
    intro b sp hd
    rw [hfn, hrt]
    exact trodAll_cons_mk (shut_bool htb _) trodAll_mk0
  have hargs : ∀ sp : Nat → Bool, (∀ p ∈ before, sp p.block = true) → DataW.TrodAll enc P W' 0 sp true f.params.toList args.toList (s.fn H (ds ++ [])).args before := by
    intro sp hsp
    rw [hfn]
    exact trodAll_stays hl hr hA (fun p hp => hb.same (hlt p hp)) hsp
  have hold : ∀ p ∈ before, (fun b => decide (b < W.heap.size)) p.block = true := fun p hp => by simpa using hlt p hp
  refine ⟨ds, [], before, [], before, [], hW, hres _ _ _, hargs _ hold, hV _, World.keptBut_mono (fun p hp => ⟨hp, Or.inr (Or.inl hp)⟩) (hb.frame (· ∈ before)), fun h => by cases h⟩
end
theorem own : ownKnob Tryz.prog.godebug = none := by kernel_rfl
theorem laidOut : laidOutB Tryz.prog = true := by kernel_rfl
end
end Go.Proofs.YtomllcclallcdaaGreatDoor
namespace Go.Proofs.YtomllcclallcdaaGreatDoor
section
open Go.RowKit Go.Sort
open Go.ChangeShapes Go.WideShapes Go.ChangeAt
open Go.ChangeMaps (open_string shut_string)
theorem handed_shaped {H : Type} {enc : TypeId × Value → H} {a : Assume} {C : Checked} {os : Os} {f : FuncId} {fn : Func} {s : ChangeSpec} {apart fresh handsOn again : Bool} {X : World → Prop}
    (hX : ∀ w w' : World, w.heap = w'.heap → X w → X w')
    (own : ownKnob C.prog.godebug = none) (started : os.Started) (noInit : C.prog.inits.idxOf? f = none) (hfn : C.prog.funcs[f]? = some fn)
    (witness : ∃ (w : World) (tape : Tape) (i : Input), w.os = os ∧ (w.forCall tape i).Shaped C.prog ∧ i.vars = [] ∧ Input.okWide C.prog (w.forCall tape i) .any w.heap.size f i ∧ ((s.pre enc C.prog fn [] apart (w.forCall tape i).memory i.args ∧ X (w.forCall tape i).memory) ∧ sizedMet enc C.prog fn (OpenSpec.ofChange s) apart (w.forCall tape i).memory i.args) ∧ a.holds C.prog (lone (Frame.enter C.prog f i.args .normal) [] (w.forCall tape i)))
    (contract : ∀ (W : World) (base : Nat) (args : Array Value) (ds gs : List (DataW H)) (before : List MemPlace), (∀ (j : Nat) t v, fn.params[j]? = some t → args[j]? = some v → Value.okWide C.prog W .any base t v) → DataW.Whole enc C.prog fn.params.toList s.vars apart W args.toList ds gs before → X W → W.ShapedOpen C.prog →
      Calls C.prog f args W fun e W' => ∃ v, e = .returned v ∧ s.post enc C.prog fn apart fresh handsOn again W args v W') :
    ReturnsInHanded a C os f .any (fun w args => (s.pre enc C.prog fn [] apart w args ∧ X w) ∧ sizedMet enc C.prog fn (OpenSpec.ofChange s) apart w args) (s.post enc C.prog fn apart fresh handsOn again) :=
  returnsInHanded_of_calls own started noInit witness fun w tape i _ hsh _ hok hpre _ => by
    obtain ⟨_, _, _, fn2, h2, _, _, _, _, hv⟩ := hok
    obtain rfl := Option.some.inj (h2.symm.trans hfn)
    obtain ⟨⟨⟨ds, gs, before, hw, _⟩, hx⟩, _⟩ := hpre
    refine (contract _ w.heap.size i.args ds gs before hv (DataW.Whole.of_heap (w' := w.forCall tape i) (by rfl) hw) (hX _ _ (by rfl) hx) hsh).mono ?_
    rintro e W2 ⟨v, rfl, hp⟩
    exact ChangeSpec.post_blind hp
theorem plain_read {W : World} (h : laidMetH Tryz.prog Rows.fnExactWorldReadRow.laid W) : laidMet Tryz.prog Rows.fnExactWorldReadRow.laid W := by
  rw [MakeChecks.laidMetH_plain _ _ _ (by kernel_rfl)] at h
  exact h
theorem FnWorldRead_tab {W : World} (h : laidMetH Tryz.prog Rows.fnExactWorldReadRow.laid W) : Lib.TabIs Tryz.prog W "internal/strconv.uint64pow10" .u64 Lib.pow10Tab := by
  have h2 : laidMet Tryz.prog (_ :: _ :: ("internal/strconv.uint64pow10", Lib.tabData .u64 Lib.pow10Tab) :: _) W := plain_read h
  exact Lib.tabIs_of_head (t := 173) (e := 137) (n := 20) (show Tryz.prog.globalNamed "internal/strconv.uint64pow10" = some 5 by kernel_rfl) (by kernel_rfl) Tryz.underlying173 Tryz.underlying137 (by kernel_rfl) (by kernel_rfl) (laidMet.tail (laidMet.tail h2))
theorem err_star : "*" ++ "errors.errorString" = "*errors.errorString" := by decide
theorem err_rows (u : TypeId) (h : Tryz.prog.typeName? 3 u = some "*errors.errorString") : u = 159 :=
  typeName_ptr_named (nm := "errors.errorString") (by rw [err_star]; kernel_rfl) (by kernel_rfl) (by decide) u (by rw [err_star]; exact h)
theorem FnWorldRead_lib {W : World} (h : laidMetH Tryz.prog Rows.fnExactWorldReadRow.laid W) (hs : W.ShapedOpen Tryz.prog) : LibS W := by
  have h2 : laidMet Tryz.prog (_ :: _ :: _ :: _ :: ("strconv.ErrRange", .iface "*errors.errorString" (.ptr (.agg [.lit (.string _)]))) :: ("strconv.ErrSyntax", .iface "*errors.errorString" (.ptr (.agg [.lit (.string _)]))) :: _) W := plain_read h
  have h3 := laidMet.tail (laidMet.tail (laidMet.tail (laidMet.tail h2)))
  have g2 : Tryz.prog.globalNamed "strconv.ErrRange" = some 2 := by kernel_rfl
  have g1 : Tryz.prog.globalNamed "strconv.ErrSyntax" = some 1 := by kernel_rfl
  obtain ⟨a2, s2, v2, _, _, _⟩ := laid_sentinel (ti := 70) (tp := 159) (te := 161) (ts := 9) h3 g2 (by kernel_rfl) Tryz.underlying70 err_rows Tryz.underlying159 Tryz.underlying161 rfl rfl Tryz.underlying9 (by kernel_rfl) (by kernel_rfl)
  obtain ⟨a1, s1, v1, _, _, _⟩ := laid_sentinel (ti := 70) (tp := 159) (te := 161) (ts := 9) (laidMet.tail h3) g1 (by kernel_rfl) Tryz.underlying70 err_rows Tryz.underlying159 Tryz.underlying161 rfl rfl Tryz.underlying9 (by kernel_rfl) (by kernel_rfl)
  have c1 := World.var?_cell g1 v1 0
  have c2 := World.var?_cell g2 v2 0
  simp at c1 c2
  obtain ⟨m, hm⟩ := cell_of_shapedOpen_int (P := Tryz.prog) (g := 0) (t := 3) (zero := #[.int .i64 0]) (k := .i64) hs (Nat.lt_of_lt_of_eq (m := 8) (by decide) (show 8 = Tryz.prog.globals.size by kernel_rfl)) (by kernel_rfl) rfl (by kernel_rfl) (by kernel_rfl) Tryz.underlying3
  have lt : ∀ {g : Nat} {v : Value}, W.cell? ⟨g, 0, none⟩ = some v → g < W.heap.size := fun {g v} hc => by
    rcases Nat.lt_or_ge g W.heap.size with hlt | hge
    · exact hlt
    · simp [World.cell?, Array.getElem?_eq_none hge] at hc
  have l1 := lt c1
  have l2 := lt c2
  have l3 := lt hm
  exact ⟨by unfold gLim; omega, ⟨m, hm⟩, ⟨_, c1, .inr ⟨_, _, rfl⟩⟩, ⟨_, c2, .inr ⟨_, _, rfl⟩⟩⟩
set_option maxRecDepth 100000 in
theorem FnWorldRead_lifted (os : Os) (started : os.Started) (H : Type) (enc : TypeId × Value → H) :
    ReturnsInHanded {} Tryz.checked os 3 .any (fun w args => (Rows.fnExactWorldReadSpec.pre enc Tryz.prog Tryz.f3 [] false w args ∧ laidMetH Tryz.prog Rows.fnExactWorldReadRow.laid w) ∧ sizedMet enc Tryz.prog Tryz.f3 (OpenSpec.ofChange Rows.fnExactWorldReadSpec) false w args)
      (Rows.fnExactWorldReadSpec.post enc Tryz.prog Tryz.f3 false true false false) := by
  refine handed_shaped (C := Tryz.checked) (X := fun w => laidMetH Tryz.prog Rows.fnExactWorldReadRow.laid w) (fun _ _ hh h => h.of_heap hh) own started (by kernel_rfl) Tryz.func3
    (ChangeSpec.witness_shaped (enc := enc) (C := Tryz.checked) (os := os) (X := fun w _ => laidMetH Tryz.prog Rows.fnExactWorldReadRow.laid w) false (World.laidAll Tryz.prog os Rows.fnExactWorldReadRow.laid) #[.string ⟨#[]⟩] 8 (World.laidAll_os _ _ _) (World.shaped_of_ZipB (by kernel_rfl) (by kernel_rfl)) (by kernel_rfl) (by kernel_rfl) (by kernel_rfl)
      (by rw [MakeChecks.laidMetH_plain _ _ _ (by kernel_rfl)]; exact laidMet_laidAll _ (by kernel_rfl) (by kernel_rfl))) ?_
  intro W base args ds gs before hval0 hW hL hsh
  have hval : ∀ (j : Nat) t v, Tryz.f3.params[j]? = some t → args[j]? = some v → Value.okWide Tryz.prog W .any base t v := hval0
  have hW' := hW
  obtain ⟨p, q, hA0, hV, rfl, hfz, hnd⟩ := hW
  have hA : DataW.TrodAll enc Tryz.prog W 0 (fun _ => true) true Tryz.f3.params.toList args.toList ds p := hA0
  have hA1 := hA
  rw [Tryz.params3] at hA1 hval
  obtain ⟨v0, d0, rfl, rfl, h0⟩ := trodAll_one hA1
  obtain ⟨rfl, rfl⟩ := trodVars_none hV
  obtain ⟨s, rfl, rfl, rfl, hss⟩ := open_string Tryz.underlying9 (hval 0 9 _ rfl rfl) h0
  clear hA0 hval0 h0
  simp only [List.append_nil] at hW' hA
  refine (FnWorldRead_any s W (FnWorldRead_lib hL hsh) (FnWorldRead_tab hL)).mono fun e W' ⟨he, hb⟩ => ?_
  subst he
  exact ⟨_, rfl, law_post laidOut (by rw [Tryz.params3]; decide +kernel) (by kernel_rfl) Tryz.underlying4 rfl hW' hA rfl hb⟩
theorem FnWorldRead_holds : Rows.FnExactWorldReadSaid :=
  OpenClaim.holds_of_wide 3 Tryz.f3 rfl rfl rfl rfl rfl rfl rfl ⟨rfl, rfl, rfl, rfl, rfl⟩ rfl rfl rfl rfl rfl (by kernel_rfl) Tryz.func3 (by kernel_rfl)
    (of_decide_eq_true (by kernel_rfl)) (by unfold Func.isWrapper; first | (rw [if_pos (by decide +kernel)]; kernel_rfl) | (rw [if_neg (by decide +kernel)]; exact ⟨rfl, rfl⟩))
    (fun os started H enc _ => FnWorldRead_lifted os started H enc)
theorem FnWorldRead_card : Rows.FnExactWorldReadCardSaid :=
  Claim7.holds_tied_plain_at .later [] [.data, .data, .data, .data, .sentinel, .sentinel, .pinned] true _ true
    FnWorldRead_holds (fun _ h => by cases h) (by kernel_rfl) (fun _ h => by cases h) fnExactWorldRead_row_tie rfl ⟨rfl, rfl⟩ (by kernel_rfl) rfl
    (fun f fn hf hfn => by
      obtain rfl : f = 3 := Option.some.inj ((show Tryz.prog.funcNamed "loop.example/stint/laws.FnExactWorldRead" = some 3 by kernel_rfl).symm.trans hf) |>.symm
      obtain rfl : fn = Tryz.f3 := (Option.some.inj (Tryz.func3.symm.trans hfn)).symm
      exact ⟨by kernel_rfl, fun j t ht => by
        rw [Tryz.params3] at ht
        have hm : t ∈ [9] := by simpa using Array.mem_of_getElem? ht
        have hall : ([9].all fun u => !Tryz.prog.wantsStandIn u) = true := by kernel_rfl
        exact (show Tryz.prog.wantsStandIn t = false by simpa using List.all_eq_true.1 hall t hm)⟩)
    (by kernel_rfl)
end
end Go.Proofs.YtomllcclallcdaaGreatDoor
