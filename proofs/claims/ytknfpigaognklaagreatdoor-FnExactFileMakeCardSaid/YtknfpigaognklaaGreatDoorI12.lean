/- The program's own test of a whole world. -/
import Derived.Test.YtknfpigaognklaaGreatDoorPw
import Derived.Laws.EntriesVeiled
namespace Go.Proofs.YtknfpigaognklaaGreatDoor
open Go.RowKit Go.Sort
set_option maxRecDepth 100000 in
set_option maxHeartbeats 2000000 in
theorem iShapeOk_any (p : Nat) (ca : Option Addr) (cc : Nat) (ta : Option Addr) (tc : Nat) (ga : Option Addr) (gc : Nat) (gh : Nat → GH) (M : WorldM) (w : World) (hs : PA w p ca cc ta tc ga gc gh M) (hF : FitG M) :
    Calls Tryz.prog 74 #[.pointer (some ⟨p, 0, none⟩)] w fun e w' => e = .returned (.bool (shapeI M)) ∧ Below w.heap.size w w' := by
  have HS := Lib.hid hs
  obtain ⟨q0, q1, q2, q3, q4, q5⟩ := hs
  clear q5
  by_cases f1 : [M.now].all timeB = true
  · have F1 := Lib.hid f1
    clear f1
    by_cases f2 : inR M.cpus.length 1 4 = true
    · have F2 := Lib.hid f2
      have hc : M.cpus.length ≤ 4 := by have := (inR_iff.1 f2).2; omega
      clear f2
      by_cases f3 : (ups M == 0) = true
      · have F3 := Lib.hid f3
        have f3' : (ups M != 0) = false := by simpa using f3
        clear f3
        have SF := Lib.hid (show shapeI M = false by rw [shapeI, F1.out, F2.out, F3.out]; simp)
        go_enter Tryz.func74, Tryz.ntmps74
        go_wp2_with (first | (go_at_call 137; refine (iTimeN [M.now] 1 _ _ (IntS.new _ _ _ rfl w) rfl).mono ?_; rintro e w2 ⟨rfl, hb2⟩; rw [F1.out]; have b2 := ((Below.refl w.heap.size w).alloc (Nat.le_refl _) (.cells #[.int .i64 M.now] 3)).andThen hb2; have r2 := (b2.cell (p := ⟨p, 1, none⟩) q0).trans q2; have r3 := (b2.cell (p := ⟨p, 2, none⟩) q0).trans q3; have r4 := (b2.cell (p := ⟨p, 3, none⟩) q0).trans q4; have rl := Nat.lt_of_lt_of_le q0 b2.size) | (go_at_call 111; refine (iInRange_any _ _ _ _).mono ?_; rintro e w' ⟨rfl, rfl⟩; rw [F2.out]) | (go_at_call 138; refine (iOnline_any p ca cc ta tc ga gc gh M _ (HS.out.keep b2) hc).mono ?_; rintro e w3 ⟨rfl, hb3⟩; have s3 := (hb3.cell (p := ⟨p, 2, none⟩) rl).trans r3; have s4 := (hb3.cell (p := ⟨p, 3, none⟩) rl).trans r4))
        go_ret
        exact ⟨ret_bool SF.out.symm, b2.andThen hb3⟩
      · have F3 := Lib.hid (show (ups M == 0) = false by simpa only [Bool.not_eq_true] using f3)
        have f3' : (ups M != 0) = true := by simpa using f3
        clear f3
        by_cases f4 : ((M.tasks.length : Int) == 12) = true
        · have F4 := Lib.hid f4
          have SF := Lib.hid (show shapeI M = nodesB M by rw [shapeI, F1.out, F2.out, F3.out, F4.out]; rfl)
          go_enter Tryz.func74, Tryz.ntmps74
          go_wp2_with (first | (go_at_call 137; refine (iTimeN [M.now] 1 _ _ (IntS.new _ _ _ rfl w) rfl).mono ?_; rintro e w2 ⟨rfl, hb2⟩; rw [F1.out]; have b2 := ((Below.refl w.heap.size w).alloc (Nat.le_refl _) (.cells #[.int .i64 M.now] 3)).andThen hb2; have r2 := (b2.cell (p := ⟨p, 1, none⟩) q0).trans q2; have r3 := (b2.cell (p := ⟨p, 2, none⟩) q0).trans q3; have r4 := (b2.cell (p := ⟨p, 3, none⟩) q0).trans q4; have rl := Nat.lt_of_lt_of_le q0 b2.size) | (go_at_call 111; refine (iInRange_any _ _ _ _).mono ?_; rintro e w' ⟨rfl, rfl⟩; rw [F2.out]) | (go_at_call 138; refine (iOnline_any p ca cc ta tc ga gc gh M _ (HS.out.keep b2) hc).mono ?_; rintro e w3 ⟨rfl, hb3⟩; have s3 := (hb3.cell (p := ⟨p, 2, none⟩) rl).trans r3; have s4 := (hb3.cell (p := ⟨p, 3, none⟩) rl).trans r4) | (go_at_call 139; refine (iTreeOk_any ca ta ga gc gh M _ ((HS.out.keep b2).keep hb3).wa hF.group hF.name).mono ?_; rintro e w4 ⟨rfl, hb4⟩))
          go_ret
          exact ⟨ret_bool SF.out.symm, b2.andThen (hb3.andThen hb4)⟩
        · have F4 := Lib.hid (show ((M.tasks.length : Int) == 12) = false by simpa only [Bool.not_eq_true] using f4)
          have f4' : ((M.tasks.length : Int) == 12) = false := F4.out
          clear f4
          have SF := Lib.hid (show shapeI M = false by rw [shapeI, F1.out, F2.out, F3.out, F4.out]; simp)
          go_enter Tryz.func74, Tryz.ntmps74
          go_wp2_with (first | (go_at_call 137; refine (iTimeN [M.now] 1 _ _ (IntS.new _ _ _ rfl w) rfl).mono ?_; rintro e w2 ⟨rfl, hb2⟩; rw [F1.out]; have b2 := ((Below.refl w.heap.size w).alloc (Nat.le_refl _) (.cells #[.int .i64 M.now] 3)).andThen hb2; have r2 := (b2.cell (p := ⟨p, 1, none⟩) q0).trans q2; have r3 := (b2.cell (p := ⟨p, 2, none⟩) q0).trans q3; have r4 := (b2.cell (p := ⟨p, 3, none⟩) q0).trans q4; have rl := Nat.lt_of_lt_of_le q0 b2.size) | (go_at_call 111; refine (iInRange_any _ _ _ _).mono ?_; rintro e w' ⟨rfl, rfl⟩; rw [F2.out]) | (go_at_call 138; refine (iOnline_any p ca cc ta tc ga gc gh M _ (HS.out.keep b2) hc).mono ?_; rintro e w3 ⟨rfl, hb3⟩; have s3 := (hb3.cell (p := ⟨p, 2, none⟩) rl).trans r3; have s4 := (hb3.cell (p := ⟨p, 3, none⟩) rl).trans r4))
          go_ret
          exact ⟨ret_bool SF.out.symm, b2.andThen hb3⟩
    · have F2 := Lib.hid (show inR M.cpus.length 1 4 = false by simpa using f2)
      clear f2
      have SF := Lib.hid (show shapeI M = false by rw [shapeI, F1.out, F2.out]; simp)
      go_enter Tryz.func74, Tryz.ntmps74
      go_wp2_with (first | (go_at_call 137; refine (iTimeN [M.now] 1 _ _ (IntS.new _ _ _ rfl w) rfl).mono ?_; rintro e w2 ⟨rfl, hb2⟩; rw [F1.out]; have b2 := ((Below.refl w.heap.size w).alloc (Nat.le_refl _) (.cells #[.int .i64 M.now] 3)).andThen hb2; have r2 := (b2.cell (p := ⟨p, 1, none⟩) q0).trans q2; have r3 := (b2.cell (p := ⟨p, 2, none⟩) q0).trans q3; have r4 := (b2.cell (p := ⟨p, 3, none⟩) q0).trans q4; have rl := Nat.lt_of_lt_of_le q0 b2.size) | (go_at_call 111; refine (iInRange_any _ _ _ _).mono ?_; rintro e w' ⟨rfl, rfl⟩; rw [F2.out]))
      go_ret
      exact ⟨ret_bool SF.out.symm, b2⟩
  · have F1 := Lib.hid (show [M.now].all timeB = false by simpa only [Bool.not_eq_true] using f1)
    clear f1
    have SF := Lib.hid (show shapeI M = false by rw [shapeI, F1.out]; simp)
    go_enter Tryz.func74, Tryz.ntmps74
    go_wp2_with (go_at_call 137; refine (iTimeN [M.now] 1 _ _ (IntS.new _ _ _ rfl w) rfl).mono ?_; rintro e w2 ⟨rfl, hb2⟩; rw [F1.out]; have b2 := ((Below.refl w.heap.size w).alloc (Nat.le_refl _) (.cells #[.int .i64 M.now] 3)).andThen hb2; have r2 := (b2.cell (p := ⟨p, 1, none⟩) q0).trans q2; have r3 := (b2.cell (p := ⟨p, 2, none⟩) q0).trans q3; have r4 := (b2.cell (p := ⟨p, 3, none⟩) q0).trans q4; have rl := Nat.lt_of_lt_of_le q0 b2.size)
    go_ret
    exact ⟨ret_bool SF.out.symm, b2⟩
theorem now_of {M : WorldM} (h : shapeI M = true) : inR M.now 0 100000000000000000 = true := by
  simp only [shapeI, Bool.and_eq_true] at h
  simpa [timeB] using h.1.1.1.1
theorem tree_shape {M : WorldM} (h : shapeI M = true) : Tree M := by
  rw [shape_same] at h
  simp only [worldH, Bool.and_eq_true] at h
  exact tree_of h.1.2
theorem cpus_shape {M : WorldM} (h : shapeI M = true) : M.cpus.length ≤ 4 := by
  simp only [shapeI, Bool.and_eq_true] at h
  have := (inR_iff.1 h.1.1.1.2).2
  omega
theorem gok_shape {M : WorldM} (h : shapeI M = true) (h2 : groupsI M = true) (hx : NextOk M) : GOk M := by
  have hT := tree_shape h
  rw [groups_same M hT.len hT.root (inR_iff.1 (now_of h)) hx] at h2
  exact gok_of h2
def tests (M : WorldM) : List Bool := [shapeI M, groupsI M, tasksI M, shelvesI M, cpusI M]
set_option maxRecDepth 100000 in
set_option maxHeartbeats 4000000 in
theorem iWorldOk_any (ca : Option Addr) (cc : Nat) (ta : Option Addr) (tc : Nat) (ga : Option Addr) (gc : Nat) (gh : Nat → GH) (M : WorldM) (w : World) (hs : WA w ca ta ga gh M) (hF : FitG M) (hx : NextOk M) :
    Calls Tryz.prog 30 #[.agg #[.int .i64 M.now, .slice ca M.cpus.length cc, .slice ta M.tasks.length tc, .slice ga M.groups.length gc]] w fun e w' => e = .returned (.bool (worldB M)) ∧ Below w.heap.size w w' := by
  rw [world_same M hx]
  have hx' := hx
  clear hx
  go_enter Tryz.func30, Tryz.ntmps30
  go_upto_region 1 with (fail)
  refine PA.gen (P := fun W => Code.wp _ _ _ _ W) hs ?_
  intro W b1 s1 pw
  clear s1 hs
  have HF := Lib.hid hF
  have HX := Lib.hid hx'
  clear hF hx'
  go_wp2
  go_step3
  go_wp2
  go_step3
  go_wp2
  go_loopw [4, 6, 9] (fun r _ i wr => ∃ k : Nat, k ≤ 5 ∧ i = .int .i64 k ∧ r = .bool true ∧ ((tests M).take k).all id = true ∧ Below W.heap.size W wr) (fun _ _ i _ => 5 - (intOf i).toNat)
  case atStart => exact ⟨0, by omega, rfl, rfl, rfl, (Below.refl _ _).alloc (Nat.le_refl _) _⟩
  case round =>
    obtain ⟨k, hk, rfl, rfl, hall, hb⟩ := hrel
    have HA := Lib.hid hall
    have pw2 := pw.keep hb
    clear hall
    have hk5 : k = 0 ∨ k = 1 ∨ k = 2 ∨ k = 3 ∨ k = 4 ∨ k = 5 := by omega
    clear hk
    rcases hk5 with rfl | rfl | rfl | rfl | rfl | rfl
    · have ik : ∀ w, (Instr.index 111 (.agg #[.func (.func 74) #[] #[], .func (.func 75) #[] #[], .func (.func 76) #[] #[], .func (.func 77) #[] #[], .func (.func 78) #[] #[]]) (.int .i64 0)).run Tryz.prog w = .ok (.func (.func 74) #[] #[]) w := fun _ => by kernel_rfl
      by_cases fk : shapeI M = true
      · have FK := Lib.hid fk
        have HN := Lib.hid (show ((tests M).take 1).all id = true by simp [tests, fk])
        clear fk
        go_wp2_with (go_at_call 74; refine (iShapeOk_any w.heap.size ca cc ta tc ga gc gh M _ pw2 HF.out).mono ?_; rintro e w3 ⟨rfl, hb3⟩; rw [FK.out])
        go_roundw
        case rel => exact ⟨1, by omega, rfl, rfl, HN.out, hb.andThen hb3⟩
        case measure => simp [intOf]
      · have FK := Lib.hid (show shapeI M = false by simpa only [Bool.not_eq_true] using fk)
        have HN := Lib.hid (show (shapeI M && (groupsI M && (tasksI M && (shelvesI M && cpusI M)))) = false by rw [FK.out]; simp)
        clear fk
        go_wp2_with (go_at_call 74; refine (iShapeOk_any w.heap.size ca cc ta tc ga gc gh M _ pw2 HF.out).mono ?_; rintro e w3 ⟨rfl, hb3⟩; rw [FK.out])
        rw [Exit.noGoto_ret]
        go_ret
        exact ⟨ret_bool HN.out.symm, b1.andThen (hb.andThen hb3)⟩
    · have ik : ∀ w, (Instr.index 111 (.agg #[.func (.func 74) #[] #[], .func (.func 75) #[] #[], .func (.func 76) #[] #[], .func (.func 77) #[] #[], .func (.func 78) #[] #[]]) (.int .i64 1)).run Tryz.prog w = .ok (.func (.func 75) #[] #[]) w := fun _ => by kernel_rfl
      have h1 : shapeI M = true := by simpa [tests] using HA.out
      have hnow := now_of h1
      have h0 : 0 < M.groups.length := by rw [(tree_shape h1).len]; decide
      clear h1
      by_cases fk : groupsI M = true
      · have FK := Lib.hid fk
        have HN := Lib.hid (show ((tests M).take 2).all id = true by have h := HA.out; simp [tests] at h ⊢; simp [h, fk])
        clear fk
        go_wp2_with (go_at_call 75; refine (iGroupsOk_any w.heap.size ca cc ta tc ga gc gh M _ pw2 HF.out h0 hnow).mono ?_; rintro e w3 ⟨rfl, hb3⟩; rw [FK.out])
        go_roundw
        case rel => exact ⟨2, by omega, rfl, rfl, HN.out, hb.andThen hb3⟩
        case measure => simp [intOf]
      · have FK := Lib.hid (show groupsI M = false by simpa only [Bool.not_eq_true] using fk)
        have HN := Lib.hid (show (shapeI M && (groupsI M && (tasksI M && (shelvesI M && cpusI M)))) = false by rw [FK.out]; simp)
        clear fk
        go_wp2_with (go_at_call 75; refine (iGroupsOk_any w.heap.size ca cc ta tc ga gc gh M _ pw2 HF.out h0 hnow).mono ?_; rintro e w3 ⟨rfl, hb3⟩; rw [FK.out])
        rw [Exit.noGoto_ret]
        go_ret
        exact ⟨ret_bool HN.out.symm, b1.andThen (hb.andThen hb3)⟩
    · have ik : ∀ w, (Instr.index 111 (.agg #[.func (.func 74) #[] #[], .func (.func 75) #[] #[], .func (.func 76) #[] #[], .func (.func 77) #[] #[], .func (.func 78) #[] #[]]) (.int .i64 2)).run Tryz.prog w = .ok (.func (.func 76) #[] #[]) w := fun _ => by kernel_rfl
      have h1 : shapeI M = true ∧ groupsI M = true := by simpa [tests] using HA.out
      have HT := Lib.hid (tree_shape h1.1)
      have HG := Lib.hid (gok_shape h1.1 h1.2 HX.out)
      have hc := cpus_shape h1.1
      clear h1
      by_cases fk : tasksI M = true
      · have FK := Lib.hid fk
        have HN := Lib.hid (show ((tests M).take 3).all id = true by have h := HA.out; simp [tests] at h ⊢; simp [h, fk])
        clear fk
        go_wp2_with (go_at_call 76; refine (iTasksOk_any w.heap.size ca cc ta tc ga gc gh M _ pw2 HF.out HT.out HG.out hc).mono ?_; rintro e w3 ⟨rfl, hb3⟩; rw [FK.out])
        go_roundw
        case rel => exact ⟨3, by omega, rfl, rfl, HN.out, hb.andThen hb3⟩
        case measure => simp [intOf]
      · have FK := Lib.hid (show tasksI M = false by simpa only [Bool.not_eq_true] using fk)
        have HN := Lib.hid (show (shapeI M && (groupsI M && (tasksI M && (shelvesI M && cpusI M)))) = false by rw [FK.out]; simp)
        clear fk
        go_wp2_with (go_at_call 76; refine (iTasksOk_any w.heap.size ca cc ta tc ga gc gh M _ pw2 HF.out HT.out HG.out hc).mono ?_; rintro e w3 ⟨rfl, hb3⟩; rw [FK.out])
        rw [Exit.noGoto_ret]
        go_ret
        exact ⟨ret_bool HN.out.symm, b1.andThen (hb.andThen hb3)⟩
    · have ik : ∀ w, (Instr.index 111 (.agg #[.func (.func 74) #[] #[], .func (.func 75) #[] #[], .func (.func 76) #[] #[], .func (.func 77) #[] #[], .func (.func 78) #[] #[]]) (.int .i64 3)).run Tryz.prog w = .ok (.func (.func 77) #[] #[]) w := fun _ => by kernel_rfl
      have h1 : shapeI M = true ∧ groupsI M = true ∧ tasksI M = true := by simpa [tests] using HA.out
      have HT := Lib.hid (tree_shape h1.1)
      have HG := Lib.hid (gok_shape h1.1 h1.2.1 HX.out)
      have hc := cpus_shape h1.1
      clear h1
      by_cases fk : shelvesI M = true
      · have FK := Lib.hid fk
        have HN := Lib.hid (show ((tests M).take 4).all id = true by have h := HA.out; simp [tests] at h ⊢; simp [h, fk])
        clear fk
        go_wp2_with (go_at_call 77; refine (iShelvesOk_any w.heap.size ca cc ta tc ga gc gh M _ pw2 HF.out HT.out HG.out hc).mono ?_; rintro e w3 ⟨rfl, hb3⟩; rw [FK.out])
        go_roundw
        case rel => exact ⟨4, by omega, rfl, rfl, HN.out, hb.andThen hb3⟩
        case measure => simp [intOf]
      · have FK := Lib.hid (show shelvesI M = false by simpa only [Bool.not_eq_true] using fk)
        have HN := Lib.hid (show (shapeI M && (groupsI M && (tasksI M && (shelvesI M && cpusI M)))) = false by rw [FK.out]; simp)
        clear fk
        go_wp2_with (go_at_call 77; refine (iShelvesOk_any w.heap.size ca cc ta tc ga gc gh M _ pw2 HF.out HT.out HG.out hc).mono ?_; rintro e w3 ⟨rfl, hb3⟩; rw [FK.out])
        rw [Exit.noGoto_ret]
        go_ret
        exact ⟨ret_bool HN.out.symm, b1.andThen (hb.andThen hb3)⟩
    · have ik : ∀ w, (Instr.index 111 (.agg #[.func (.func 74) #[] #[], .func (.func 75) #[] #[], .func (.func 76) #[] #[], .func (.func 77) #[] #[], .func (.func 78) #[] #[]]) (.int .i64 4)).run Tryz.prog w = .ok (.func (.func 78) #[] #[]) w := fun _ => by kernel_rfl
      have h1 : shapeI M = true ∧ groupsI M = true ∧ tasksI M = true ∧ shelvesI M = true := by simpa [tests] using HA.out
      have HT := Lib.hid (tree_shape h1.1)
      have HG := Lib.hid (gok_shape h1.1 h1.2.1 HX.out)
      have HE := Lib.hid (ear_of HT.out h1.2.2.1 h1.2.2.2)
      clear h1
      by_cases fk : cpusI M = true
      · have FK := Lib.hid fk
        have HN := Lib.hid (show ((tests M).take 5).all id = true by have h := HA.out; simp [tests] at h ⊢; simp [h, fk])
        clear fk
        go_wp2_with (go_at_call 78; refine (iCpusOk_any w.heap.size ca cc ta tc ga gc gh M _ pw2 HF.out HT.out HG.out HE.out).mono ?_; rintro e w3 ⟨rfl, hb3⟩; rw [FK.out])
        go_roundw
        case rel => exact ⟨5, by omega, rfl, rfl, HN.out, hb.andThen hb3⟩
        case measure => simp [intOf]
      · have FK := Lib.hid (show cpusI M = false by simpa only [Bool.not_eq_true] using fk)
        have HN := Lib.hid (show (shapeI M && (groupsI M && (tasksI M && (shelvesI M && cpusI M)))) = false by rw [FK.out]; simp)
        clear fk
        go_wp2_with (go_at_call 78; refine (iCpusOk_any w.heap.size ca cc ta tc ga gc gh M _ pw2 HF.out HT.out HG.out HE.out).mono ?_; rintro e w3 ⟨rfl, hb3⟩; rw [FK.out])
        rw [Exit.noGoto_ret]
        go_ret
        exact ⟨ret_bool HN.out.symm, b1.andThen (hb.andThen hb3)⟩
    · have HN := Lib.hid (show (shapeI M && (groupsI M && (tasksI M && (shelvesI M && cpusI M)))) = true by have h := HA.out; simp [tests] at h; simp [h])
      go_wp2
      rw [Exit.noGoto_ret]
      go_ret
      exact ⟨ret_bool HN.out.symm, b1.andThen hb⟩
end Go.Proofs.YtknfpigaognklaaGreatDoor
