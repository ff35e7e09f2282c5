/- A part of the proof. -/
import Derived.Test.YtomllcclallcdaaGreatDoorWr3
namespace Go.Proofs.YtomllcclallcdaaGreatDoor
section
open Go.RowKit Go.Sort
theorem IntS.fresh (L : List Int) (cs : Array Value) (T : TypeId) (hcs : cs = (L.map (Value.int .i64)).toArray) (w : World) : IntS (w.alloc (.cells cs T)).drew (some ⟨w.heap.size, 0, none⟩) L := by
  subst hcs
  refine ⟨fun k hk => ⟨w.heap.size, 0, rfl, by simp, ?_⟩⟩
  have := (Blk.new w T (L.map (Value.int .i64)).toArray).cell k
  rw [Nat.zero_add]
  refine Eq.trans (b := (w.alloc (.cells (L.map (Value.int .i64)).toArray T)).cell? ⟨w.heap.size, k, none⟩) rfl ?_
  rw [this]
  simp [hk]
theorem iTimeN (L : List Int) (n : Nat) (A : Option Addr) (w : World) (h : IntS w A L) (hn : L.length = n) (hl : n ≤ 1048576 := by decide) :
    Calls Tryz.prog 109 #[.slice A n n] w fun e w' => e = .returned (.bool (L.all timeB)) ∧ Below w.heap.size w w' := by
  subst hn
  exact iTimeOk_any A L L.length w h hl
def taskI1 (M : WorldM) (x : TaskM) : Bool := usedI M x.gr && inR x.nice (-10) 9 && (inR x.mask 0 15 && !(x.mask == 0))
def taskI2 (M : WorldM) (x : TaskM) : Bool := [x.v, x.sum, x.used].all timeB && inR x.load 0 8000000 && mhas (whereM M x.gr.toNat x.mask) x.cpu
def taskI3 (M : WorldM) (x : TaskM) : Bool := !(x.st == 1) || ([(she M x.gr.toNat x.cpu.toNat).floor].all timeB && standW x.v (she M x.gr.toNat x.cpu.toNat).floor (wof x.nice))
def taskI (M : WorldM) (t : Nat) : Bool := zeroT (tsk M t) || ((((tsk M t).st == 1) || ((tsk M t).st == 2)) && taskI1 M (tsk M t) && taskI2 M (tsk M t) && taskI3 M (tsk M t))
def tasksI (M : WorldM) : Bool := (List.range M.tasks.length).all (taskI M)
set_option maxRecDepth 100000 in
set_option maxHeartbeats 4000000 in
theorem iTasksOk_any (p : Nat) (ca : Option Addr) (cc : Nat) (ta : Option Addr) (tc : Nat) (ga : Option Addr) (gc : Nat) (gh : Nat → GH) (M : WorldM) (w : World) (hs : PA w p ca cc ta tc ga gc gh M) (hF : FitG M) (hT : Tree M) (hG : GOk M) (hc : M.cpus.length ≤ 4) :
    Calls Tryz.prog 77 #[.pointer (some ⟨p, 0, none⟩)] w fun e w' => e = .returned (.bool (tasksI M)) ∧ Below w.heap.size w w' := by
  have htm := hF.task
  have HF := Lib.hid hF
  clear hF
  have pw := hs
  obtain ⟨q0, q1, q2, q3, q4, q5⟩ := hs
  go_enter Tryz.func77, Tryz.ntmps77
  go_wp2
  clear q0 q1 q2 q3 q4 q5
  go_loopw [3, 4, 5, 11] (fun _ _ _ i wr => ∃ k : Nat, k ≤ M.tasks.length ∧ i = .int .i64 k ∧ (List.range k).all (taskI M) = true ∧ Below w.heap.size w wr) (fun _ _ _ i _ => M.tasks.length - (intOf i).toNat)
  case atStart => exact ⟨0, by omega, rfl, rfl, Below.refl _ _⟩
  case round =>
    obtain ⟨k, hk, rfl, hall, hb⟩ := hrel
    have HA := Lib.hid hall
    clear hall
    have pw2 := pw.keep hb
    by_cases hlt : k < M.tasks.length
    · have q5 := pw2.wa
      obtain ⟨b, o, rfl, hB, c0, c1, c2, c3, c4, c5, c6, c7, c8⟩ := q5.task_ hlt
      obtain ⟨x, hX⟩ : ∃ x, tsk M k = x := ⟨_, rfl⟩
      rw [hX] at c0 c1 c2 c3 c4 c5 c6 c7 c8
      have HX := Lib.hid hX
      clear hX
      go_upto_region 4 with (fail)
      refine gen1 (p := fun W => Code.wp _ _ _ _ W) ?_
      intro W b2 s2 kx
      have b3 := hb.andThen b2
      have x0 := kx.cell 0
      have x1 := kx.cell 1
      have x2 := kx.cell 2
      have x3 := kx.cell 3
      have x4 := kx.cell 4
      have x5 := kx.cell 5
      have x6 := kx.cell 6
      have x7 := kx.cell 7
      have x8 := kx.cell 8
      simp at x0 x1 x2 x3 x4 x5 x6 x7 x8
      have hxs := kx.lt
      have pw3 := pw2.keep b2
      clear s2 kx c0 c1 c2 c3 c4 c5 c6 c7 c8 pw pw2 q5
      obtain ⟨q0, q1, q2, q3, q4, q5⟩ := pw3
      have pw3 : PA W p ca cc (some ⟨b, o, none⟩) tc ga gc gh M := ⟨q0, q1, q2, q3, q4, q5⟩
      by_cases hst : x.st = 1
      · skip
        rw [hst] at x0
        have HST := Lib.hid hst
        clear hst
        have TN := Lib.hid (show taskI M k = (usedI M x.gr && inR x.nice (-10) 9 && (inR x.mask 0 15 && !(x.mask == 0)) && [x.v, x.sum, x.used].all timeB && inR x.load 0 8000000 && mhas (whereM M x.gr.toNat x.mask) x.cpu && taskI3 M x) by rw [taskI, HX.out, zeroT, HST.out, taskI1, taskI2]; simp [Bool.and_assoc])
        go_upto_region 5 with (fail)
        have bd : Below W.heap.size W W.drew := ⟨rfl, rfl, rfl, Nat.le_refl _, fun _ _ => rfl⟩
        have r0 := fun d os => cell_regrown x0 d os
        have r1 := fun d os => cell_regrown x1 d os
        have r2 := fun d os => cell_regrown x2 d os
        have r3 := fun d os => cell_regrown x3 d os
        have r4 := fun d os => cell_regrown x4 d os
        have r5 := fun d os => cell_regrown x5 d os
        have r6 := fun d os => cell_regrown x6 d os
        have r7 := fun d os => cell_regrown x7 d os
        have r8 := fun d os => cell_regrown x8 d os
        have q4' := fun d os => cell_regrown q4 d os
        refine region_by [false, false, false, false, false, false, false, false, false, false, false, false, false, false, false, true, false, false, false, false, false, true, false, false, false, false, false, true, false, false] (by kernel_rfl) (by kernel_rfl) (by kernel_rfl) ?_
        repeat (first | (refine wpR_skip (by rfl) ?_; simp only [Act.put, List.setIfInBounds_toArray, List.set_cons_zero, List.set_cons_succ]) | (refine wpR_det (by rfl) (fun K hK => ?_); go_big_quiet_op; refine hK _ ?_; clear hK K))
        refine wpR_bar (by rfl) (fun K hK => ?_)
        go_big_op
        go_at_call 116
        refine (iGroupUsed_any ca _ ga gc gh M _ (q5.keep bd) HF.out.group _).mono ?_
        rintro e w' ⟨rfl, rfl⟩
        refine hK _ _ (regrown_of_below bd) ?_
        clear hK K
        cases f1 : usedI M x.gr with
        | false =>
          have F1 := Lib.hid f1
          clear f1
          repeat (first | (refine wpR_skip (by rfl) ?_; simp only [Act.put, List.setIfInBounds_toArray, List.set_cons_zero, List.set_cons_succ]) | (refine wpR_det (by rfl) (fun K hK => ?_); go_big_quiet_op; refine hK _ ?_; clear hK K))
          refine wpR_nil ?_
          go_wp2
          go_ret
          exact ⟨ret_bool (by rw [tasksI, all_of hlt (by rw [TN.out, F1.out]; simp)]), b3.andThen bd⟩
        | true =>
          have F1 := Lib.hid f1
          clear f1
          repeat (first | (refine wpR_skip (by rfl) ?_; simp only [Act.put, List.setIfInBounds_toArray, List.set_cons_zero, List.set_cons_succ]) | (refine wpR_det (by rfl) (fun K hK => ?_); go_big_quiet_op; refine hK _ ?_; clear hK K))
          refine wpR_bar (by rfl) (fun K hK => ?_)
          go_big_op
          go_at_call 117
          refine (iNiceOk_any _ _).mono ?_
          rintro e w' ⟨rfl, rfl⟩
          refine hK _ _ (regrown_of_below bd) ?_
          clear hK K
          cases f2 : inR x.nice (-10) 9 with
          | false =>
            have F2 := Lib.hid f2
            clear f2
            repeat (first | (refine wpR_skip (by rfl) ?_; simp only [Act.put, List.setIfInBounds_toArray, List.set_cons_zero, List.set_cons_succ]) | (refine wpR_det (by rfl) (fun K hK => ?_); go_big_quiet_op; refine hK _ ?_; clear hK K))
            refine wpR_nil ?_
            go_wp2
            go_ret
            exact ⟨ret_bool (by rw [tasksI, all_of hlt (by rw [TN.out, F1.out, F2.out]; simp)]), b3.andThen bd⟩
          | true =>
            have F2 := Lib.hid f2
            clear f2
            repeat (first | (refine wpR_skip (by rfl) ?_; simp only [Act.put, List.setIfInBounds_toArray, List.set_cons_zero, List.set_cons_succ]) | (refine wpR_det (by rfl) (fun K hK => ?_); go_big_quiet_op; refine hK _ ?_; clear hK K))
            refine wpR_bar (by rfl) (fun K hK => ?_)
            go_big_op
            go_at_call 114
            refine (iMaskFull_any _ _).mono ?_
            rintro e w' ⟨rfl, rfl⟩
            refine hK _ _ (regrown_of_below bd) ?_
            clear hK K
            cases f3 : (inR x.mask 0 15 && !(x.mask == 0)) with
            | false =>
              have F3 := Lib.hid f3
              clear f3
              repeat (first | (refine wpR_skip (by rfl) ?_; simp only [Act.put, List.setIfInBounds_toArray, List.set_cons_zero, List.set_cons_succ]) | (refine wpR_det (by rfl) (fun K hK => ?_); go_big_quiet_op; refine hK _ ?_; clear hK K))
              refine wpR_nil ?_
              go_wp2
              go_ret
              exact ⟨ret_bool (by rw [tasksI, all_of hlt (by rw [TN.out, F1.out, F2.out, F3.out]; simp)]), b3.andThen bd⟩
            | true =>
              have F3 := Lib.hid f3
              clear f3
              repeat (first | (refine wpR_skip (by rfl) ?_; simp only [Act.put, List.setIfInBounds_toArray, List.set_cons_zero, List.set_cons_succ]) | (refine wpR_det (by rfl) (fun K hK => ?_); go_big_quiet_op; refine hK _ ?_; clear hK K))
              refine wpR_nil ?_
              obtain ⟨g, hg⟩ : ∃ g : Nat, x.gr = g := by
                have f1 := F1.out
                simp only [usedI, Bool.and_eq_true, decide_eq_true_eq] at f1
                exact ⟨x.gr.toNat, by omega⟩
              have hgu : g < 8 ∧ (grp M g).used = true := by
                have f1 := F1.out
                have hl := hT.len
                rw [hg] at f1
                simp only [usedI, Bool.and_eq_true, decide_eq_true_eq, Int.toNat_natCast] at f1
                exact ⟨by omega, f1.2⟩
              obtain ⟨hg8, hgu⟩ := hgu
              have HGU := Lib.hid hgu
              have HG := Lib.hid hg
              have hxg : (tsk M k).gr = g := by rw [HX.out]; exact hg
              have HXG := Lib.hid hxg
              clear hgu hg hxg
              go_upto_region 7 with (fail)
              have z := pw3.keep bd
              obtain ⟨q0, q1, q2, q3, q4, q5⟩ := z
              have PW4 := Lib.hid (pw3.keep bd)
              have b4 := b3.andThen bd
              have y0 := (bd.cell (p := ⟨wr.heap.size, 0, none⟩) hxs).trans x0
              have y1 := (bd.cell (p := ⟨wr.heap.size, 1, none⟩) hxs).trans x1
              have y2 := (bd.cell (p := ⟨wr.heap.size, 2, none⟩) hxs).trans x2
              have y3 := (bd.cell (p := ⟨wr.heap.size, 3, none⟩) hxs).trans x3
              have y4 := (bd.cell (p := ⟨wr.heap.size, 4, none⟩) hxs).trans x4
              have y5 := (bd.cell (p := ⟨wr.heap.size, 5, none⟩) hxs).trans x5
              have y6 := (bd.cell (p := ⟨wr.heap.size, 6, none⟩) hxs).trans x6
              have y7 := (bd.cell (p := ⟨wr.heap.size, 7, none⟩) hxs).trans x7
              have y8 := (bd.cell (p := ⟨wr.heap.size, 8, none⟩) hxs).trans x8
              clear x0 x1 x2 x3 x4 x5 x6 x7 x8 r0 r1 r2 r3 r4 r5 r6 r7 r8 q4'
              have hxs2 := Nat.lt_of_lt_of_le hxs bd.size
              clear hxs
              generalize W.drew = W1 at *
              clear bd
              have bd : Below W1.heap.size W1 W1.drew := ⟨rfl, rfl, rfl, Nat.le_refl _, fun _ _ => rfl⟩
              have r0 := fun d os => cell_regrown y0 d os
              have r1 := fun d os => cell_regrown y1 d os
              have r2 := fun d os => cell_regrown y2 d os
              have r3 := fun d os => cell_regrown y3 d os
              have r4 := fun d os => cell_regrown y4 d os
              have r5 := fun d os => cell_regrown y5 d os
              have r6 := fun d os => cell_regrown y6 d os
              have r7 := fun d os => cell_regrown y7 d os
              have r8 := fun d os => cell_regrown y8 d os
              refine region_or [false, false, false, false, false, false, true, true, false, false, false, false, true, false, false, false, false, false, false, false, true, true, false, false] [0, 1, 2, 3, 4, 5, 6, 7, 8, 9, 10, 11, 12, 13, 14, 15, 16, 17, 19, 20, 18, 21, 22, 23] (by kernel_rfl) (by kernel_rfl) rfl (by kernel_rfl) (by kernel_rfl) ?_
              simp only [permL, List.getElem?_cons_zero, List.getElem?_cons_succ, Option.toList_some, List.cons_append, List.nil_append]
              repeat (first | (refine wpR_skip (by rfl) ?_; simp only [Act.put, List.setIfInBounds_toArray, List.set_cons_zero, List.set_cons_succ]) | (refine wpR_det (by rfl) (fun K hK => ?_); go_big_quiet_op; refine hK _ ?_; clear hK K))
              refine wpR_bar (by rfl) (fun K hK => ?_)
              go_big_op
              refine hK _ _ (regrown_of_below (bd.andThen ((Below.refl _ _).alloc (Nat.le_refl _) _))) ?_
              clear hK K
              repeat (first | (refine wpR_skip (by rfl) ?_; simp only [Act.put, List.setIfInBounds_toArray, List.set_cons_zero, List.set_cons_succ]) | (refine wpR_det (by rfl) (fun K hK => ?_); go_big_quiet_op; refine hK _ ?_; clear hK K))
              refine wpR_bar (by rfl) (fun K hK => ?_)
              go_big_op
              go_at_call 109
              refine (iTimeN [x.v, x.sum, x.used] 3 _ _ (IntS.fresh _ _ _ rfl W1) rfl).mono ?_
              rintro e w5 ⟨rfl, hb5⟩
              refine hK _ _ (regrown_of_below (bd.andThen (((Below.refl _ _).alloc (Nat.le_refl _) _).andThen hb5))) ?_
              clear hK K
              cases f4 : ([x.v, x.sum, x.used].all timeB) with
              | false =>
                have F4 := Lib.hid f4
                clear f4
                repeat (first | (refine wpR_skip (by rfl) ?_; simp only [Act.put, List.setIfInBounds_toArray, List.set_cons_zero, List.set_cons_succ]) | (refine wpR_det (by rfl) (fun K hK => ?_); go_big_quiet_op; refine hK _ ?_; clear hK K))
                refine wpR_nil ?_
                go_wp2
                go_ret
                exact ⟨ret_bool (by rw [tasksI, all_of hlt (by rw [TN.out, F1.out, F2.out, F3.out, F4.out]; simp)]), b4.andThen (bd.andThen (((Below.refl _ _).alloc (Nat.le_refl _) _).andThen hb5))⟩
              | true =>
                have F4 := Lib.hid f4
                clear f4
                repeat (first | (refine wpR_skip (by rfl) ?_; simp only [Act.put, List.setIfInBounds_toArray, List.set_cons_zero, List.set_cons_succ]) | (refine wpR_det (by rfl) (fun K hK => ?_); go_big_quiet_op; refine hK _ ?_; clear hK K))
                refine wpR_bar (by rfl) (fun K hK => ?_)
                go_big_op
                go_at_call 118
                refine (iLoadOk_any _ _).mono ?_
                rintro e w' ⟨rfl, rfl⟩
                refine hK _ _ (regrown_of_below (bd.andThen (((Below.refl _ _).alloc (Nat.le_refl _) _).andThen hb5))) ?_
                clear hK K
                cases f5 : inR x.load 0 8000000 with
                | false =>
                  have F5 := Lib.hid f5
                  clear f5
                  repeat (first | (refine wpR_skip (by rfl) ?_; simp only [Act.put, List.setIfInBounds_toArray, List.set_cons_zero, List.set_cons_succ]) | (refine wpR_det (by rfl) (fun K hK => ?_); go_big_quiet_op; refine hK _ ?_; clear hK K))
                  refine wpR_nil ?_
                  go_wp2
                  go_ret
                  exact ⟨ret_bool (by rw [tasksI, all_of hlt (by rw [TN.out, F1.out, F2.out, F3.out, F4.out, F5.out]; simp)]), b4.andThen (bd.andThen (((Below.refl _ _).alloc (Nat.le_refl _) _).andThen hb5))⟩
                | true =>
                  have F5 := Lib.hid f5
                  clear f5
                  repeat (first | (refine wpR_skip (by rfl) ?_; simp only [Act.put, List.setIfInBounds_toArray, List.set_cons_zero, List.set_cons_succ]) | (refine wpR_det (by rfl) (fun K hK => ?_); go_big_quiet_op; refine hK _ ?_; clear hK K))
                  refine wpR_bar (by rfl) (fun K hK => ?_)
                  go_big_op
                  go_at_call 120
                  refine (iAllowed_any p ca cc _ tc ga gc gh M _ (PW4.out.keep (bd.andThen (((Below.refl _ _).alloc (Nat.le_refl _) _).andThen hb5))) hT hc k g hlt HXG.out hg8 HGU.out).mono ?_
                  rintro e w6 ⟨rfl, hb6⟩
                  rw [HX.out]
                  refine hK _ _ (regrown_of_below ((bd.andThen (((Below.refl _ _).alloc (Nat.le_refl _) _).andThen hb5)).andThen hb6)) ?_
                  clear hK K
                  refine wpR_bar (by rfl) (fun K hK => ?_)
                  go_big_op
                  go_at_call 119
                  refine (iMaskHas_any _ _ _).mono ?_
                  rintro e w' ⟨rfl, rfl⟩
                  refine hK _ _ (regrown_of_below ((bd.andThen (((Below.refl _ _).alloc (Nat.le_refl _) _).andThen hb5)).andThen hb6)) ?_
                  clear hK K
                  cases f6 : mhas (whereM M g x.mask) x.cpu with
                  | false =>
                    have F6 := Lib.hid f6
                    clear f6
                    repeat (first | (refine wpR_skip (by rfl) ?_; simp only [Act.put, List.setIfInBounds_toArray, List.set_cons_zero, List.set_cons_succ]) | (refine wpR_det (by rfl) (fun K hK => ?_); go_big_quiet_op; refine hK _ ?_; clear hK K))
                    refine wpR_nil ?_
                    go_wp2
                    go_ret
                    exact ⟨ret_bool (by rw [tasksI, all_of hlt (by rw [TN.out, F1.out, F2.out, F3.out, F4.out, F5.out, HG.out, Int.toNat_natCast, F6.out]; simp)]), b4.andThen ((bd.andThen (((Below.refl _ _).alloc (Nat.le_refl _) _).andThen hb5)).andThen hb6)⟩
                  | true =>
                    have F6 := Lib.hid f6
                    clear f6
                    repeat (first | (refine wpR_skip (by rfl) ?_; simp only [Act.put, List.setIfInBounds_toArray, List.set_cons_zero, List.set_cons_succ]) | (refine wpR_det (by rfl) (fun K hK => ?_); go_big_quiet_op; refine hK _ ?_; clear hK K))
                    refine wpR_nil ?_
                    have hF6 := F6.out
                    obtain ⟨hcl, hcu⟩ := where_has hc hF6
                    clear hF6
                    obtain ⟨c, hcc⟩ : ∃ c : Nat, x.cpu = c := ⟨x.cpu.toNat, by omega⟩
                    rw [hcc] at hcl hcu
                    have b6 := b4.andThen ((bd.andThen (((Below.refl _ _).alloc (Nat.le_refl _) _).andThen hb5)).andThen hb6)
                    have w6l : Below W1.heap.size W1 w6 := ((bd.andThen (((Below.refl _ _).alloc (Nat.le_refl _) _).andThen hb5)).andThen hb6)
                    have z0 := (w6l.cell (p := ⟨wr.heap.size, 0, none⟩) hxs2).trans y0
                    have z1 := (w6l.cell (p := ⟨wr.heap.size, 1, none⟩) hxs2).trans y1
                    have z2 := (w6l.cell (p := ⟨wr.heap.size, 2, none⟩) hxs2).trans y2
                    have z3 := (w6l.cell (p := ⟨wr.heap.size, 3, none⟩) hxs2).trans y3
                    have z5 := (w6l.cell (p := ⟨wr.heap.size, 5, none⟩) hxs2).trans y5
                    have hxs3 := Nat.lt_of_lt_of_le hxs2 w6l.size
                    rw [hcc] at z2
                    rw [HG.out] at z1
                    have HC := Lib.hid hcc
                    have PW6 := Lib.hid (PW4.out.keep w6l)
                    clear hcc y0 y1 y2 y3 y4 y5 y6 y7 y8 r0 r1 r2 r3 r4 r5 r6 r7 r8 q1 q2 q3 q4 q5 bd w6l hb5 hb6
                    go_upto_region 9 with (fail)
                    have hcs : c < (grp M g).shelves.length := by rw [hG.she g hg8 HGU.out]; omega
                    have hlg : g < M.groups.length := by have := hT.len; omega
                    obtain ⟨b5, o5, e5, hB5, f0, f1⟩ := PW6.out.wa.shelf_ hlg hcs
                    have E5 := Lib.hid e5
                    clear f1 e5
                    have bd : Below w6.heap.size w6 w6.drew := ⟨rfl, rfl, rfl, Nat.le_refl _, fun _ _ => rfl⟩
                    have r1 := fun d os => cell_regrown z1 d os
                    have r2 := fun d os => cell_regrown z2 d os
                    have rf := fun d os => cell_regrown f0 d os
                    refine region_or [false, false, false, false, false, true, true, false, false, false, false] [0, 1, 2, 4, 5, 3, 6, 7, 8, 9, 10] (by kernel_rfl) (by kernel_rfl) rfl (by kernel_rfl) (by kernel_rfl) ?_
                    simp only [permL, List.getElem?_cons_zero, List.getElem?_cons_succ, Option.toList_some, List.cons_append, List.nil_append]
                    repeat (first | (refine wpR_skip (by rfl) ?_; simp only [Act.put, List.setIfInBounds_toArray, List.set_cons_zero, List.set_cons_succ]) | (refine wpR_det (by rfl) (fun K hK => ?_); go_big_quiet_op; refine hK _ ?_; clear hK K))
                    refine wpR_bar (by rfl) (fun K hK => ?_)
                    go_big_op
                    go_at_call 121
                    refine (iLane_any _ _ _).mono ?_
                    rintro e w7 ⟨rfl, hb7⟩
                    refine hK _ _ (regrown_of_below (bd.andThen hb7)) ?_
                    clear hK K
                    refine wpR_bar (by rfl) (fun K hK => ?_)
                    go_big_op
                    go_at_call 122
                    refine (iShelf_any p ca cc _ tc ga gc gh M _ (PW6.out.keep (bd.andThen hb7)) g c b5 o5 E5.out hlg hcs).mono ?_
                    rintro e w8 ⟨rfl, hb8⟩
                    refine hK _ _ (regrown_of_below ((bd.andThen hb7).andThen hb8)) ?_
                    clear hK K
                    repeat (first | (refine wpR_skip (by rfl) ?_; simp only [Act.put, List.setIfInBounds_toArray, List.set_cons_zero, List.set_cons_succ]) | (refine wpR_det (by rfl) (fun K hK => ?_); go_big_quiet_op; refine hK _ ?_; clear hK K))
                    refine wpR_nil ?_
                    have w8l : Below w6.heap.size w6 w8 := ((bd.andThen hb7).andThen hb8)
                    have b8 := b6.andThen w8l
                    have v0 := (w8l.cell (p := ⟨wr.heap.size, 0, none⟩) hxs3).trans z0
                    have v3 := (w8l.cell (p := ⟨wr.heap.size, 3, none⟩) hxs3).trans z3
                    have v5 := (w8l.cell (p := ⟨wr.heap.size, 5, none⟩) hxs3).trans z5
                    have hxs4 := Nat.lt_of_lt_of_le hxs3 w8l.size
                    clear z0 z1 z2 z3 z5 r1 r2 rf bd hb7 hb8 w8l
                    have SF : Hid (she M x.gr.toNat x.cpu.toNat = she M g c) := by rw [HG.out, HC.out]; rfl
                    obtain ⟨s, hS⟩ : ∃ s, she M g c = s := ⟨_, rfl⟩
                    rw [hS] at f0
                    have HS := Lib.hid hS
                    rw [hS]
                    clear hS
                    go_upto_region 10 with (fail)
                    generalize w8 = W8 at *
                    have bd : Below W8.heap.size W8 W8.drew := ⟨rfl, rfl, rfl, Nat.le_refl _, fun _ _ => rfl⟩
                    have r0 := fun d os => cell_regrown v0 d os
                    have r3 := fun d os => cell_regrown v3 d os
                    have r5 := fun d os => cell_regrown v5 d os
                    have PR := Lib.hid (show (((x.st == 1) || (x.st == 2)) && taskI1 M x && taskI2 M x) = true by rw [HST.out, taskI1, taskI2, F1.out, F2.out, F3.out, F4.out, F5.out, HG.out, Int.toNat_natCast, F6.out]; rfl)
                    have T3a := Lib.hid (show taskI3 M x = ([s.floor].all timeB && standW x.v s.floor (wof x.nice)) by rw [taskI3, HST.out, SF.out, HS.out]; rfl)
                    refine region_by [false, false, false, false, false, true, true, false, false, false, false, false, false, false, true, true, false, false, false] (by kernel_rfl) (by kernel_rfl) (by kernel_rfl) ?_
                    repeat (first | (refine wpR_skip (by rfl) ?_; simp only [Act.put, List.setIfInBounds_toArray, List.set_cons_zero, List.set_cons_succ]) | (refine wpR_det (by rfl) (fun K hK => ?_); go_big_quiet_op; refine hK _ ?_; clear hK K))
                    refine wpR_bar (by rfl) (fun K hK => ?_)
                    go_big_op
                    refine hK _ _ (regrown_of_below (bd.andThen ((Below.refl _ _).alloc (Nat.le_refl _) _))) ?_
                    clear hK K
                    repeat (first | (refine wpR_skip (by rfl) ?_; simp only [Act.put, List.setIfInBounds_toArray, List.set_cons_zero, List.set_cons_succ]) | (refine wpR_det (by rfl) (fun K hK => ?_); go_big_quiet_op; refine hK _ ?_; clear hK K))
                    refine wpR_bar (by rfl) (fun K hK => ?_)
                    go_big_op
                    go_at_call 109
                    refine (iTimeN [s.floor] 1 _ _ (IntS.fresh _ _ _ rfl W8) rfl).mono ?_
                    rintro e w9 ⟨rfl, hb9⟩
                    refine hK _ _ (regrown_of_below (bd.andThen (((Below.refl _ _).alloc (Nat.le_refl _) _).andThen hb9))) ?_
                    clear hK K
                    cases f7 : ([s.floor].all timeB) with
                    | false =>
                      have F7 := Lib.hid f7
                      clear f7
                      have T3 := Lib.hid (show taskI3 M x = false by rw [T3a.out, F7.out]; rfl)
                      repeat (first | (refine wpR_skip (by rfl) ?_; simp only [Act.put, List.setIfInBounds_toArray, List.set_cons_zero, List.set_cons_succ]) | (refine wpR_det (by rfl) (fun K hK => ?_); go_big_quiet_op; refine hK _ ?_; clear hK K))
                      refine wpR_nil ?_
                      go_wp2
                      go_ret
                      exact ⟨ret_bool (by rw [tasksI, all_of hlt (by rw [TN.out, T3.out]; simp)]), b8.andThen (bd.andThen (((Below.refl _ _).alloc (Nat.le_refl _) _).andThen hb9))⟩
                    | true =>
                      have F7 := Lib.hid f7
                      clear f7
                      repeat (first | (refine wpR_skip (by rfl) ?_; simp only [Act.put, List.setIfInBounds_toArray, List.set_cons_zero, List.set_cons_succ]) | (refine wpR_det (by rfl) (fun K hK => ?_); go_big_quiet_op; refine hK _ ?_; clear hK K))
                      refine wpR_bar (by rfl) (fun K hK => ?_)
                      go_big_op
                      go_at_call 124
                      refine (iWeightOf_any _ _).mono ?_
                      rintro e w' ⟨rfl, rfl⟩
                      refine hK _ _ (regrown_of_below (bd.andThen (((Below.refl _ _).alloc (Nat.le_refl _) _).andThen hb9))) ?_
                      clear hK K
                      refine wpR_bar (by rfl) (fun K hK => ?_)
                      go_big_op
                      go_at_call 123
                      refine (iPlaced_any _ _ _ _).mono ?_
                      rintro e w10 ⟨rfl, hb10⟩
                      refine hK _ _ (regrown_of_below ((bd.andThen (((Below.refl _ _).alloc (Nat.le_refl _) _).andThen hb9)).andThen hb10)) ?_
                      clear hK K
                      cases f8 : (standW x.v s.floor (wof x.nice)) with
                      | false =>
                        have F8 := Lib.hid f8
                        clear f8
                        have T3 := Lib.hid (show taskI3 M x = false by rw [T3a.out, F7.out, F8.out]; rfl)
                        repeat (first | (refine wpR_skip (by rfl) ?_; simp only [Act.put, List.setIfInBounds_toArray, List.set_cons_zero, List.set_cons_succ]) | (refine wpR_det (by rfl) (fun K hK => ?_); go_big_quiet_op; refine hK _ ?_; clear hK K))
                        refine wpR_nil ?_
                        go_wp2
                        go_ret
                        exact ⟨ret_bool (by rw [tasksI, all_of hlt (by rw [TN.out, T3.out]; simp)]), b8.andThen ((bd.andThen (((Below.refl _ _).alloc (Nat.le_refl _) _).andThen hb9)).andThen hb10)⟩
                      | true =>
                        have F8 := Lib.hid f8
                        clear f8
                        have T3 := Lib.hid (show taskI3 M x = true by rw [T3a.out, F7.out, F8.out]; rfl)
                        repeat (first | (refine wpR_skip (by rfl) ?_; simp only [Act.put, List.setIfInBounds_toArray, List.set_cons_zero, List.set_cons_succ]) | (refine wpR_det (by rfl) (fun K hK => ?_); go_big_quiet_op; refine hK _ ?_; clear hK K))
                        refine wpR_nil ?_
                        go_wp2
                        go_roundw
                        case rel => exact ⟨k + 1, by omega, by go_num, by rw [all_succ, HA.out, taskI, HX.out, PR.out, T3.out]; simp, b8.andThen ((bd.andThen (((Below.refl _ _).alloc (Nat.le_refl _) _).andThen hb9)).andThen hb10)⟩
                        case measure => simp [intOf]; omega
      · by_cases hst2 : x.st = 2
        · have hst := hst2
          clear hst2 
          rw [hst] at x0
          have HST := Lib.hid hst
          clear hst
          have TN := Lib.hid (show taskI M k = (usedI M x.gr && inR x.nice (-10) 9 && (inR x.mask 0 15 && !(x.mask == 0)) && [x.v, x.sum, x.used].all timeB && inR x.load 0 8000000 && mhas (whereM M x.gr.toNat x.mask) x.cpu && taskI3 M x) by rw [taskI, HX.out, zeroT, HST.out, taskI1, taskI2]; simp [Bool.and_assoc])
          go_upto_region 5 with (fail)
          have bd : Below W.heap.size W W.drew := ⟨rfl, rfl, rfl, Nat.le_refl _, fun _ _ => rfl⟩
          have r0 := fun d os => cell_regrown x0 d os
          have r1 := fun d os => cell_regrown x1 d os
          have r2 := fun d os => cell_regrown x2 d os
          have r3 := fun d os => cell_regrown x3 d os
          have r4 := fun d os => cell_regrown x4 d os
          have r5 := fun d os => cell_regrown x5 d os
          have r6 := fun d os => cell_regrown x6 d os
          have r7 := fun d os => cell_regrown x7 d os
          have r8 := fun d os => cell_regrown x8 d os
          have q4' := fun d os => cell_regrown q4 d os
          refine region_by [false, false, false, false, false, false, false, false, false, false, false, false, false, false, false, true, false, false, false, false, false, true, false, false, false, false, false, true, false, false] (by kernel_rfl) (by kernel_rfl) (by kernel_rfl) ?_
          repeat (first | (refine wpR_skip (by rfl) ?_; simp only [Act.put, List.setIfInBounds_toArray, List.set_cons_zero, List.set_cons_succ]) | (refine wpR_det (by rfl) (fun K hK => ?_); go_big_quiet_op; refine hK _ ?_; clear hK K))
          refine wpR_bar (by rfl) (fun K hK => ?_)
          go_big_op
          go_at_call 116
          refine (iGroupUsed_any ca _ ga gc gh M _ (q5.keep bd) HF.out.group _).mono ?_
          rintro e w' ⟨rfl, rfl⟩
          refine hK _ _ (regrown_of_below bd) ?_
          clear hK K
          cases f1 : usedI M x.gr with
          | false =>
            have F1 := Lib.hid f1
            clear f1
            repeat (first | (refine wpR_skip (by rfl) ?_; simp only [Act.put, List.setIfInBounds_toArray, List.set_cons_zero, List.set_cons_succ]) | (refine wpR_det (by rfl) (fun K hK => ?_); go_big_quiet_op; refine hK _ ?_; clear hK K))
            refine wpR_nil ?_
            go_wp2
            go_ret
            exact ⟨ret_bool (by rw [tasksI, all_of hlt (by rw [TN.out, F1.out]; simp)]), b3.andThen bd⟩
          | true =>
            have F1 := Lib.hid f1
            clear f1
            repeat (first | (refine wpR_skip (by rfl) ?_; simp only [Act.put, List.setIfInBounds_toArray, List.set_cons_zero, List.set_cons_succ]) | (refine wpR_det (by rfl) (fun K hK => ?_); go_big_quiet_op; refine hK _ ?_; clear hK K))
            refine wpR_bar (by rfl) (fun K hK => ?_)
            go_big_op
            go_at_call 117
            refine (iNiceOk_any _ _).mono ?_
            rintro e w' ⟨rfl, rfl⟩
            refine hK _ _ (regrown_of_below bd) ?_
            clear hK K
            cases f2 : inR x.nice (-10) 9 with
            | false =>
              have F2 := Lib.hid f2
              clear f2
              repeat (first | (refine wpR_skip (by rfl) ?_; simp only [Act.put, List.setIfInBounds_toArray, List.set_cons_zero, List.set_cons_succ]) | (refine wpR_det (by rfl) (fun K hK => ?_); go_big_quiet_op; refine hK _ ?_; clear hK K))
              refine wpR_nil ?_
              go_wp2
              go_ret
              exact ⟨ret_bool (by rw [tasksI, all_of hlt (by rw [TN.out, F1.out, F2.out]; simp)]), b3.andThen bd⟩
            | true =>
              have F2 := Lib.hid f2
              clear f2
              repeat (first | (refine wpR_skip (by rfl) ?_; simp only [Act.put, List.setIfInBounds_toArray, List.set_cons_zero, List.set_cons_succ]) | (refine wpR_det (by rfl) (fun K hK => ?_); go_big_quiet_op; refine hK _ ?_; clear hK K))
              refine wpR_bar (by rfl) (fun K hK => ?_)
              go_big_op
              go_at_call 114
              refine (iMaskFull_any _ _).mono ?_
              rintro e w' ⟨rfl, rfl⟩
              refine hK _ _ (regrown_of_below bd) ?_
              clear hK K
              cases f3 : (inR x.mask 0 15 && !(x.mask == 0)) with
              | false =>
                have F3 := Lib.hid f3
                clear f3
                repeat (first | (refine wpR_skip (by rfl) ?_; simp only [Act.put, List.setIfInBounds_toArray, List.set_cons_zero, List.set_cons_succ]) | (refine wpR_det (by rfl) (fun K hK => ?_); go_big_quiet_op; refine hK _ ?_; clear hK K))
                refine wpR_nil ?_
                go_wp2
                go_ret
                exact ⟨ret_bool (by rw [tasksI, all_of hlt (by rw [TN.out, F1.out, F2.out, F3.out]; simp)]), b3.andThen bd⟩
              | true =>
                have F3 := Lib.hid f3
                clear f3
                repeat (first | (refine wpR_skip (by rfl) ?_; simp only [Act.put, List.setIfInBounds_toArray, List.set_cons_zero, List.set_cons_succ]) | (refine wpR_det (by rfl) (fun K hK => ?_); go_big_quiet_op; refine hK _ ?_; clear hK K))
                refine wpR_nil ?_
                obtain ⟨g, hg⟩ : ∃ g : Nat, x.gr = g := by
                  have f1 := F1.out
                  simp only [usedI, Bool.and_eq_true, decide_eq_true_eq] at f1
                  exact ⟨x.gr.toNat, by omega⟩
                have hgu : g < 8 ∧ (grp M g).used = true := by
                  have f1 := F1.out
                  have hl := hT.len
                  rw [hg] at f1
                  simp only [usedI, Bool.and_eq_true, decide_eq_true_eq, Int.toNat_natCast] at f1
                  exact ⟨by omega, f1.2⟩
                obtain ⟨hg8, hgu⟩ := hgu
                have HGU := Lib.hid hgu
                have HG := Lib.hid hg
                have hxg : (tsk M k).gr = g := by rw [HX.out]; exact hg
                have HXG := Lib.hid hxg
                clear hgu hg hxg
                go_upto_region 7 with (fail)
                have z := pw3.keep bd
                obtain ⟨q0, q1, q2, q3, q4, q5⟩ := z
                have PW4 := Lib.hid (pw3.keep bd)
                have b4 := b3.andThen bd
                have y0 := (bd.cell (p := ⟨wr.heap.size, 0, none⟩) hxs).trans x0
                have y1 := (bd.cell (p := ⟨wr.heap.size, 1, none⟩) hxs).trans x1
                have y2 := (bd.cell (p := ⟨wr.heap.size, 2, none⟩) hxs).trans x2
                have y3 := (bd.cell (p := ⟨wr.heap.size, 3, none⟩) hxs).trans x3
                have y4 := (bd.cell (p := ⟨wr.heap.size, 4, none⟩) hxs).trans x4
                have y5 := (bd.cell (p := ⟨wr.heap.size, 5, none⟩) hxs).trans x5
                have y6 := (bd.cell (p := ⟨wr.heap.size, 6, none⟩) hxs).trans x6
                have y7 := (bd.cell (p := ⟨wr.heap.size, 7, none⟩) hxs).trans x7
                have y8 := (bd.cell (p := ⟨wr.heap.size, 8, none⟩) hxs).trans x8
                clear x0 x1 x2 x3 x4 x5 x6 x7 x8 r0 r1 r2 r3 r4 r5 r6 r7 r8 q4'
                have hxs2 := Nat.lt_of_lt_of_le hxs bd.size
                clear hxs
                generalize W.drew = W1 at *
                clear bd
                have bd : Below W1.heap.size W1 W1.drew := ⟨rfl, rfl, rfl, Nat.le_refl _, fun _ _ => rfl⟩
                have r0 := fun d os => cell_regrown y0 d os
                have r1 := fun d os => cell_regrown y1 d os
                have r2 := fun d os => cell_regrown y2 d os
                have r3 := fun d os => cell_regrown y3 d os
                have r4 := fun d os => cell_regrown y4 d os
                have r5 := fun d os => cell_regrown y5 d os
                have r6 := fun d os => cell_regrown y6 d os
                have r7 := fun d os => cell_regrown y7 d os
                have r8 := fun d os => cell_regrown y8 d os
                refine region_or [false, false, false, false, false, false, true, true, false, false, false, false, true, false, false, false, false, false, false, false, true, true, false, false] [0, 1, 2, 3, 4, 5, 6, 7, 8, 9, 10, 11, 12, 13, 14, 15, 16, 17, 19, 20, 18, 21, 22, 23] (by kernel_rfl) (by kernel_rfl) rfl (by kernel_rfl) (by kernel_rfl) ?_
                simp only [permL, List.getElem?_cons_zero, List.getElem?_cons_succ, Option.toList_some, List.cons_append, List.nil_append]
                repeat (first | (refine wpR_skip (by rfl) ?_; simp only [Act.put, List.setIfInBounds_toArray, List.set_cons_zero, List.set_cons_succ]) | (refine wpR_det (by rfl) (fun K hK => ?_); go_big_quiet_op; refine hK _ ?_; clear hK K))
                refine wpR_bar (by rfl) (fun K hK => ?_)
                go_big_op
                refine hK _ _ (regrown_of_below (bd.andThen ((Below.refl _ _).alloc (Nat.le_refl _) _))) ?_
                clear hK K
                repeat (first | (refine wpR_skip (by rfl) ?_; simp only [Act.put, List.setIfInBounds_toArray, List.set_cons_zero, List.set_cons_succ]) | (refine wpR_det (by rfl) (fun K hK => ?_); go_big_quiet_op; refine hK _ ?_; clear hK K))
                refine wpR_bar (by rfl) (fun K hK => ?_)
                go_big_op
                go_at_call 109
                refine (iTimeN [x.v, x.sum, x.used] 3 _ _ (IntS.fresh _ _ _ rfl W1) rfl).mono ?_
                rintro e w5 ⟨rfl, hb5⟩
                refine hK _ _ (regrown_of_below (bd.andThen (((Below.refl _ _).alloc (Nat.le_refl _) _).andThen hb5))) ?_
                clear hK K
                cases f4 : ([x.v, x.sum, x.used].all timeB) with
                | false =>
                  have F4 := Lib.hid f4
                  clear f4
                  repeat (first | (refine wpR_skip (by rfl) ?_; simp only [Act.put, List.setIfInBounds_toArray, List.set_cons_zero, List.set_cons_succ]) | (refine wpR_det (by rfl) (fun K hK => ?_); go_big_quiet_op; refine hK _ ?_; clear hK K))
                  refine wpR_nil ?_
                  go_wp2
                  go_ret
                  exact ⟨ret_bool (by rw [tasksI, all_of hlt (by rw [TN.out, F1.out, F2.out, F3.out, F4.out]; simp)]), b4.andThen (bd.andThen (((Below.refl _ _).alloc (Nat.le_refl _) _).andThen hb5))⟩
                | true =>
                  have F4 := Lib.hid f4
                  clear f4
                  repeat (first | (refine wpR_skip (by rfl) ?_; simp only [Act.put, List.setIfInBounds_toArray, List.set_cons_zero, List.set_cons_succ]) | (refine wpR_det (by rfl) (fun K hK => ?_); go_big_quiet_op; refine hK _ ?_; clear hK K))
                  refine wpR_bar (by rfl) (fun K hK => ?_)
                  go_big_op
                  go_at_call 118
                  refine (iLoadOk_any _ _).mono ?_
                  rintro e w' ⟨rfl, rfl⟩
                  refine hK _ _ (regrown_of_below (bd.andThen (((Below.refl _ _).alloc (Nat.le_refl _) _).andThen hb5))) ?_
                  clear hK K
                  cases f5 : inR x.load 0 8000000 with
                  | false =>
                    have F5 := Lib.hid f5
                    clear f5
                    repeat (first | (refine wpR_skip (by rfl) ?_; simp only [Act.put, List.setIfInBounds_toArray, List.set_cons_zero, List.set_cons_succ]) | (refine wpR_det (by rfl) (fun K hK => ?_); go_big_quiet_op; refine hK _ ?_; clear hK K))
                    refine wpR_nil ?_
                    go_wp2
                    go_ret
                    exact ⟨ret_bool (by rw [tasksI, all_of hlt (by rw [TN.out, F1.out, F2.out, F3.out, F4.out, F5.out]; simp)]), b4.andThen (bd.andThen (((Below.refl _ _).alloc (Nat.le_refl _) _).andThen hb5))⟩
                  | true =>
                    have F5 := Lib.hid f5
                    clear f5
                    repeat (first | (refine wpR_skip (by rfl) ?_; simp only [Act.put, List.setIfInBounds_toArray, List.set_cons_zero, List.set_cons_succ]) | (refine wpR_det (by rfl) (fun K hK => ?_); go_big_quiet_op; refine hK _ ?_; clear hK K))
                    refine wpR_bar (by rfl) (fun K hK => ?_)
                    go_big_op
                    go_at_call 120
                    refine (iAllowed_any p ca cc _ tc ga gc gh M _ (PW4.out.keep (bd.andThen (((Below.refl _ _).alloc (Nat.le_refl _) _).andThen hb5))) hT hc k g hlt HXG.out hg8 HGU.out).mono ?_
                    rintro e w6 ⟨rfl, hb6⟩
                    rw [HX.out]
                    refine hK _ _ (regrown_of_below ((bd.andThen (((Below.refl _ _).alloc (Nat.le_refl _) _).andThen hb5)).andThen hb6)) ?_
                    clear hK K
                    refine wpR_bar (by rfl) (fun K hK => ?_)
                    go_big_op
                    go_at_call 119
                    refine (iMaskHas_any _ _ _).mono ?_
                    rintro e w' ⟨rfl, rfl⟩
                    refine hK _ _ (regrown_of_below ((bd.andThen (((Below.refl _ _).alloc (Nat.le_refl _) _).andThen hb5)).andThen hb6)) ?_
                    clear hK K
                    cases f6 : mhas (whereM M g x.mask) x.cpu with
                    | false =>
                      have F6 := Lib.hid f6
                      clear f6
                      repeat (first | (refine wpR_skip (by rfl) ?_; simp only [Act.put, List.setIfInBounds_toArray, List.set_cons_zero, List.set_cons_succ]) | (refine wpR_det (by rfl) (fun K hK => ?_); go_big_quiet_op; refine hK _ ?_; clear hK K))
                      refine wpR_nil ?_
                      go_wp2
                      go_ret
                      exact ⟨ret_bool (by rw [tasksI, all_of hlt (by rw [TN.out, F1.out, F2.out, F3.out, F4.out, F5.out, HG.out, Int.toNat_natCast, F6.out]; simp)]), b4.andThen ((bd.andThen (((Below.refl _ _).alloc (Nat.le_refl _) _).andThen hb5)).andThen hb6)⟩
                    | true =>
                      have F6 := Lib.hid f6
                      clear f6
                      repeat (first | (refine wpR_skip (by rfl) ?_; simp only [Act.put, List.setIfInBounds_toArray, List.set_cons_zero, List.set_cons_succ]) | (refine wpR_det (by rfl) (fun K hK => ?_); go_big_quiet_op; refine hK _ ?_; clear hK K))
                      refine wpR_nil ?_
                      have hF6 := F6.out
                      obtain ⟨hcl, hcu⟩ := where_has hc hF6
                      clear hF6
                      obtain ⟨c, hcc⟩ : ∃ c : Nat, x.cpu = c := ⟨x.cpu.toNat, by omega⟩
                      rw [hcc] at hcl hcu
                      have b6 := b4.andThen ((bd.andThen (((Below.refl _ _).alloc (Nat.le_refl _) _).andThen hb5)).andThen hb6)
                      have w6l : Below W1.heap.size W1 w6 := ((bd.andThen (((Below.refl _ _).alloc (Nat.le_refl _) _).andThen hb5)).andThen hb6)
                      have z0 := (w6l.cell (p := ⟨wr.heap.size, 0, none⟩) hxs2).trans y0
                      have z1 := (w6l.cell (p := ⟨wr.heap.size, 1, none⟩) hxs2).trans y1
                      have z2 := (w6l.cell (p := ⟨wr.heap.size, 2, none⟩) hxs2).trans y2
                      have z3 := (w6l.cell (p := ⟨wr.heap.size, 3, none⟩) hxs2).trans y3
                      have z5 := (w6l.cell (p := ⟨wr.heap.size, 5, none⟩) hxs2).trans y5
                      have hxs3 := Nat.lt_of_lt_of_le hxs2 w6l.size
                      rw [hcc] at z2
                      rw [HG.out] at z1
                      have HC := Lib.hid hcc
                      have PW6 := Lib.hid (PW4.out.keep w6l)
                      clear hcc y0 y1 y2 y3 y4 y5 y6 y7 y8 r0 r1 r2 r3 r4 r5 r6 r7 r8 q1 q2 q3 q4 q5 bd w6l hb5 hb6
                      go_upto_region 9 with (fail)
                      have hcs : c < (grp M g).shelves.length := by rw [hG.she g hg8 HGU.out]; omega
                      have hlg : g < M.groups.length := by have := hT.len; omega
                      obtain ⟨b5, o5, e5, hB5, f0, f1⟩ := PW6.out.wa.shelf_ hlg hcs
                      have E5 := Lib.hid e5
                      clear f1 e5
                      have bd : Below w6.heap.size w6 w6.drew := ⟨rfl, rfl, rfl, Nat.le_refl _, fun _ _ => rfl⟩
                      have r1 := fun d os => cell_regrown z1 d os
                      have r2 := fun d os => cell_regrown z2 d os
                      have rf := fun d os => cell_regrown f0 d os
                      refine region_or [false, false, false, false, false, true, true, false, false, false, false] [0, 1, 2, 4, 5, 3, 6, 7, 8, 9, 10] (by kernel_rfl) (by kernel_rfl) rfl (by kernel_rfl) (by kernel_rfl) ?_
                      simp only [permL, List.getElem?_cons_zero, List.getElem?_cons_succ, Option.toList_some, List.cons_append, List.nil_append]
                      repeat (first | (refine wpR_skip (by rfl) ?_; simp only [Act.put, List.setIfInBounds_toArray, List.set_cons_zero, List.set_cons_succ]) | (refine wpR_det (by rfl) (fun K hK => ?_); go_big_quiet_op; refine hK _ ?_; clear hK K))
                      refine wpR_bar (by rfl) (fun K hK => ?_)
                      go_big_op
                      go_at_call 121
                      refine (iLane_any _ _ _).mono ?_
                      rintro e w7 ⟨rfl, hb7⟩
                      refine hK _ _ (regrown_of_below (bd.andThen hb7)) ?_
                      clear hK K
                      refine wpR_bar (by rfl) (fun K hK => ?_)
                      go_big_op
                      go_at_call 122
                      refine (iShelf_any p ca cc _ tc ga gc gh M _ (PW6.out.keep (bd.andThen hb7)) g c b5 o5 E5.out hlg hcs).mono ?_
                      rintro e w8 ⟨rfl, hb8⟩
                      refine hK _ _ (regrown_of_below ((bd.andThen hb7).andThen hb8)) ?_
                      clear hK K
                      repeat (first | (refine wpR_skip (by rfl) ?_; simp only [Act.put, List.setIfInBounds_toArray, List.set_cons_zero, List.set_cons_succ]) | (refine wpR_det (by rfl) (fun K hK => ?_); go_big_quiet_op; refine hK _ ?_; clear hK K))
                      refine wpR_nil ?_
                      have w8l : Below w6.heap.size w6 w8 := ((bd.andThen hb7).andThen hb8)
                      have b8 := b6.andThen w8l
                      have v0 := (w8l.cell (p := ⟨wr.heap.size, 0, none⟩) hxs3).trans z0
                      have v3 := (w8l.cell (p := ⟨wr.heap.size, 3, none⟩) hxs3).trans z3
                      have v5 := (w8l.cell (p := ⟨wr.heap.size, 5, none⟩) hxs3).trans z5
                      have hxs4 := Nat.lt_of_lt_of_le hxs3 w8l.size
                      clear z0 z1 z2 z3 z5 r1 r2 rf bd hb7 hb8 w8l
                      have SF : Hid (she M x.gr.toNat x.cpu.toNat = she M g c) := by rw [HG.out, HC.out]; rfl
                      obtain ⟨s, hS⟩ : ∃ s, she M g c = s := ⟨_, rfl⟩
                      rw [hS] at f0
                      have HS := Lib.hid hS
                      rw [hS]
                      clear hS
                      go_upto_region 10 with (fail)
                      generalize w8 = W8 at *
                      have bd : Below W8.heap.size W8 W8.drew := ⟨rfl, rfl, rfl, Nat.le_refl _, fun _ _ => rfl⟩
                      have r0 := fun d os => cell_regrown v0 d os
                      have r3 := fun d os => cell_regrown v3 d os
                      have r5 := fun d os => cell_regrown v5 d os
                      have PR := Lib.hid (show (((x.st == 1) || (x.st == 2)) && taskI1 M x && taskI2 M x) = true by rw [HST.out, taskI1, taskI2, F1.out, F2.out, F3.out, F4.out, F5.out, HG.out, Int.toNat_natCast, F6.out]; rfl)
                      have T3 := Lib.hid (show taskI3 M x = true by rw [taskI3, HST.out]; rfl)
                      refine region_by [false, false, false, false, false, true, true, false, false, false, false, false, false, false, true, true, false, false, false] (by kernel_rfl) (by kernel_rfl) (by kernel_rfl) ?_
                      repeat (first | (refine wpR_skip (by rfl) ?_; simp only [Act.put, List.setIfInBounds_toArray, List.set_cons_zero, List.set_cons_succ]) | (refine wpR_det (by rfl) (fun K hK => ?_); go_big_quiet_op; refine hK _ ?_; clear hK K))
                      refine wpR_nil ?_
                      go_wp2
                      go_roundw
                      case rel => exact ⟨k + 1, by omega, by go_num, by rw [all_succ, HA.out, taskI, HX.out, PR.out, T3.out]; simp, b8.andThen bd⟩
                      case measure => simp [intOf]; omega
        · have e1 : (x.st != 1) = true := by simpa using hst
          have e2 : (x.st != 2) = true := by simpa using hst2
          have TN := Lib.hid (show taskI M k = zeroT x by rw [taskI, HX.out, show ((x.st == 1) || (x.st == 2)) = false by simp [hst, hst2]]; simp)
          clear hst hst2
          have bd : Below W.heap.size W W.drew := ⟨rfl, rfl, rfl, Nat.le_refl _, fun _ _ => rfl⟩
          have r0 := fun d os => cell_regrown x0 d os
          by_cases hz : zeroT x = true
          · have HZ := Lib.hid hz
            simp only [zeroT, Bool.and_eq_true, beq_iff_eq] at hz
            obtain ⟨⟨⟨⟨⟨⟨⟨⟨g0, g1⟩, g2⟩, g3⟩, g4⟩, g5⟩, g6⟩, g7⟩, g8⟩ := hz
            rw [g0] at x0
            rw [g1] at x1
            rw [g2] at x2
            rw [g3] at x3
            rw [g4] at x4
            rw [g5] at x5
            rw [g6] at x6
            rw [g7] at x7
            rw [g8] at x8
            clear g0 g1 g2 g3 g4 g5 g6 g7 g8 r0 e1 e2
            go_wp2
            go_roundw
            case rel => exact ⟨k + 1, by omega, by go_num, by rw [all_succ, HA.out, TN.out, HZ.out]; rfl, b3⟩
            case measure => simp [intOf]; omega
          · have HZ := Lib.hid (show zeroT x = false by simpa using hz)
            clear hz
            go_upto_region 5 with (fail)
            all_goals first
              | (refine absurd HZ.out ?_; simp [zeroT, *]; done)
              | (refine region_by [false, false, false, false, false, false, false, false, false, false, false, false, false, false, false, true, false, false, false, false, false, true, false, false, false, false, false, true, false, false] (by kernel_rfl) (by kernel_rfl) (by kernel_rfl) ?_
                 repeat (first | (refine wpR_skip (by rfl) ?_; simp only [Act.put, List.setIfInBounds_toArray, List.set_cons_zero, List.set_cons_succ]) | (refine wpR_det (by rfl) (fun K hK => ?_); go_big_quiet_op; refine hK _ ?_; clear hK K))
                 refine wpR_nil ?_
                 go_wp2
                 go_ret
                 exact ⟨ret_bool (by rw [tasksI, all_of hlt (by rw [TN.out, HZ.out])]), b3.andThen bd⟩)
    · have hkl : k = M.tasks.length := by omega
      have HGA := Lib.hid (show tasksI M = true by rw [tasksI, ← hkl]; exact HA.out)
      clear hkl pw2
      go_wp2
      go_ret
      exact ⟨ret_bool HGA.out.symm, hb⟩
end
end Go.Proofs.YtomllcclallcdaaGreatDoor
namespace Go.Proofs.YtomllcclallcdaaGreatDoor
section
open Go.RowKit Go.Sort
theorem IntS.new (L : List Int) (cs : Array Value) (T : TypeId) (hcs : cs = (L.map (Value.int .i64)).toArray) (w : World) : IntS (w.alloc (.cells cs T)) (some ⟨w.heap.size, 0, none⟩) L := by
  subst hcs
  refine ⟨fun k hk => ⟨w.heap.size, 0, rfl, by simp, ?_⟩⟩
  have := (Blk.new w T (L.map (Value.int .i64)).toArray).cell k
  rw [Nat.zero_add, this]
  simp [hk]
def shelfI1 (x : ShelfM) : Bool := [x.floor, x.v, x.sum].all timeB && inR x.w 1 20
def shelfI2 (M : WorldM) (c g : Nat) : Bool := (g == 0) || !(grp M g).used || (((she M g c).on == onB M g c) && (!(she M g c).on || standW (she M g c).v (she M (par M g) c).floor (she M g c).w))
def rootI (x : ShelfM) : Bool := !x.on && (x.v == 0) && (x.w == 10)
def laneI (M : WorldM) (c : Nat) : Bool := rootI (she M 0 c) && (List.range 8).all (shelfI2 M c)
def shelvesI (M : WorldM) : Bool := (List.range M.groups.length).all (fun k => (List.range (grp M k).shelves.length).all fun c => shelfI1 (she M k c)) && (List.range M.cpus.length).all (laneI M)
set_option maxRecDepth 100000 in
set_option maxHeartbeats 4000000 in
theorem iShelvesOk_any (p : Nat) (ca : Option Addr) (cc : Nat) (ta : Option Addr) (tc : Nat) (ga : Option Addr) (gc : Nat) (gh : Nat → GH) (M : WorldM) (w : World) (hs : PA w p ca cc ta tc ga gc gh M) (hF : FitG M) (hT : Tree M) (hG : GOk M) (hc : M.cpus.length ≤ 4) :
    Calls Tryz.prog 78 #[.pointer (some ⟨p, 0, none⟩)] w fun e w' => e = .returned (.bool (shelvesI M)) ∧ Below w.heap.size w w' := by
  have hgl := hT.len
  have HGL := Lib.hid hgl
  have hgm := hF.group
  have HF := Lib.hid hF
  clear hF hgl
  have pw := hs
  obtain ⟨q0, q1, q2, q3, q4, q5⟩ := hs
  go_enter Tryz.func78, Tryz.ntmps78
  go_wp2
  clear q0 q1 q2 q3 q4 q5
  go_loopw [4, 6, 17] (fun _ _ i wr => ∃ k : Nat, k ≤ M.groups.length ∧ i = .int .i64 k ∧ (List.range k).all (fun k => (List.range (grp M k).shelves.length).all fun c => shelfI1 (she M k c)) = true ∧ Below w.heap.size w wr) (fun _ _ i _ => M.groups.length - (intOf i).toNat)
  case atStart => exact ⟨0, by omega, rfl, rfl, Below.refl _ _⟩
  case round =>
    obtain ⟨k, hk, rfl, hall, hb⟩ := hrel
    have HA := Lib.hid hall
    clear hall
    have pw2 := pw.keep hb
    by_cases hlt : k < M.groups.length
    · have q5 := pw2.wa
      obtain ⟨b, o, rfl, hB, c0, c1, c2, c3, c4, c5, c6, c7, c8, c9, c10, c11, c12, c13⟩ := q5.group_ hlt
      have hsm := HF.out.she k hlt
      go_upto_region 4 with (fail)
      refine gen1 (p := fun W => Code.wp _ _ _ _ W) ?_
      intro W b2 s2 kx
      have b3 := hb.andThen b2
      have x13 := kx.cell 13
      simp at x13
      clear s2 kx c0 c1 c2 c3 c4 c5 c6 c7 c8 c9 c10 c11 c12 c13 q5
      go_wp2
      obtain ⟨wo, hwo⟩ : ∃ wo : World, wo = W := ⟨_, rfl⟩
      subst hwo
      go_loopw [6, 24] (fun _ i wi => ∃ c : Nat, c ≤ (grp M k).shelves.length ∧ i = .int .i64 c ∧ (List.range c).all (fun c => shelfI1 (she M k c)) = true ∧ Below wo.heap.size wo wi) (fun _ i _ => (grp M k).shelves.length - (intOf i).toNat)
      case atStart => exact ⟨0, by omega, rfl, rfl, Below.refl _ _⟩
      case round =>
        obtain ⟨c, hcl, rfl, hall, hbi⟩ := hrel
        have HA2 := Lib.hid hall
        clear hall
        by_cases hlt2 : c < (grp M k).shelves.length
        · obtain ⟨b5, o5, e5, hB5, f0, f1, f2, f3, f4⟩ := (pw2.keep (b2.andThen hbi)).wa.shelf_ hlt hlt2
          obtain ⟨x, hX⟩ : ∃ x, she M k c = x := ⟨_, rfl⟩
          rw [hX] at f0 f1 f2 f3 f4
          have HX := Lib.hid hX
          rw [e5] at x13 ⊢
          clear hX e5
          go_upto_region 7 with (fail)
          refine gen1 (p := fun W => Code.wp _ _ _ _ W) ?_
          intro W3 b6 s6 kx
          have y0 := kx.cell 0
          have y2 := kx.cell 2
          have y3 := kx.cell 3
          have y4 := kx.cell 4
          simp at y0 y2 y3 y4
          have hyl := kx.lt
          clear kx f0 f1 f2 f3 f4 s6
          by_cases hok : shelfI1 x = true
          · have HOK := Lib.hid hok
            simp only [shelfI1, Bool.and_eq_true] at hok
            have F1 := Lib.hid hok.1
            have F2 := Lib.hid hok.2
            clear hok
            go_wp2_with (first | (go_at_call 109; refine (iTimeN [x.floor, x.v, x.sum] 3 _ _ (IntS.new _ _ _ rfl W3) rfl).mono ?_; rintro e w4 ⟨rfl, hb4⟩; rw [F1.out]; have z3 := ((((Below.refl W3.heap.size W3).alloc (Nat.le_refl _) _).andThen hb4).cell (p := ⟨wr.heap.size, 3, none⟩) hyl).trans y3) | (go_at_call 113; refine (iWeightOk_any _ _).mono ?_; rintro e w' ⟨rfl, rfl⟩; rw [F2.out]))
            go_roundw
            case rel => exact ⟨c + 1, by omega, by go_num, by rw [all_succ, HA2.out, HX.out, HOK.out]; rfl, (hbi.andThen b6).andThen (((Below.refl W3.heap.size W3).alloc (Nat.le_refl _) _).andThen hb4)⟩
            case measure => simp [intOf]; omega
          · have HOK := Lib.hid (show shelfI1 x = false by simpa using hok)
            clear hok
            by_cases f1 : [x.floor, x.v, x.sum].all timeB = true
            · have F1 := Lib.hid f1
              have F2 := Lib.hid (show inR x.w 1 20 = false by have h := HOK.out; rw [shelfI1, f1] at h; simpa using h)
              clear f1
              go_wp2_with (first | (go_at_call 109; refine (iTimeN [x.floor, x.v, x.sum] 3 _ _ (IntS.new _ _ _ rfl W3) rfl).mono ?_; rintro e w4 ⟨rfl, hb4⟩; rw [F1.out]; have z3 := ((((Below.refl W3.heap.size W3).alloc (Nat.le_refl _) _).andThen hb4).cell (p := ⟨wr.heap.size, 3, none⟩) hyl).trans y3) | (go_at_call 113; refine (iWeightOk_any _ _).mono ?_; rintro e w' ⟨rfl, rfl⟩; rw [F2.out]))
              go_ret
              exact ⟨ret_bool (by rw [shelvesI, all_of hlt (all_of hlt2 (by rw [HX.out, HOK.out]))]; rfl), b3.andThen ((hbi.andThen b6).andThen (((Below.refl W3.heap.size W3).alloc (Nat.le_refl _) _).andThen hb4))⟩
            · have F1 := Lib.hid (show [x.floor, x.v, x.sum].all timeB = false by simpa only [Bool.not_eq_true] using f1)
              clear f1
              go_wp2_with (first | (go_at_call 109; refine (iTimeN [x.floor, x.v, x.sum] 3 _ _ (IntS.new _ _ _ rfl W3) rfl).mono ?_; rintro e w4 ⟨rfl, hb4⟩; rw [F1.out]))
              go_ret
              exact ⟨ret_bool (by rw [shelvesI, all_of hlt (all_of hlt2 (by rw [HX.out, HOK.out]))]; rfl), b3.andThen ((hbi.andThen b6).andThen (((Below.refl W3.heap.size W3).alloc (Nat.le_refl _) _).andThen hb4))⟩
        · have hcl2 : c = (grp M k).shelves.length := by omega
          have HA3 := Lib.hid (show (List.range (grp M k).shelves.length).all (fun c => shelfI1 (she M k c)) = true by rw [← hcl2]; exact HA2.out)
          clear hcl2
          go_wp2
          go_roundw
          case rel => exact ⟨k + 1, by omega, by go_num, by rw [all_succ, HA.out, HA3.out]; rfl, b3.andThen hbi⟩
          case measure => simp [intOf]; omega
    · have hkl : k = M.groups.length := by omega
      have HSA := Lib.hid (show (List.range M.groups.length).all (fun k => (List.range (grp M k).shelves.length).all fun c => shelfI1 (she M k c)) = true by rw [← hkl]; exact HA.out)
      clear hkl
      obtain ⟨q0, q1, q2, q3, q4, q5⟩ := pw2
      go_wp2
      have pw2 : PA wr p ca cc ta tc ga gc gh M := ⟨q0, q1, q2, q3, q4, q5⟩
      clear q0 q1 q2 q3 q4 q5 HA
      obtain ⟨wo, hwo⟩ : ∃ wo : World, wo = wr := ⟨_, rfl⟩
      subst hwo
      go_loopw [7, 8, 9, 10, 11, 50] (fun _ _ _ _ _ i wr => ∃ c : Nat, c ≤ M.cpus.length ∧ i = .int .i64 c ∧ (List.range c).all (laneI M) = true ∧ Below wo.heap.size wo wr) (fun _ _ _ _ _ i _ => M.cpus.length - (intOf i).toNat)
      case atStart => exact ⟨0, by omega, rfl, rfl, Below.refl _ _⟩
      case round =>
        obtain ⟨c, hcl, rfl, hall, hb3⟩ := hrel
        have HA3 := Lib.hid hall
        clear hall
        have b4 := hb.andThen hb3
        have pw3 := pw2.keep hb3
        by_cases hlt3 : c < M.cpus.length
        · have hl0 : 0 < M.groups.length := by rw [HGL.out]; decide
          have hs0 : c < (grp M 0).shelves.length := by rw [hG.she 0 (by decide) hT.root]; exact hlt3
          obtain ⟨b5, o5, e5, hB5, f0, f1, f2, f3, f4⟩ := pw3.wa.shelf_ hl0 hs0
          have E5 := Lib.hid e5
          clear e5 f0 f4
          go_upto_region 15 with (go_at_call 121; refine (iLane_any _ _ _).mono ?_; rintro e w5 ⟨rfl, hb5⟩)
          refine gen1 (p := fun W => Code.wp _ _ _ _ W) ?_
          intro W b6 s6 kx
          have x0 := kx.cell 0
          have x1 := kx.cell 1
          simp at x0 x1
          have hxl := kx.lt
          have pw4 := pw3.keep (hb5.andThen b6)
          have b5' := hb5.andThen b6
          clear kx s6
          go_upto_region 16 with (go_at_call 122; refine (iShelf_any p ca cc ta tc _ gc gh M _ pw4 0 c b5 o5 E5.out hl0 hs0).mono ?_; rintro e w7 ⟨rfl, hb7⟩)
          have b7' := b5'.andThen hb7
          have g1 := (b7'.cell (p := ⟨b5, o5 + c * 5 + 1, none⟩) hB5).trans f1
          have g2 := (b7'.cell (p := ⟨b5, o5 + c * 5 + 2, none⟩) hB5).trans f2
          have g3 := (b7'.cell (p := ⟨b5, o5 + c * 5 + 3, none⟩) hB5).trans f3
          have y0 := (hb7.cell (p := ⟨w5.heap.size, 0, none⟩) hxl).trans x0
          have y1 := (hb7.cell (p := ⟨w5.heap.size, 1, none⟩) hxl).trans x1
          have hyl := Nat.lt_of_lt_of_le hxl hb7.size
          have pw5 := pw4.keep hb7
          have b7 := b4.andThen b7'
          clear f1 f2 f3 x0 x1 hxl pw4 pw3
          obtain ⟨s0, hS0⟩ : ∃ s0, she M 0 c = s0 := ⟨_, rfl⟩
          rw [hS0] at g1 g2 g3
          have HS0 := Lib.hid hS0
          clear hS0
          by_cases hrt : rootI s0 = true
          · have HRT := Lib.hid (show rootI (she M 0 c) = true by rw [HS0.out]; exact hrt)
            simp only [rootI, Bool.and_eq_true, Bool.not_eq_true', beq_iff_eq] at hrt
            rw [hrt.1.1] at g1
            rw [hrt.1.2] at g2
            rw [hrt.2] at g3
            clear hrt
            go_wp2
            clear g1 g2 g3
            obtain ⟨wq, hwq⟩ : ∃ wq : World, wq = w7 := ⟨_, rfl⟩
            subst hwq
            go_loopw [10, 11] (fun i _ wr => ∃ g : Nat, 1 ≤ g ∧ g ≤ 8 ∧ i = .int .i64 g ∧ (List.range g).all (shelfI2 M c) = true ∧ Below wq.heap.size wq wr) (fun i _ _ => 8 - (intOf i).toNat)
            case atStart => exact ⟨1, by omega, by omega, rfl, rfl, Below.refl _ _⟩
            case round =>
              obtain ⟨g, hg1, hg8, rfl, hall, hbg⟩ := hrel
              have HGA := Lib.hid hall
              clear hall
              have z0 := (hbg.cell (p := ⟨w5.heap.size, 0, none⟩) hyl).trans y0
              have z1 := (hbg.cell (p := ⟨w5.heap.size, 1, none⟩) hyl).trans y1
              have hzl := Nat.lt_of_lt_of_le hyl hbg.size
              have pw6 := pw5.keep hbg
              by_cases hlt4 : g < 8
              · have hlg : g < M.groups.length := by rw [HGL.out]; exact hlt4
                have pw7 := pw6
                obtain ⟨q0, q1, q2, q3, q4, q5⟩ := pw6
                obtain ⟨b2, o2, rfl, hB2, c0, c1, c2, c3, c4, c5, c6, c7, c8, c9, c10, c11, c12, c13⟩ := q5.group_ hlg
                by_cases hu : (grp M g).used = true
                · skip
                  have HU := Lib.hid hu
                  rw [hu] at c0
                  have hsg : c < (grp M g).shelves.length := by rw [hG.she g hlt4 hu]; exact hlt3
                  obtain ⟨b9, o9, e9, hB9, f0, f1, f2, f3, f4⟩ := q5.shelf_ hlg hsg
                  have E9 := Lib.hid e9
                  obtain ⟨hp1, hp2, hp3, _⟩ := hT.up g hlt4 hu (by omega)
                  have hlp : par M g < M.groups.length := by rw [HGL.out]; exact hp2
                  have hsp : c < (grp M (par M g)).shelves.length := by rw [hG.she _ hp2 hp3]; exact hlt3
                  obtain ⟨ba, oa, ea, hBa, d0, d1, d2, d3, d4⟩ := q5.shelf_ hlp hsp
                  have EA := Lib.hid ea
                  have hGs : ∀ k, k < M.groups.length → (grp M k).used = true → (grp M k).shelves.length = M.cpus.length := fun k hk hu => hG.she k (by have := HGL.out; omega) hu
                  have HGS := Lib.hid hGs
                  have HDR := Lib.hid (show 0 < (grp M g).band.quota → c < (grp M g).band.dry.length from fun h => by rw [(hG.dry g hlt4 hu h).1]; exact hlt3)
                  rw [hp1] at c1
                  clear e9 ea hGs hu f0 f4 d1 d2 d3 d4 c2 c3 c4 c5 c6 c7 c8 c9 c10 c11 c12 c13 hp1 hp3
                  go_upto_region 23 with (go_at_call 122; refine (iShelf_any p ca cc ta tc _ gc gh M _ pw7 g c b9 o9 E9.out hlg hsg).mono ?_; rintro e w8 ⟨rfl, hb8⟩)
                  have pw8 := pw7.keep hb8
                  have r0 := (hb8.cell (p := ⟨w5.heap.size, 0, none⟩) hzl).trans z0
                  have r1 := (hb8.cell (p := ⟨w5.heap.size, 1, none⟩) hzl).trans z1
                  have v1 := (hb8.cell (p := ⟨b9, o9 + c * 5 + 1, none⟩) hB9).trans f1
                  have v2 := (hb8.cell (p := ⟨b9, o9 + c * 5 + 2, none⟩) hB9).trans f2
                  have v3 := (hb8.cell (p := ⟨b9, o9 + c * 5 + 3, none⟩) hB9).trans f3
                  have vp := (hb8.cell (p := ⟨ba, oa + c * 5, none⟩) hBa).trans d0
                  have vc := (hb8.cell (p := ⟨b2, o2 + g * 14 + 1, none⟩) hB2).trans c1
                  have vg := (hb8.cell (p := ⟨p, 3, none⟩) q0).trans q4
                  clear z0 z1 f1 f2 f3 d0 c1 c0 q1 q2 q3 q4 q5 pw7
                  have bd : Below w8.heap.size w8 w8.drew := ⟨rfl, rfl, rfl, Nat.le_refl _, fun _ _ => rfl⟩
                  obtain ⟨x, hXg⟩ : ∃ x, she M g c = x := ⟨_, rfl⟩
                  rw [hXg] at v1 v2 v3
                  have XG := Lib.hid hXg
                  clear hXg
                  obtain ⟨y, hYg⟩ : ∃ y, she M (par M g) c = y := ⟨_, rfl⟩
                  rw [hYg] at vp
                  have YG := Lib.hid hYg
                  clear hYg
                  have hi0 : (0 : Int) ≤ (g : Int) := by omega
                  have hi1 : (g : Int) < (M.groups.length : Int) := by have := HGL.out; omega
                  have q_r0 := fun d os => cell_regrown r0 d os
                  have q_r1 := fun d os => cell_regrown r1 d os
                  have q_v1 := fun d os => cell_regrown v1 d os
                  have q_v2 := fun d os => cell_regrown v2 d os
                  have q_v3 := fun d os => cell_regrown v3 d os
                  have q_vp := fun d os => cell_regrown vp d os
                  have q_vc := fun d os => cell_regrown vc d os
                  have q_vg := fun d os => cell_regrown vg d os
                  have b8 := b7.andThen (hbg.andThen hb8)
                  have SH := Lib.hid (show shelfI2 M c g = ((x.on == onB M g c) && (!x.on || standW x.v y.floor x.w)) by rw [shelfI2, HU.out, XG.out, YG.out, show (g == 0) = false by simp; omega]; rfl)
                  cases hon : x.on with
                  | false =>
                    have ON := Lib.hid hon
                    rw [hon] at v1 q_v1
                    clear hon
                    refine region_or [false, false, false, false, false, false, true, false, false, false, true, false, false, false, false, false, false, false, false, false, false, false, false, false, false, false, false, false, false, false, false, false, false, false, false, false, false, false, true, false, false, false, true, false, false, false] [0, 1, 2, 3, 4, 5, 6, 7, 8, 9, 10, 11, 12, 13, 14, 15, 16, 17, 18, 19, 20, 21, 22, 23, 24, 25, 26, 27, 28, 29, 30, 31, 32, 33, 38, 39, 40, 41, 34, 35, 36, 37, 42, 43, 44, 45] (by kernel_rfl) (by kernel_rfl) rfl (by kernel_rfl) (by kernel_rfl) ?_
                    simp only [permL, List.getElem?_cons_zero, List.getElem?_cons_succ, Option.toList_some, List.cons_append, List.nil_append]
                    repeat (first | (refine wpR_skip (by rfl) ?_; simp only [Act.put, List.setIfInBounds_toArray, List.set_cons_zero, List.set_cons_succ]) | (refine wpR_det (by rfl) (fun K hK => ?_); go_big_quiet_op; refine hK _ ?_; clear hK K))
                    refine wpR_bar (by rfl) (fun K hK => ?_)
                    go_big_op
                    go_at_call 125
                    refine (iActive_any p ca cc ta tc _ gc gh M _ (pw8.keep bd) HF.out HGS.out g c hlt3).mono ?_
                    rintro e w9 ⟨rfl, hb9⟩
                    refine hK _ _ (regrown_of_below (bd.andThen hb9)) ?_
                    clear hK K
                    cases hac : (act M g c) with
                    | false =>
                      have AC := Lib.hid hac
                      clear hac
                      have OB := Lib.hid (show onB M g c = false by rw [onB, AC.out]; rfl)
                      have SHV := Lib.hid (show shelfI2 M c g = true by rw [SH.out, ON.out, OB.out]; rfl)
                      repeat (first | (refine wpR_skip (by rfl) ?_; simp only [Act.put, List.setIfInBounds_toArray, List.set_cons_zero, List.set_cons_succ]) | (refine wpR_det (by rfl) (fun K hK => ?_); go_big_quiet_op; refine hK _ ?_; clear hK K))
                      refine wpR_nil ?_
                      go_wp2
                      go_roundw
                      case rel => exact ⟨g + 1, by omega, by omega, by go_num, by rw [all_succ, HGA.out, SHV.out]; rfl, (hbg.andThen hb8).andThen (bd.andThen hb9)⟩
                      case measure => simp [intOf]; omega
                    | true =>
                      have AC := Lib.hid hac
                      clear hac
                      repeat (first | (refine wpR_skip (by rfl) ?_; simp only [Act.put, List.setIfInBounds_toArray, List.set_cons_zero, List.set_cons_succ]) | (refine wpR_det (by rfl) (fun K hK => ?_); go_big_quiet_op; refine hK _ ?_; clear hK K))
                      refine wpR_bar (by rfl) (fun K hK => ?_)
                      go_big_op
                      go_at_call 126
                      refine (iDry_any p ca cc ta tc _ gc gh M _ (pw8.keep (bd.andThen hb9)) g c hlg HDR.out).mono ?_
                      rintro e w10 ⟨rfl, hb10⟩
                      refine hK _ _ (regrown_of_below ((bd.andThen hb9).andThen hb10)) ?_
                      clear hK K
                      cases hdr : (dryM M g c) with
                      | false =>
                        have DR := Lib.hid hdr
                        clear hdr
                        have OB := Lib.hid (show onB M g c = true by rw [onB, AC.out, DR.out]; rfl)
                        have SHV := Lib.hid (show shelfI2 M c g = false by rw [SH.out, ON.out, OB.out]; rfl)
                        repeat (first | (refine wpR_skip (by rfl) ?_; simp only [Act.put, List.setIfInBounds_toArray, List.set_cons_zero, List.set_cons_succ]) | (refine wpR_det (by rfl) (fun K hK => ?_); go_big_quiet_op; refine hK _ ?_; clear hK K))
                        refine wpR_nil ?_
                        go_wp2
                        go_ret
                        exact ⟨ret_bool (by rw [shelvesI, HSA.out, all_of hlt3 (by rw [laneI, HRT.out, all_of hlt4 SHV.out]; rfl)]; rfl), b8.andThen ((bd.andThen hb9).andThen hb10)⟩
                      | true =>
                        have DR := Lib.hid hdr
                        clear hdr
                        have OB := Lib.hid (show onB M g c = false by rw [onB, AC.out, DR.out]; rfl)
                        have SHV := Lib.hid (show shelfI2 M c g = true by rw [SH.out, ON.out, OB.out]; rfl)
                        repeat (first | (refine wpR_skip (by rfl) ?_; simp only [Act.put, List.setIfInBounds_toArray, List.set_cons_zero, List.set_cons_succ]) | (refine wpR_det (by rfl) (fun K hK => ?_); go_big_quiet_op; refine hK _ ?_; clear hK K))
                        refine wpR_nil ?_
                        go_wp2
                        go_roundw
                        case rel => exact ⟨g + 1, by omega, by omega, by go_num, by rw [all_succ, HGA.out, SHV.out]; rfl, (hbg.andThen hb8).andThen ((bd.andThen hb9).andThen hb10)⟩
                        case measure => simp [intOf]; omega
                  | true =>
                    have ON := Lib.hid hon
                    rw [hon] at v1 q_v1
                    clear hon
                    refine region_or [false, false, false, false, false, false, true, false, false, false, true, false, false, false, false, false, false, false, false, false, false, false, false, false, false, false, false, false, false, false, false, false, false, false, false, false, false, false, true, false, false, false, true, false, false, false] [0, 1, 2, 3, 4, 5, 6, 7, 8, 9, 10, 11, 12, 13, 14, 15, 16, 17, 18, 19, 20, 21, 22, 23, 24, 25, 26, 27, 28, 29, 30, 31, 32, 33, 38, 39, 40, 41, 34, 35, 36, 37, 42, 43, 44, 45] (by kernel_rfl) (by kernel_rfl) rfl (by kernel_rfl) (by kernel_rfl) ?_
                    simp only [permL, List.getElem?_cons_zero, List.getElem?_cons_succ, Option.toList_some, List.cons_append, List.nil_append]
                    repeat (first | (refine wpR_skip (by rfl) ?_; simp only [Act.put, List.setIfInBounds_toArray, List.set_cons_zero, List.set_cons_succ]) | (refine wpR_det (by rfl) (fun K hK => ?_); go_big_quiet_op; refine hK _ ?_; clear hK K))
                    refine wpR_bar (by rfl) (fun K hK => ?_)
                    go_big_op
                    go_at_call 125
                    refine (iActive_any p ca cc ta tc _ gc gh M _ (pw8.keep bd) HF.out HGS.out g c hlt3).mono ?_
                    rintro e w9 ⟨rfl, hb9⟩
                    refine hK _ _ (regrown_of_below (bd.andThen hb9)) ?_
                    clear hK K
                    cases hac : (act M g c) with
                    | false =>
                      have AC := Lib.hid hac
                      clear hac
                      have OB := Lib.hid (show onB M g c = false by rw [onB, AC.out]; rfl)
                      have SHV := Lib.hid (show shelfI2 M c g = false by rw [SH.out, ON.out, OB.out]; rfl)
                      repeat (first | (refine wpR_skip (by rfl) ?_; simp only [Act.put, List.setIfInBounds_toArray, List.set_cons_zero, List.set_cons_succ]) | (refine wpR_det (by rfl) (fun K hK => ?_); go_big_quiet_op; refine hK _ ?_; clear hK K))
                      refine wpR_nil ?_
                      go_wp2
                      go_ret
                      exact ⟨ret_bool (by rw [shelvesI, HSA.out, all_of hlt3 (by rw [laneI, HRT.out, all_of hlt4 SHV.out]; rfl)]; rfl), b8.andThen (bd.andThen hb9)⟩
                    | true =>
                      have AC := Lib.hid hac
                      clear hac
                      repeat (first | (refine wpR_skip (by rfl) ?_; simp only [Act.put, List.setIfInBounds_toArray, List.set_cons_zero, List.set_cons_succ]) | (refine wpR_det (by rfl) (fun K hK => ?_); go_big_quiet_op; refine hK _ ?_; clear hK K))
                      refine wpR_bar (by rfl) (fun K hK => ?_)
                      go_big_op
                      go_at_call 126
                      refine (iDry_any p ca cc ta tc _ gc gh M _ (pw8.keep (bd.andThen hb9)) g c hlg HDR.out).mono ?_
                      rintro e w10 ⟨rfl, hb10⟩
                      refine hK _ _ (regrown_of_below ((bd.andThen hb9).andThen hb10)) ?_
                      clear hK K
                      cases hdr : (dryM M g c) with
                      | false =>
                        have DR := Lib.hid hdr
                        clear hdr
                        have OB := Lib.hid (show onB M g c = true by rw [onB, AC.out, DR.out]; rfl)
                        repeat (first | (refine wpR_skip (by rfl) ?_; simp only [Act.put, List.setIfInBounds_toArray, List.set_cons_zero, List.set_cons_succ]) | (refine wpR_det (by rfl) (fun K hK => ?_); go_big_quiet_op; refine hK _ ?_; clear hK K))
                        refine wpR_bar (by rfl) (fun K hK => ?_)
                        go_big_op
                        go_at_call 122
                        refine (iShelf_any p ca cc ta tc _ gc gh M _ (pw8.keep ((bd.andThen hb9).andThen hb10)) (par M g) c ba oa EA.out hlp hsp).mono ?_
                        rintro e w11 ⟨rfl, hb11⟩
                        refine hK _ _ (regrown_of_below (((bd.andThen hb9).andThen hb10).andThen hb11)) ?_
                        clear hK K
                        repeat (first | (refine wpR_skip (by rfl) ?_; simp only [Act.put, List.setIfInBounds_toArray, List.set_cons_zero, List.set_cons_succ]) | (refine wpR_det (by rfl) (fun K hK => ?_); go_big_quiet_op; refine hK _ ?_; clear hK K))
                        refine wpR_bar (by rfl) (fun K hK => ?_)
                        go_big_op
                        go_at_call 123
                        refine (iPlaced_any _ _ _ _).mono ?_
                        rintro e w12 ⟨rfl, hb12⟩
                        refine hK _ _ (regrown_of_below ((((bd.andThen hb9).andThen hb10).andThen hb11).andThen hb12)) ?_
                        clear hK K
                        cases hst : (standW x.v y.floor x.w) with
                        | false =>
                          have ST := Lib.hid hst
                          clear hst
                          have SHV := Lib.hid (show shelfI2 M c g = false by rw [SH.out, ON.out, OB.out, ST.out]; rfl)
                          repeat (first | (refine wpR_skip (by rfl) ?_; simp only [Act.put, List.setIfInBounds_toArray, List.set_cons_zero, List.set_cons_succ]) | (refine wpR_det (by rfl) (fun K hK => ?_); go_big_quiet_op; refine hK _ ?_; clear hK K))
                          refine wpR_nil ?_
                          go_wp2
                          go_ret
                          exact ⟨ret_bool (by rw [shelvesI, HSA.out, all_of hlt3 (by rw [laneI, HRT.out, all_of hlt4 SHV.out]; rfl)]; rfl), b8.andThen ((((bd.andThen hb9).andThen hb10).andThen hb11).andThen hb12)⟩
                        | true =>
                          have ST := Lib.hid hst
                          clear hst
                          have SHV := Lib.hid (show shelfI2 M c g = true by rw [SH.out, ON.out, OB.out, ST.out]; rfl)
                          repeat (first | (refine wpR_skip (by rfl) ?_; simp only [Act.put, List.setIfInBounds_toArray, List.set_cons_zero, List.set_cons_succ]) | (refine wpR_det (by rfl) (fun K hK => ?_); go_big_quiet_op; refine hK _ ?_; clear hK K))
                          refine wpR_nil ?_
                          go_wp2
                          go_roundw
                          case rel => exact ⟨g + 1, by omega, by omega, by go_num, by rw [all_succ, HGA.out, SHV.out]; rfl, (hbg.andThen hb8).andThen ((((bd.andThen hb9).andThen hb10).andThen hb11).andThen hb12)⟩
                          case measure => simp [intOf]; omega
                      | true =>
                        have DR := Lib.hid hdr
                        clear hdr
                        have OB := Lib.hid (show onB M g c = false by rw [onB, AC.out, DR.out]; rfl)
                        have SHV := Lib.hid (show shelfI2 M c g = false by rw [SH.out, ON.out, OB.out]; rfl)
                        repeat (first | (refine wpR_skip (by rfl) ?_; simp only [Act.put, List.setIfInBounds_toArray, List.set_cons_zero, List.set_cons_succ]) | (refine wpR_det (by rfl) (fun K hK => ?_); go_big_quiet_op; refine hK _ ?_; clear hK K))
                        refine wpR_nil ?_
                        go_wp2
                        go_ret
                        exact ⟨ret_bool (by rw [shelvesI, HSA.out, all_of hlt3 (by rw [laneI, HRT.out, all_of hlt4 SHV.out]; rfl)]; rfl), b8.andThen ((bd.andThen hb9).andThen hb10)⟩
                · have hu' : (grp M g).used = false := by simpa using hu
                  have HU := Lib.hid hu'
                  rw [hu'] at c0
                  clear hu hu' c1 c2 c3 c4 c5 c6 c7 c8 c9 c10 c11 c12 c13
                  go_wp2
                  go_roundw
                  case rel => exact ⟨g + 1, by omega, by omega, by go_num, by rw [all_succ, HGA.out, shelfI2, HU.out]; simp, hbg⟩
                  case measure => simp [intOf]; omega
              · have hg88 : g = 8 := by omega
                have HG8 := Lib.hid (show (List.range 8).all (shelfI2 M c) = true by rw [← hg88]; exact HGA.out)
                clear hg88
                go_wp2
                go_roundw
                case rel => exact ⟨c + 1, by omega, by go_num, by rw [all_succ, HA3.out, laneI, HRT.out, HG8.out]; rfl, hb3.andThen (b7'.andThen hbg)⟩
                case measure => simp [intOf]; omega
          · have HRT := Lib.hid (show rootI s0 = false by simpa using hrt)
            clear hrt
            cases hon : s0.on with
            | true =>
              rw [hon] at g1
              clear hon
              go_wp2
              go_ret
              exact ⟨ret_bool (by rw [shelvesI, HSA.out, all_of hlt3 (by rw [laneI, HS0.out, HRT.out]; rfl)]; rfl), b7⟩
            | false =>
              rw [hon] at g1
              have HON := Lib.hid hon
              clear hon
              by_cases hv : s0.v = 0
              · by_cases hw : s0.w = 10
                · exact absurd HRT.out (by rw [rootI, HON.out, hv, hw]; decide)
                · have hw2 : (s0.w != 10) = true := by simpa using hw
                  rw [hv] at g2
                  clear hv hw
                  go_wp2
                  go_ret
                  exact ⟨ret_bool (by rw [shelvesI, HSA.out, all_of hlt3 (by rw [laneI, HS0.out, HRT.out]; rfl)]; rfl), b7⟩
              · have hv2 : (s0.v != 0) = true := by simpa using hv
                clear hv
                go_wp2
                go_ret
                exact ⟨ret_bool (by rw [shelvesI, HSA.out, all_of hlt3 (by rw [laneI, HS0.out, HRT.out]; rfl)]; rfl), b7⟩
        · have hkl : c = M.cpus.length := by omega
          have HLA := Lib.hid (show (List.range M.cpus.length).all (laneI M) = true by rw [← hkl]; exact HA3.out)
          clear hkl
          go_wp2
          go_ret
          exact ⟨ret_bool (by rw [shelvesI, HSA.out, HLA.out]; rfl), hb.andThen hb3⟩
end
end Go.Proofs.YtomllcclallcdaaGreatDoor
