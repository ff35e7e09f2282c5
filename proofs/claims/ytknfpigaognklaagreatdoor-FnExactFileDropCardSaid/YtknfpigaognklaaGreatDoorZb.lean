/- A board of a world, plain. No program in sight. A board of a world: the reference. A board of a world: a group's path and the word about a task, as the program writes them. What is written to a builder leaves all blocks of other kinds as they are. A board of a world: the program, whole. -/
import Derived.Test.YtknfpigaognklaaGreatDoorZs
import Derived.Test.YtknfpigaognklaaGreatDoorZj
namespace Go.Proofs.YtknfpigaognklaaGreatDoor
/-- names along a way up, the root's first -/
def pathR (M : WorldM) : List Nat → List UInt8
  | [] => []
  | g :: r => if g = 0 then [] else pathR M r ++ 47 :: (grp M g).name.data.toList
def pathB (M : WorldM) (g : Nat) : List UInt8 := if g = 0 then [47] else pathR M (ch M g)
theorem pathR_zero (M : WorldM) : pathR M (ch M 0) = [] := by rw [ch_zero]; rfl
theorem pathR_step {M : WorldM} (h : Tree M) {g : Nat} (hg : g < 8) (hu : (grp M g).used = true) (h0 : g ≠ 0) : pathR M (ch M g) = pathR M (ch M (par M g)) ++ 47 :: (grp M g).name.data.toList := by
  rw [h.ch_step hg hu h0, pathR, if_neg h0]
theorem pathR_len {M : WorldM} (h : Tree M) (NO : NumOk M) : ∀ (n g : Nat), dp M g = n → g < 8 → (grp M g).used = true → (pathR M (ch M g)).length ≤ 9 * n
  | n, g, hn, hg, hu => by
    by_cases h0 : g = 0
    · subst h0; rw [pathR_zero]; simp
    · obtain ⟨h1, h2, h3, h4⟩ := h.up g hg hu h0
      have ih := pathR_len h NO (n - 1) (par M g) (by omega) h2 h3
      have hs := NO.nameF g hg h0 hu
      have hs2 : (grp M g).name.data.toList.length ≤ 8 := by rw [Array.length_toList]; exact hs
      rw [pathR_step h hg hu h0, List.length_append, List.length_cons]
      omega
  termination_by n => n
  decreasing_by omega
theorem pathR_len40 {M : WorldM} (h : Tree M) (NO : NumOk M) {g : Nat} (hg : g < 8) (hu : (grp M g).used = true) : (pathR M (ch M g)).length ≤ 40 := by
  have := pathR_len h NO (dp M g) g rfl hg hu
  have := h.dp3 g hg hu
  omega
theorem pathB_len {M : WorldM} (h : Tree M) (NO : NumOk M) {g : Nat} (hg : g < 8) (hu : (grp M g).used = true) : (pathB M g).length ≤ 40 := by
  unfold pathB
  split
  · simp
  · exact pathR_len40 h NO hg hu
def wordB (M : WorldM) (t : Nat) : List UInt8 :=
  if (cpo M (tsk M t).cpu.toNat).cur = t then [32, 114, 117, 110, 115] else if (tsk M t).st = 2 then [32, 119, 97, 105, 116, 115] else if lineM M t = true then [32, 114, 101, 97, 100, 121] else [32, 100, 114, 121]
theorem wordB_len (M : WorldM) (t : Nat) : (wordB M t).length ≤ 6 := by
  unfold wordB
  split
  · simp
  · split
    · simp
    · split <;> simp
/-- the part of a task's line ahead of the word -/
def taskH (M : WorldM) (t : Nat) : List UInt8 := [116, 97, 115, 107, 32] ++ Lib.itoa t ++ [32, 105, 110, 32] ++ pathB M (tsk M t).gr.toNat ++ [32, 111, 110, 32] ++ Lib.itoa (tsk M t).cpu ++ [32, 110, 105, 99, 101, 32] ++ Lib.itoa (tsk M t).nice ++ [32, 115, 117, 109, 32] ++ Lib.itoa (tsk M t).sum
def taskB' (M : WorldM) (t : Nat) : List UInt8 := taskH M t ++ wordB M t ++ [10]
def cpuB1 (c : Nat) : List UInt8 := [99, 112, 117, 32] ++ Lib.itoa c
def cpuB2 (M : WorldM) (c : Nat) : List UInt8 := if (cpo M c).up = true then [] else [32, 111, 102, 102]
def cpuB3 (M : WorldM) (c : Nat) : List UInt8 := [32, 98, 117, 115, 121, 32] ++ Lib.itoa (cpo M c).busy ++ [32, 105, 100, 108, 101, 32] ++ Lib.itoa (cpo M c).idle ++ [10]
def cpuBd (M : WorldM) (c : Nat) : List UInt8 := cpuB1 c ++ cpuB2 M c ++ cpuB3 M c
def bodyB (M : WorldM) : List UInt8 := [110, 111, 119, 32] ++ Lib.itoa M.now ++ [10] ++ catB (cpuBd M) M.cpus.length ++ catB (fun t => if (tsk M t).st = 0 then [] else taskB' M t) M.tasks.length
def boardM (M : WorldM) : List UInt8 := if worldB M = true then bodyB M else []
theorem fit_mem {ns : List Int} (h : fits ns) {n : Int} (hn : n ∈ ns) : -9223372036854775808 ≤ n ∧ n ≤ 9223372036854775807 := h n hn
theorem taskH_len {M : WorldM} (FA : Facts M) (NO : NumOk M) {t : Nat} (ht : t < M.tasks.length) (hst : (tsk M t).st ≠ 0) : (taskH M t).length ≤ 200 := by
  have F := NO.tskF t ht hst
  have h1 := itoa_len (fit_mem F (n := (t : Int)) (by simp))
  have h2 := itoa_len (fit_mem F (n := (tsk M t).cpu) (by simp))
  have h3 := itoa_len (fit_mem F (n := (tsk M t).nice) (by simp))
  have h4 := itoa_len (fit_mem F (n := (tsk M t).sum) (by simp))
  obtain ⟨g, c, hg, hg8, hgu, _⟩ := FA.tk t (by have := FA.t12; omega) hst
  have h5 := pathB_len FA.tree NO hg8 hgu
  unfold taskH
  rw [hg, Int.toNat_natCast]
  simp only [List.length_append, List.length_cons, List.length_nil]
  omega
theorem taskB'_len {M : WorldM} (FA : Facts M) (NO : NumOk M) {t : Nat} (ht : t < M.tasks.length) (hst : (tsk M t).st ≠ 0) : (taskB' M t).length ≤ 300 := by
  have h1 := taskH_len FA NO ht hst
  have h2 := wordB_len M t
  simp only [taskB', List.length_append, List.length_cons, List.length_nil]
  omega
theorem cpuBd_len {M : WorldM} (FA : Facts M) (NO : NumOk M) {c : Nat} (hc : c < M.cpus.length) : (cpuBd M c).length ≤ 200 := by
  have F := NO.cpuF c hc
  have h1 := itoa_len (n := (c : Int)) (by have := FA.c4; omega)
  have h2 := itoa_len (fit_mem F (n := (cpo M c).busy) (by simp))
  have h3 := itoa_len (fit_mem F (n := (cpo M c).idle) (by simp))
  have h4 : (cpuB2 M c).length ≤ 4 := by unfold cpuB2; split <;> simp
  simp only [cpuBd, cpuB1, cpuB3, List.length_append, List.length_cons, List.length_nil]
  omega
def bdC (M : WorldM) (c : Nat) : List UInt8 := [110, 111, 119, 32] ++ Lib.itoa M.now ++ [10] ++ catB (cpuBd M) c
def bdT (M : WorldM) (t : Nat) : List UInt8 := bdC M M.cpus.length ++ catB (fun t => if (tsk M t).st = 0 then [] else taskB' M t) t
theorem bdC_succ (M : WorldM) (c : Nat) : bdC M (c + 1) = bdC M c ++ cpuBd M c := by simp [bdC, catB]
theorem bdT_t {M : WorldM} {t : Nat} (h : (tsk M t).st ≠ 0) : bdT M (t + 1) = bdT M t ++ taskB' M t := by simp [bdT, catB, h]
theorem bdT_f {M : WorldM} {t : Nat} (h : (tsk M t).st = 0) : bdT M (t + 1) = bdT M t := by simp [bdT, catB, h]
theorem bd_body (M : WorldM) : bdT M M.tasks.length = bodyB M := rfl
theorem bdC_len {M : WorldM} (FA : Facts M) (NO : NumOk M) {c : Nat} (hc : c ≤ M.cpus.length) : (bdC M c).length ≤ 1000 := by
  have h1 := itoa_len (fit_mem NO.nowF (n := M.now) (by simp))
  have h2 := catB_len (f := cpuBd M) (B := 200) c (fun j hj => cpuBd_len FA NO (by omega))
  have := FA.c4
  simp only [bdC, List.length_append, List.length_cons, List.length_nil] at *
  omega
theorem bdT_len {M : WorldM} (FA : Facts M) (NO : NumOk M) {t : Nat} (ht : t ≤ M.tasks.length) : (bdT M t).length ≤ 5000 := by
  have h1 := bdC_len FA NO (Nat.le_refl _)
  have h2 := catB_len (f := fun t => if (tsk M t).st = 0 then [] else taskB' M t) (B := 300) t (fun j hj => by
    show (if _ then _ else _ : List UInt8).length ≤ _
    split
    · simp
    · exact taskB'_len FA NO (by omega) (by assumption))
  have := FA.t12
  simp only [bdT, List.length_append] at *
  omega
end Go.Proofs.YtknfpigaognklaaGreatDoor
namespace Go.Proofs.YtknfpigaognklaaGreatDoor
open Go.RowKit Go.Sort
attribute [local go_sem] strB_size
set_option maxRecDepth 100000 in
set_option maxHeartbeats 2000000 in
theorem sPath_any (ca ta ga : Option Addr) (gc : Nat) (gh : Nat → GH) (M : WorldM) (hT : Tree M) (NO : NumOk M) : ∀ (n g : Nat) (_ : dp M g = n) (_ : g < 8) (_ : (grp M g).used = true) (w : World) (_ : WA w ca ta ga gh M),
    Calls Tryz.prog 158 #[.slice ga M.groups.length gc, .int .i64 g] w fun e w' => e = .returned (.string (strB (pathR M (ch M g)))) ∧ Below w.heap.size w w' := by
  intro n
  induction n using Nat.strongRecOn with
  | _ n ih =>
    intro g hn hg hu w hs
    by_cases h0 : g = 0
    · subst h0
      rw [pathR_zero]
      go_enter Tryz.func158, Tryz.ntmps158
      go_wp2
      go_ret
      exact ⟨ret_str rfl, Below.refl _ _⟩
    · obtain ⟨p1, p2, p3, p4⟩ := hT.up g hg hu h0
      have IH := Lib.hid (ih (dp M (par M g)) (by omega) (par M g) rfl p2 p3)
      have hlg : g < M.groups.length := by have := hT.len; omega
      have HL := Lib.hid (pathR_len40 hT NO p2 p3)
      have hL1 : ((pathR M (ch M (par M g))).length : Int) ≤ 40 := by have := HL.out; omega
      have hns : (grp M g).name.size ≤ 8 := NO.nameF g hg h0 hu
      have PS := Lib.hid (pathR_step hT hg hu h0)
      have hne : ((g : Int) == 0) = false := by simpa using h0
      have HS := Lib.hid hs
      obtain ⟨b, o, rfl, hB, c0, c1, c2, _⟩ := hs.group_ hlg
      rw [p1] at c1
      have hi0 : (0 : Int) ≤ (g : Int) := by omega
      have hi1 : (g : Int) < (M.groups.length : Int) := by omega
      have q1 := fun d os => cell_regrown c1 d os
      have q2 := fun d os => cell_regrown c2 d os
      clear ih c0 c1 c2 hn p1 p4 h0 hu hB hs
      generalize pathR M (ch M (par M g)) = X at *
      go_enter Tryz.func158, Tryz.ntmps158
      go_upto_region 3 with (fail)
      refine wp_region_quiet_below (by kernel_rfl) (by kernel_rfl) ?_
      repeat (go_big_quiet_step ((go_at_call 158; exact Calls.regrown_of (IH.out _ (HS.out.keep (below_regrown _ _ _))))))
      refine wpQuiet_nil ?_
      intro _ hw'
      obtain ⟨⟨dq, osq⟩, hw''⟩ := hw'
      subst hw''
      go_wp2
      go_ret
      exact ⟨ret_str (by rw [PS.out, show (⟨#[47]⟩ : ByteArray) = strB [47] from rfl, ← strB_data (grp M g).name, strB_append, strB_append]; simp [strB_data]), below_regrown _ _ _⟩
set_option maxRecDepth 100000 in
set_option maxHeartbeats 2000000 in
theorem sTreePath_any (ca ta ga : Option Addr) (gc : Nat) (gh : Nat → GH) (M : WorldM) (w : World) (hs : WA w ca ta ga gh M) (hT : Tree M) (hB : treeB M = true) (NO : NumOk M) (hgm : M.groups.length ≤ 1048576) (hnm : ∀ k, k < M.groups.length → (grp M k).name.size ≤ 1048576) (g : Nat) (hg : g < 8) (hu : (grp M g).used = true) :
    Calls Tryz.prog 83 #[.slice ga M.groups.length gc, .int .i64 g] w fun e w' => e = .returned (.string (strB (pathB M g))) ∧ Below w.heap.size w w' := by
  have HB := Lib.hid hB
  have HNM := Lib.hid hnm
  have HU := Lib.hid (show usedI M g = true by have := hT.len; simp only [usedI, Int.toNat_natCast, hu, Bool.and_true, Bool.and_eq_true, decide_eq_true_eq]; omega)
  clear hnm hB
  by_cases h0 : g = 0
  · subst h0
    have HU0 := Lib.hid (show usedI M 0 = true from HU.out)
    go_enter Tryz.func83, Tryz.ntmps83
    go_wp2_with (first | (go_at_call 65; refine (sTreeOk_any ca ta ga gc gh M _ hs hgm HNM.out).mono ?_; rintro e w2 ⟨rfl, hb2⟩; rw [HB.out]) | (go_at_call 108; refine (sl6Used_any ca ta ga gc gh M _ (hs.keep hb2) _).mono ?_; rintro e w' ⟨rfl, rfl⟩; rw [HU0.out]))
    go_ret
    exact ⟨ret_str rfl, hb2⟩
  · have hne : ((g : Int) == 0) = false := by simpa using h0
    have PB := Lib.hid (show pathB M g = pathR M (ch M g) by rw [pathB, if_neg h0])
    go_enter Tryz.func83, Tryz.ntmps83
    go_wp2_with (first | (go_at_call 65; refine (sTreeOk_any ca ta ga gc gh M _ hs hgm HNM.out).mono ?_; rintro e w2 ⟨rfl, hb2⟩; rw [HB.out]) | (go_at_call 108; refine (sl6Used_any ca ta ga gc gh M _ (hs.keep hb2) _).mono ?_; rintro e w' ⟨rfl, rfl⟩; rw [HU.out]) | (go_at_call 158; refine (sPath_any ca ta ga gc gh M hT NO _ g rfl hg hu _ (hs.keep hb2)).mono ?_; rintro e w3 ⟨rfl, hb3⟩))
    go_ret
    exact ⟨ret_str (by rw [PB.out]), hb2.andThen hb3⟩
theorem treeB_of {M : WorldM} (h : worldB M = true) : treeB M = true := by
  simp only [worldB, worldH, Bool.and_eq_true] at h
  exact h.1.1.2
theorem task_str (a b c d e : List UInt8) :
    (⟨#[116, 97, 115, 107, 32]⟩ : ByteArray) ++ strB a ++ ⟨#[32, 105, 110, 32]⟩ ++ strB b ++ ⟨#[32, 111, 110, 32]⟩ ++ strB c ++ ⟨#[32, 110, 105, 99, 101, 32]⟩ ++ strB d ++ ⟨#[32, 115, 117, 109, 32]⟩ ++ strB e = strB ([116, 97, 115, 107, 32] ++ a ++ [32, 105, 110, 32] ++ b ++ [32, 111, 110, 32] ++ c ++ [32, 110, 105, 99, 101, 32] ++ d ++ [32, 115, 117, 109, 32] ++ e) := by
  show strB [116, 97, 115, 107, 32] ++ strB a ++ strB [32, 105, 110, 32] ++ strB b ++ strB [32, 111, 110, 32] ++ strB c ++ strB [32, 110, 105, 99, 101, 32] ++ strB d ++ strB [32, 115, 117, 109, 32] ++ strB e = _
  simp only [strB_append]
set_option maxRecDepth 100000 in
set_option maxHeartbeats 8000000 in
theorem sTask_line (ca : Option Addr) (cc : Nat) (ta : Option Addr) (tc : Nat) (ga : Option Addr) (gc : Nat) (gh : Nat → GH) (M : WorldM) (w : World) (hs : WA w ca ta ga gh M) (hF : FitG M) (FA : Facts M) (hB : treeB M = true) (NO : NumOk M) (t : Nat) (ht : t < M.tasks.length) (hst : (tsk M t).st ≠ 0) :
    Calls Tryz.prog 40 #[.agg #[.int .i64 M.now, .slice ca M.cpus.length cc, .slice ta M.tasks.length tc, .slice ga M.groups.length gc], .int .i64 t] w fun e w' => e = .returned (.string (strB (taskB' M t))) ∧ Below w.heap.size w w' := by
  have HFA := Lib.hid FA
  have HNO := Lib.hid NO
  have HB := Lib.hid hB
  have HF := Lib.hid hF
  have ht12 : t < 13 := by have := FA.t12; omega
  obtain ⟨g, c, hgr, hg8, hgu, hcu, hcl⟩ := FA.tk t (by have := FA.t12; omega) hst
  have HGU := Lib.hid hgu
  have HGR := Lib.hid hgr
  have HCU := Lib.hid hcu
  have F := NO.tskF t ht hst
  have HFt := Lib.hid (fit_mem F (n := (t : Int)) (by simp))
  have HFc := Lib.hid (fit_mem F (n := (tsk M t).cpu) (by simp))
  have HFn := Lib.hid (fit_mem F (n := (tsk M t).nice) (by simp))
  have HFs := Lib.hid (fit_mem F (n := (tsk M t).sum) (by simp))
  have HP := Lib.hid (pathB_len FA.tree NO hg8 hgu)
  have l1 : ((Lib.itoa (t : Int)).length : Int) ≤ 21 := by have := itoa_len HFt.out; omega
  have l2 : ((Lib.itoa (tsk M t).cpu).length : Int) ≤ 21 := by have := itoa_len HFc.out; omega
  have l3 : ((Lib.itoa (tsk M t).nice).length : Int) ≤ 21 := by have := itoa_len HFn.out; omega
  have l4 : ((Lib.itoa (tsk M t).sum).length : Int) ≤ 21 := by have := itoa_len HFs.out; omega
  have l5 : ((pathB M g).length : Int) ≤ 40 := by have := HP.out; omega
  have HTH := Lib.hid (show taskH M t = [116, 97, 115, 107, 32] ++ Lib.itoa t ++ [32, 105, 110, 32] ++ pathB M g ++ [32, 111, 110, 32] ++ Lib.itoa (tsk M t).cpu ++ [32, 110, 105, 99, 101, 32] ++ Lib.itoa (tsk M t).nice ++ [32, 115, 117, 109, 32] ++ Lib.itoa (tsk M t).sum by rw [taskH, hgr, Int.toNat_natCast])
  have HTL := Lib.hid (taskH_len FA NO ht hst)
  clear FA NO F hgr hgu hcu hB hF
  go_enter Tryz.func40, Tryz.ntmps40
  go_upto_region 1 with (fail)
  refine PA.gen (P := fun W => Code.wp _ _ _ _ W) hs ?_
  intro W b1 s1 pw
  have PW0 := Lib.hid pw
  obtain ⟨q0, q1, q2, q3, q4, q5⟩ := pw
  clear s1
  obtain ⟨b, o, rfl, hB, c0, c1, c2, c3, c4, c5, c6, c7, c8⟩ := q5.task_ ht
  have hi0 : (0 : Int) ≤ (t : Int) := by omega
  have hi1 : (t : Int) < (M.tasks.length : Int) := by omega
  go_upto_region 2 with (fail)
  refine gen1 (p := fun W => Code.wp _ _ _ _ W) ?_
  intro W2 b2 s2 kx
  have x0 := kx.cell 0
  have x1 := kx.cell 1
  have x2 := kx.cell 2
  have x3 := kx.cell 3
  have x6 := kx.cell 6
  simp at x0 x1 x2 x3 x6
  have hx := kx.lt
  rw [HGR.out] at x1
  rw [HCU.out] at x2
  obtain ⟨xn, hxn⟩ : ∃ v, (tsk M t).nice = v := ⟨_, rfl⟩
  obtain ⟨xs, hxs⟩ : ∃ v, (tsk M t).sum = v := ⟨_, rfl⟩
  rw [HCU.out] at HFc l2 HTH
  rw [hxn] at x3 HFn l3 HTH
  rw [hxs] at x6 HFs l4 HTH
  clear hxn hxs
  have PW2 := Lib.hid (PW0.out.keep b2)
  have bel := Lib.hid (b1.andThen b2)
  have pw2 := PW2.out
  clear q0 q1 q2 q3 q4 q5 c0 c1 c2 c3 c4 c5 c6 c7 c8 kx s2 b1 b2 hs hB PW0
  obtain ⟨q0, q1, q2, q3, q4, q5⟩ := pw2
  have Q4 := fun d os => cell_regrown q4 d os
  have X1 := fun d os => cell_regrown x1 d os
  have X2 := fun d os => cell_regrown x2 d os
  have X3 := fun d os => cell_regrown x3 d os
  have X6 := fun d os => cell_regrown x6 d os
  refine wp_region_quiet_below (by kernel_rfl) (by kernel_rfl) ?_
  repeat (go_big_quiet_step (first | (go_at_call 39; exact Calls.regrown_of (sDec_any _ (by first | exact HFt.out.1 | exact HFc.out.1 | exact HFn.out.1 | exact HFs.out.1) (by first | exact HFt.out.2 | exact HFc.out.2 | exact HFn.out.2 | exact HFs.out.2) _)) | (go_at_call 83; exact Calls.regrown_of (sTreePath_any ca _ _ gc gh M _ (PW2.out.keep (below_regrown _ _ _)).wa HFA.out.tree HB.out HNO.out HF.out.group HF.out.name g hg8 HGU.out))))
  refine wpQuiet_nil ?_
  intro _ hw'
  obtain ⟨⟨dq, osq⟩, hw''⟩ := hw'
  subst hw''
  have hb5 := below_regrown W2 dq osq
  generalize grow (redrawn W2 dq) osq = w5 at *
  rw [task_str, ← HTH.out]
  have x0 := (hb5.cell (p := ⟨W.heap.size, 0, none⟩) hx).trans x0
  have x2 := (hb5.cell (p := ⟨W.heap.size, 2, none⟩) hx).trans x2
  have PW5 := Lib.hid (PW2.out.keep hb5)
  have bel5 := Lib.hid (bel.out.andThen hb5)
  have pw5 := PW5.out
  clear q0 q1 q2 q3 q4 q5 x1 x3 x6 Q4 X1 X2 X3 X6 hb5 l1 l2 l3 l4 l5
  obtain ⟨q0, q1, q2, q3, q4, q5⟩ := pw5
  obtain ⟨bc, oc, rfl, hBc, e0, e1, _⟩ := q5.cpu_ hcl
  have hc0 : (0 : Int) ≤ (c : Int) := by omega
  have hc1 : (c : Int) < (M.cpus.length : Int) := by omega
  have hH : ((taskH M t).length : Int) ≤ 200 := by have := HTL.out; omega
  have HCN := Lib.hid (show (tsk M t).cpu.toNat = c by rw [HCU.out, Int.toNat_natCast])
  clear HTH
  by_cases k1 : (cpo M c).cur = (t : Int)
  · have K1 := Lib.hid k1
    have hk : ((cpo M c).cur == (t : Int)) = true := by simp [k1]
    have TB := Lib.hid (show taskB' M t = taskH M t ++ [32, 114, 117, 110, 115] ++ [10] by rw [taskB', wordB, HCN.out, if_pos k1])
    clear k1
    generalize taskH M t = X at *
    go_wp2
    go_ret
    exact ⟨ret_str (by rw [TB.out, show (⟨#[32, 114, 117, 110, 115]⟩ : ByteArray) = strB [32, 114, 117, 110, 115] from rfl, show (⟨#[10]⟩ : ByteArray) = strB [10] from rfl, strB_append, strB_append]), bel5.out⟩
  · have K1 := Lib.hid k1
    have hk : ((cpo M c).cur == (t : Int)) = false := by simp [k1]
    by_cases k2 : (tsk M t).st = 2
    · have hk2 : ((tsk M t).st == 2) = true := by simp [k2]
      have TB := Lib.hid (show taskB' M t = taskH M t ++ [32, 119, 97, 105, 116, 115] ++ [10] by rw [taskB', wordB, HCN.out, if_neg k1, if_pos k2])
      clear k1 k2
      generalize taskH M t = X at *
      go_wp2
      go_ret
      exact ⟨ret_str (by rw [TB.out, show (⟨#[32, 119, 97, 105, 116, 115]⟩ : ByteArray) = strB [32, 119, 97, 105, 116, 115] from rfl, show (⟨#[10]⟩ : ByteArray) = strB [10] from rfl, strB_append, strB_append]), bel5.out⟩
    · have hk2 : ((tsk M t).st == 2) = false := by simp [k2]
      have LC := Lib.hid <| sl8InLine_any _ cc _ tc _ gc gh M _ q5 HFA.out.tree HFA.out.gok t g c ht (fun _ => ⟨HGR.out, hg8, HGU.out, HCU.out, hcl⟩)
      cases k3 : lineM M t with
      | true =>
        have K3 := Lib.hid k3
        have TB := Lib.hid (show taskB' M t = taskH M t ++ [32, 114, 101, 97, 100, 121] ++ [10] by rw [taskB', wordB, HCN.out, if_neg k1, if_neg k2, if_pos k3])
        clear k1 k2 k3
        generalize taskH M t = X at *
        go_wp2_with (go_at_call 84; refine (LC.out).mono ?_; rintro e w6 ⟨rfl, hb6⟩; rw [K3.out])
        go_ret
        exact ⟨ret_str (by rw [TB.out, show (⟨#[32, 114, 101, 97, 100, 121]⟩ : ByteArray) = strB [32, 114, 101, 97, 100, 121] from rfl, show (⟨#[10]⟩ : ByteArray) = strB [10] from rfl, strB_append, strB_append]), bel5.out.andThen hb6⟩
      | false =>
        have K3 := Lib.hid k3
        have TB := Lib.hid (show taskB' M t = taskH M t ++ [32, 100, 114, 121] ++ [10] by rw [taskB', wordB, HCN.out, if_neg k1, if_neg k2, if_neg (by rw [k3]; simp)])
        clear k1 k2 k3
        generalize taskH M t = X at *
        go_wp2_with (go_at_call 84; refine (LC.out).mono ?_; rintro e w6 ⟨rfl, hb6⟩; rw [K3.out])
        go_ret
        exact ⟨ret_str (by rw [TB.out, show (⟨#[32, 100, 114, 121]⟩ : ByteArray) = strB [32, 100, 114, 121] from rfl, show (⟨#[10]⟩ : ByteArray) = strB [10] from rfl, strB_append, strB_append]), bel5.out.andThen hb6⟩
theorem now_str (M : WorldM) : (⟨#[110, 111, 119, 32]⟩ : ByteArray) ++ strB (Lib.itoa M.now) ++ ⟨#[10]⟩ = strB (bdC M 0) := by
  show strB [110, 111, 119, 32] ++ strB (Lib.itoa M.now) ++ strB [10] = _
  simp only [strB_append]
  simp [bdC, catB]
theorem cpu_str_up {M : WorldM} {c : Nat} (h : (cpo M c).up = true) : strB (bdC M c) ++ (⟨#[99, 112, 117, 32]⟩ : ByteArray) ++ strB (Lib.itoa (c : Int)) ++ ⟨#[32, 98, 117, 115, 121, 32]⟩ ++ strB (Lib.itoa (cpo M c).busy) ++ ⟨#[32, 105, 100, 108, 101, 32]⟩ ++ strB (Lib.itoa (cpo M c).idle) ++ ⟨#[10]⟩ = strB (bdC M (c + 1)) := by
  show strB _ ++ strB [99, 112, 117, 32] ++ strB (Lib.itoa (c : Int)) ++ strB [32, 98, 117, 115, 121, 32] ++ strB (Lib.itoa (cpo M c).busy) ++ strB [32, 105, 100, 108, 101, 32] ++ strB (Lib.itoa (cpo M c).idle) ++ strB [10] = _
  simp only [strB_append]
  rw [bdC_succ, cpuBd, cpuB1, cpuB2, cpuB3, if_pos h]
  simp
theorem cpu_str_off {M : WorldM} {c : Nat} (h : (cpo M c).up = false) : strB (bdC M c) ++ (⟨#[99, 112, 117, 32]⟩ : ByteArray) ++ strB (Lib.itoa (c : Int)) ++ ⟨#[32, 111, 102, 102]⟩ ++ ⟨#[32, 98, 117, 115, 121, 32]⟩ ++ strB (Lib.itoa (cpo M c).busy) ++ ⟨#[32, 105, 100, 108, 101, 32]⟩ ++ strB (Lib.itoa (cpo M c).idle) ++ ⟨#[10]⟩ = strB (bdC M (c + 1)) := by
  show strB _ ++ strB [99, 112, 117, 32] ++ strB (Lib.itoa (c : Int)) ++ strB [32, 111, 102, 102] ++ strB [32, 98, 117, 115, 121, 32] ++ strB (Lib.itoa (cpo M c).busy) ++ strB [32, 105, 100, 108, 101, 32] ++ strB (Lib.itoa (cpo M c).idle) ++ strB [10] = _
  simp only [strB_append]
  rw [bdC_succ, cpuBd, cpuB1, cpuB2, cpuB3, if_neg (by rw [h]; simp)]
  simp
set_option maxRecDepth 100000 in
set_option maxHeartbeats 8000000 in
theorem sBoard_any (ca : Option Addr) (cc : Nat) (ta : Option Addr) (tc : Nat) (ga : Option Addr) (gc : Nat) (gh : Nat → GH) (M : WorldM) (w : World) (hs : WA w ca ta ga gh M) (hF : FitG M) (hx : NextOk M) :
    Calls Tryz.prog 12 #[.agg #[.int .i64 M.now, .slice ca M.cpus.length cc, .slice ta M.tasks.length tc, .slice ga M.groups.length gc]] w fun e w' => e = .returned (.string (strB (boardM M))) ∧ Below w.heap.size w w' := by
  have HX := Lib.hid hx
  clear hx
  go_enter Tryz.func12, Tryz.ntmps12
  go_upto_region 1 with (fail)
  refine PA.gen (P := fun W => Code.wp _ _ _ _ W) hs ?_
  intro W b1 s1 pw
  have PW0 := Lib.hid pw
  obtain ⟨q0, q1, q2, q3, q4, q5⟩ := pw
  clear s1
  by_cases f1 : worldB M = true
  · have F1 := Lib.hid f1
    clear f1
    have HFA := Lib.hid (facts_of F1.out)
    have HNO := Lib.hid (numOk_of F1.out HX.out)
    have TM := Lib.hid (show boardM M = bodyB M by rw [boardM, if_pos F1.out])
    have HTB := Lib.hid (treeB_of F1.out)
    have HF := Lib.hid hF
    have HN := Lib.hid (fit_mem HNO.out.nowF (n := M.now) (by simp))
    have hl0 : ((Lib.itoa M.now).length : Int) ≤ 21 := by have := itoa_len HN.out; omega
    go_upto_region 4 with (first | (go_at_call 23; refine (sWorldOk_any ca cc ta tc ga gc gh M _ q5 hF).mono ?_; rintro e w2 ⟨rfl, hb2⟩; rw [F1.out]; have r1 := (hb2.cell (p := ⟨w.heap.size, 0, none⟩) q0).trans q1; have r2 := (hb2.cell (p := ⟨w.heap.size, 1, none⟩) q0).trans q2; have r3 := (hb2.cell (p := ⟨w.heap.size, 2, none⟩) q0).trans q3; have r4 := (hb2.cell (p := ⟨w.heap.size, 3, none⟩) q0).trans q4; have r0 := Nat.lt_of_lt_of_le q0 hb2.size) | (go_at_call 39; refine (sDec_any _ (HN.out).1 (HN.out).2 _).mono ?_; rintro e w3 ⟨rfl, hb3⟩))
    rw [now_str]
    have hb3' := hb2.andThen hb3
    have PW3 := Lib.hid (PW0.out.keep hb3')
    have bel3 := Lib.hid (b1.andThen hb3')
    clear q0 q1 q2 q3 q4 q5 r0 r1 r2 r3 r4 hb3 hb3' hb2 b1 PW0 hl0 hF
    have pw3 := PW3.out
    obtain ⟨q0, q1, q2, q3, q4, q5⟩ := pw3
    go_wp2
    go_loopw [3, 4] (fun t i wr => ∃ c : Nat, c ≤ M.cpus.length ∧ i = .int .i64 c ∧ t = .string (strB (bdC M c)) ∧ Below w3.heap.size w3 wr) (fun _ i _ => M.cpus.length - (intOf i).toNat)
    case atStart => exact ⟨0, by omega, rfl, rfl, Below.refl _ _⟩
    case round =>
      obtain ⟨c, hc, rfl, rfl, hb⟩ := hrel
      have PW4 := Lib.hid (PW3.out.keep hb)
      have pw4 := PW4.out
      clear q0 q1 q2 q3 q4 q5
      obtain ⟨q0, q1, q2, q3, q4, q5⟩ := pw4
      have HXL := Lib.hid (bdC_len HFA.out HNO.out hc)
      by_cases hlt : c < M.cpus.length
      · obtain ⟨b, o, rfl, hB, c0, c1, c2, c3, c4⟩ := q5.cpu_ hlt
        have hc0 : (0 : Int) ≤ (c : Int) := by omega
        have hc1 : (c : Int) < (M.cpus.length : Int) := by omega
        have hc9 : (c : Int) < 9 := by have := HFA.out.c4; omega
        have FC := HNO.out.cpuF c hlt
        have HC1 := Lib.hid (show -9223372036854775808 ≤ (c : Int) ∧ (c : Int) ≤ 9223372036854775807 by omega)
        have HC2 := Lib.hid (fit_mem FC (n := (cpo M c).busy) (by simp))
        have HC3 := Lib.hid (fit_mem FC (n := (cpo M c).idle) (by simp))
        have l1 : ((Lib.itoa (c : Int)).length : Int) ≤ 21 := by have := itoa_len HC1.out; omega
        have l2 : ((Lib.itoa (cpo M c).busy).length : Int) ≤ 21 := by have := itoa_len HC2.out; omega
        have l3 : ((Lib.itoa (cpo M c).idle).length : Int) ≤ 21 := by have := itoa_len HC3.out; omega
        clear FC
        have hX1 : ((bdC M c).length : Int) ≤ 1000 := by have := HXL.out; omega
        go_upto_region 8 with (fail)
        refine gen1 (p := fun W => Code.wp _ _ _ _ W) ?_
        intro W5 b5 s5 kz
        have z0 := kz.cell 0
        have z3 := kz.cell 3
        have z4 := kz.cell 4
        simp at z0 z3 z4
        have hz := kz.lt
        have HBEL := Lib.hid (hb.andThen b5)
        clear kz s5 c0 c1 c2 c3 c4 q0 q1 q2 q3 q4 q5 b5 hb
        cases hu : (cpo M c).up with
        | true =>
          have HU := Lib.hid hu
          rw [hu] at z0
          clear hu
          have HC := Lib.hid (cpu_str_up HU.out)
          go_upto_region 11 with (go_at_call 39; refine (sDec_any _ (HC1.out).1 (HC1.out).2 _).mono ?_; rintro e w6 ⟨rfl, hb6⟩; have e0 := (hb6.cell (p := ⟨wr.heap.size, 0, none⟩) hz).trans z0)
          have e3 := (hb6.cell (p := ⟨wr.heap.size, 3, none⟩) hz).trans z3
          have e4 := (hb6.cell (p := ⟨wr.heap.size, 4, none⟩) hz).trans z4
          have E3 := fun d os => cell_regrown e3 d os
          have E4 := fun d os => cell_regrown e4 d os
          have HB6 := Lib.hid (HBEL.out.andThen hb6)
          clear z0 z3 z4 hb6
          generalize (cpo M c).busy = vb at *
          generalize (cpo M c).idle = vi at *
          refine wp_region_quiet_below (by kernel_rfl) (by kernel_rfl) ?_
          repeat (go_big_quiet_step ((go_at_call 39; exact Calls.regrown_of (sDec_any _ (by first | exact HC2.out.1 | exact HC3.out.1) (by first | exact HC2.out.2 | exact HC3.out.2) _))))
          refine wpQuiet_nil ?_
          intro _ hw'
          obtain ⟨⟨dq, osq⟩, hw''⟩ := hw'
          subst hw''
          have hb7 := below_regrown w6 dq osq
          generalize grow (redrawn w6 dq) osq = w7 at *
          clear E3 E4 e0 e3 e4 l1 l2 l3
          go_wp2
          go_roundw
          case rel => exact ⟨c + 1, by omega, by go_num, str_eq HC.out, HB6.out.andThen hb7⟩
          case measure => simp [intOf]; omega
        | false =>
          have HU := Lib.hid hu
          rw [hu] at z0
          clear hu
          have HC := Lib.hid (cpu_str_off HU.out)
          go_upto_region 11 with (go_at_call 39; refine (sDec_any _ (HC1.out).1 (HC1.out).2 _).mono ?_; rintro e w6 ⟨rfl, hb6⟩; have e0 := (hb6.cell (p := ⟨wr.heap.size, 0, none⟩) hz).trans z0)
          have e3 := (hb6.cell (p := ⟨wr.heap.size, 3, none⟩) hz).trans z3
          have e4 := (hb6.cell (p := ⟨wr.heap.size, 4, none⟩) hz).trans z4
          have E3 := fun d os => cell_regrown e3 d os
          have E4 := fun d os => cell_regrown e4 d os
          have HB6 := Lib.hid (HBEL.out.andThen hb6)
          clear z0 z3 z4 hb6
          generalize (cpo M c).busy = vb at *
          generalize (cpo M c).idle = vi at *
          refine wp_region_quiet_below (by kernel_rfl) (by kernel_rfl) ?_
          repeat (go_big_quiet_step ((go_at_call 39; exact Calls.regrown_of (sDec_any _ (by first | exact HC2.out.1 | exact HC3.out.1) (by first | exact HC2.out.2 | exact HC3.out.2) _))))
          refine wpQuiet_nil ?_
          intro _ hw'
          obtain ⟨⟨dq, osq⟩, hw''⟩ := hw'
          subst hw''
          have hb7 := below_regrown w6 dq osq
          generalize grow (redrawn w6 dq) osq = w7 at *
          clear E3 E4 e0 e3 e4 l1 l2 l3
          go_wp2
          go_roundw
          case rel => exact ⟨c + 1, by omega, by go_num, str_eq HC.out, HB6.out.andThen hb7⟩
          case measure => simp [intOf]; omega
      · have HE := Lib.hid (show bdC M c = bdT M 0 by rw [show c = M.cpus.length by omega]; simp [bdT, catB])
        have hge : (M.cpus.length : Int) ≤ (c : Int) := by omega
        have hdec : decide (c < M.cpus.length) = false := decide_eq_false (by omega)
        have bel4 := Lib.hid (bel3.out.andThen hb)
        clear hlt hc hb PW3
        rw [HE.out]
        go_wp2
        clear hge hdec
        obtain ⟨wp, hwp⟩ : ∃ wp : World, wp = wr := ⟨_, rfl⟩
        subst hwp
        go_loopw [3, 6] (fun x i wr => ∃ t : Nat, t ≤ M.tasks.length ∧ i = .int .i64 t ∧ x = .string (strB (bdT M t)) ∧ Below wp.heap.size wp wr) (fun _ i _ => M.tasks.length - (intOf i).toNat)
        case atStart => exact ⟨0, by omega, rfl, rfl, Below.refl _ _⟩
        case round =>
          obtain ⟨t, ht, rfl, rfl, hb⟩ := hrel
          have PW6 := Lib.hid (PW4.out.keep hb)
          have pw6 := PW6.out
          clear q0 q1 q2 q3 q4 q5
          obtain ⟨q0, q1, q2, q3, q4, q5⟩ := pw6
          have HXL := Lib.hid (bdT_len HFA.out HNO.out ht)
          have hX1 : ((bdT M t).length : Int) ≤ 5000 := by have := HXL.out; omega
          by_cases hlt : t < M.tasks.length
          · obtain ⟨b, o, rfl, hB, c0, _⟩ := q5.task_ hlt
            have hc0 : (0 : Int) ≤ (t : Int) := by omega
            have hc1 : (t : Int) < (M.tasks.length : Int) := by omega
            have hc9 : (t : Int) < 13 := by have := HFA.out.t12; omega
            by_cases hst : (tsk M t).st = 0
            · have hz : ((tsk M t).st != 0) = false := by simp [hst]
              have HC := Lib.hid (show strB (bdT M t) = strB (bdT M (t + 1)) by rw [bdT_f hst])
              clear hst
              go_wp2
              go_roundw
              case rel => exact ⟨t + 1, by omega, by go_num, str_eq HC.out, hb⟩
              case measure => simp [intOf]; omega
            · have hz : ((tsk M t).st != 0) = true := by simp [hst]
              have HC := Lib.hid (show strB (bdT M t) ++ strB (taskB' M t) = strB (bdT M (t + 1)) by rw [strB_append, bdT_t hst])
              have HY := Lib.hid (taskB'_len HFA.out HNO.out hlt hst)
              have hY1 : ((taskB' M t).length : Int) ≤ 300 := by have := HY.out; omega
              have LC := Lib.hid (sTask_line _ cc _ tc _ gc gh M _ q5 HF.out HFA.out HTB.out HNO.out t hlt hst)
              clear hst
              go_wp2_with (go_at_call 40; refine (LC.out).mono ?_; rintro e w7 ⟨rfl, hb7⟩; generalize bdT M t = X at *; generalize taskB' M t = Y at *)
              go_roundw
              case rel => exact ⟨t + 1, by omega, by go_num, str_eq HC.out, hb.andThen hb7⟩
              case measure => simp [intOf]; omega
          · have HE2 := Lib.hid (show bdT M t = boardM M by rw [TM.out, ← bd_body, show t = M.tasks.length by omega])
            have hge2 : (M.tasks.length : Int) ≤ (t : Int) := by omega
            rw [HE2.out]
            clear hlt
            go_wp2
            go_ret
            exact ⟨rfl, bel4.out.andThen hb⟩
  · have F1 := Lib.hid (show worldB M = false by simpa only [Bool.not_eq_true] using f1)
    clear f1
    have TM := Lib.hid (show (⟨#[]⟩ : ByteArray) = strB (boardM M) by rw [boardM, if_neg (by rw [F1.out]; simp)]; rfl)
    go_wp2_with (go_at_call 23; refine (sWorldOk_any ca cc ta tc ga gc gh M _ q5 hF).mono ?_; rintro e w2 ⟨rfl, hb2⟩; rw [F1.out]; have r1 := (hb2.cell (p := ⟨w.heap.size, 0, none⟩) q0).trans q1; have r2 := (hb2.cell (p := ⟨w.heap.size, 1, none⟩) q0).trans q2; have r3 := (hb2.cell (p := ⟨w.heap.size, 2, none⟩) q0).trans q3; have r4 := (hb2.cell (p := ⟨w.heap.size, 3, none⟩) q0).trans q4; have r0 := Nat.lt_of_lt_of_le q0 hb2.size)
    go_ret
    exact ⟨ret_str TM.out, b1.andThen hb2⟩
end Go.Proofs.YtknfpigaognklaaGreatDoor
namespace Go.Proofs.YtknfpigaognklaaGreatDoor
open Go.RowKit Go.Sort
attribute [local go_sem] strB_size
def strN : Value → Nat | .string b => b.size | _ => 0
theorem path_join (M : WorldM) (h : Nat) (X : List UInt8) : (⟨#[47]⟩ : ByteArray) ++ (grp M h).name ++ strB X = strB (47 :: (grp M h).name.data.toList ++ X) := by
  rw [show (⟨#[47]⟩ : ByteArray) = strB [47] from rfl, ← strB_data (grp M h).name, strB_append, strB_append]
  simp [strB_data]
set_option maxRecDepth 100000 in
set_option maxHeartbeats 1000000 in
theorem iPath_any (M : WorldM) (hT : Tree M) (NO : NumOk M) (nb : Nat → Nat) (g : Nat) (hg : g < 8) (hu : (grp M g).used = true) (w : World) (hN : NodesAt w M nb) :
    Calls Tryz.prog 87 #[.pointer (some ⟨nb g, 0, none⟩)] w fun e w' => e = .returned (.string (strB (pathB M g))) ∧ w = w' := by
  have HN := Lib.hid hN
  have HT := Lib.hid hT
  have HNO := Lib.hid NO
  have HP := Lib.hid (pathR_len40 hT NO hg hu)
  have c0 := hN.slot g hg hu
  by_cases h0 : g = 0
  · have PB := Lib.hid (show pathB M g = [47] by rw [pathB, if_pos h0])
    have hz : ((g : Int) == 0) = true := by simp [h0]
    clear hN hT NO h0 hu
    go_enter Tryz.func87, Tryz.ntmps87
    go_wp2
    go_ret
    exact ⟨ret_str (by rw [PB.out]; rfl), rfl⟩
  · have PB := Lib.hid (show pathB M g = pathR M (ch M g) by rw [pathB, if_neg h0])
    have hz : ((g : Int) == 0) = false := by simp [h0]
    clear hN hT NO
    go_enter Tryz.func87, Tryz.ntmps87
    go_wp2
    clear c0 hz
    go_loop [0, 3] (fun n s => ∃ (h : Nat) (X : List UInt8), h < 8 ∧ (grp M h).used = true ∧ n = .pointer (some ⟨nb h, 0, none⟩) ∧ s = .string (strB X) ∧ pathR M (ch M g) = pathR M (ch M h) ++ X) (fun _ s => 100 - strN s)
    case atStart => exact ⟨g, [], hg, hu, rfl, rfl, by simp⟩
    case round =>
      obtain ⟨h, X, hh, huh, rfl, rfl, hd⟩ := hrel
      have HD := Lib.hid hd
      have HX := Lib.hid (show X.length ≤ 40 by have := HP.out; rw [hd, List.length_append] at this; omega)
      clear hd
      have c0 := HN.out.slot h hh huh
      have c1 := HN.out.name h hh huh
      have hX : (X.length : Int) ≤ 40 := by have := HX.out; omega
      by_cases h1 : h = 0
      · have hz : ((h : Int) != 0) = false := by simp [h1]
        have HE := Lib.hid (show X = pathB M g by rw [PB.out, HD.out, h1, pathR_zero]; rfl)
        clear h1 huh
        go_wp2
        go_ret
        exact ⟨ret_str (by rw [HE.out]), rfl⟩
      · have hz : ((h : Int) != 0) = true := by simp [h1]
        obtain ⟨c2, hp, hpu⟩ := HN.out.up h hh h1 huh
        have HS := Lib.hid (pathR_step HT.out hh huh h1)
        have HPU := Lib.hid hpu
        have hns : ((grp M h).name.size : Int) ≤ 8 := by have := HNO.out.nameF h hh h1 huh; omega
        clear huh h1 hpu
        go_wp2
        go_round
        case rel => exact ⟨par M h, 47 :: (grp M h).name.data.toList ++ X, hp, HPU.out, rfl, str_eq (path_join M h X), by rw [HD.out, HS.out, List.append_assoc]⟩
        case measure =>
          have := HX.out
          rw [path_join]
          simp only [strN, strB_size, List.length_append, List.length_cons]
          omega
set_option maxRecDepth 100000 in
set_option maxHeartbeats 1000000 in
theorem iNodeOf_any (ca ta ga : Option Addr) (gc : Nat) (gh : Nat → GH) (M : WorldM) (w : World) (hs : WA w ca ta ga gh M) (hgm : M.groups.length ≤ 1048576) (hnm : ∀ k, k < M.groups.length → (grp M k).name.size ≤ 1048576) (hB : nodesB M = true) (g : Nat) (hg : g < 8) (hu : (grp M g).used = true) (hl : M.groups.length = 8) :
    Calls Tryz.prog 86 #[.slice ga M.groups.length gc, .int .i64 g] w fun e w' => ∃ nb, e = .returned (.pointer (some ⟨nb g, 0, none⟩)) ∧ NodesAt w' M nb ∧ Below w.heap.size w w' := by
  have HB := Lib.hid hB
  have HU := Lib.hid hu
  have HUI := Lib.hid (show usedI M g = true by simp only [usedI, Int.toNat_natCast, hu, Bool.and_true, Bool.and_eq_true, decide_eq_true_eq]; omega)
  have hg8 : (g : Int) < 8 := by omega
  have hg0 : (0 : Int) ≤ (g : Int) := by omega
  clear hu hl hB
  go_enter Tryz.func86, Tryz.ntmps86
  go_wp2_with (first | (go_at_call 113; refine (iNodes_any ca ta ga gc gh M _ hs hgm hnm).mono ?_; rintro e w2 ⟨v, rfl, hb2, hv⟩; obtain ⟨a, nb, rfl, hblk, hN⟩ := hv HB.out; rw [HB.out]; have HBL := Lib.hid hblk; have HN := Lib.hid hN; have e0 : w2.cell? ⟨a, g, none⟩ = some (.pointer (some ⟨nb g, 0, none⟩)) := (by rw [HBL.out.cell, arrN_at M nb 8 g hg, if_pos ⟨hg, HU.out⟩]); clear hblk hN hv) | (go_at_call 116; refine (iGroupUsed_any ca ta ga gc gh M _ (hs.keep hb2) hgm _).mono ?_; rintro e w' ⟨rfl, rfl⟩; rw [HUI.out]))
  go_ret
  exact ⟨nb, rfl, HN.out, hb2⟩
set_option maxRecDepth 100000 in
set_option maxHeartbeats 1000000 in
theorem iTreePath_any (ca ta ga : Option Addr) (gc : Nat) (gh : Nat → GH) (M : WorldM) (w : World) (hs : WA w ca ta ga gh M) (hT : Tree M) (hB : treeB M = true) (NO : NumOk M) (hgm : M.groups.length ≤ 1048576) (hnm : ∀ k, k < M.groups.length → (grp M k).name.size ≤ 1048576) (g : Nat) (hg : g < 8) (hu : (grp M g).used = true) :
    Calls Tryz.prog 42 #[.slice ga M.groups.length gc, .int .i64 g] w fun e w' => e = .returned (.string (strB (pathB M g))) ∧ Below w.heap.size w w' := by
  have C := Lib.hid (iNodeOf_any ca ta ga gc gh M w hs hgm hnm ((nodes_tree M).trans hB) g hg hu hT.len)
  go_enter Tryz.func42, Tryz.ntmps42
  go_wp2_with (first | (go_at_call 86; refine C.out.mono ?_; rintro e w2 ⟨nb, rfl, hN, hb2⟩) | (go_at_call 87; refine (iPath_any M hT NO nb g hg hu _ hN).mono ?_; rintro e w' ⟨rfl, rfl⟩))
  go_ret
  exact ⟨rfl, hb2⟩
set_option maxRecDepth 100000 in
set_option maxHeartbeats 1000000 in
theorem iCpu_any (p : Nat) (ca : Option Addr) (cc : Nat) (ta : Option Addr) (tc : Nat) (ga : Option Addr) (gc : Nat) (gh : Nat → GH) (M : WorldM) (w : World) (hs : PA w p ca cc ta tc ga gc gh M) (c : Nat) (hc : c < M.cpus.length) (b o : Nat) (hca : ca = some ⟨b, o, none⟩) :
    Calls Tryz.prog 89 #[.agg #[.pointer (some ⟨p, 0, none⟩), .int .i64 (c : Int)]] w fun e w' => e = .returned (.pointer (some ⟨b, o + c * 5, none⟩)) ∧ Below w.heap.size w w' := by
  subst hca
  obtain ⟨q0, q1, q2, q3, q4, q5⟩ := hs
  obtain ⟨b2, o2, e2, hB, _⟩ := q5.cpu_ hc
  simp only [Option.some.injEq, Addr.mk.injEq] at e2
  obtain ⟨rfl, rfl, _⟩ := e2
  have hc0 : (0 : Int) ≤ (c : Int) := by omega
  have hc1 : (c : Int) < (M.cpus.length : Int) := by omega
  clear q1 q3 q4 q5
  go_enter Tryz.func89, Tryz.ntmps89
  go_upto_region 1 with (fail)
  refine gen1 (p := fun W => Code.wp _ _ _ _ W) ?_
  intro W b1 s1 k1
  have x0 := k1.cell 0
  have x1 := k1.cell 1
  simp at x0 x1
  have r0 := Nat.lt_of_lt_of_le q0 b1.size
  have r2 := (b1.cell (p := ⟨p, 1, none⟩) q0).trans q2
  have hB2 := Nat.lt_of_lt_of_le hB b1.size
  have hl := k1.lt
  clear k1 q2
  go_wp2_with fail
  go_quiet (fail)
  go_wp2
  go_ret
  exact ⟨rfl, b1.drewN _⟩
set_option maxRecDepth 100000 in
set_option maxHeartbeats 4000000 in
theorem iWord_any (p : Nat) (ca : Option Addr) (cc : Nat) (ta : Option Addr) (tc : Nat) (ga : Option Addr) (gc : Nat) (gh : Nat → GH) (M : WorldM) (w : World) (hs : PA w p ca cc ta tc ga gc gh M) (FA : Facts M) (t : Nat) (ht : t < M.tasks.length) (hst : (tsk M t).st ≠ 0) :
    Calls Tryz.prog 43 #[.pointer (some ⟨p, 0, none⟩), .int .i64 t] w fun e w' => e = .returned (.string (strB (wordB M t))) ∧ Below w.heap.size w w' := by
  have HFA := Lib.hid FA
  obtain ⟨g, c, hgr, hg8, hgu, hcu, hcl⟩ := FA.tk t (by have := FA.t12; omega) hst
  have HGU := Lib.hid hgu
  have HGR := Lib.hid hgr
  have HCN := Lib.hid (show (tsk M t).cpu.toNat = c by rw [hcu, Int.toNat_natCast])
  have HS := Lib.hid hs
  have HCU := Lib.hid hcu
  obtain ⟨q0, q1, q2, q3, q4, q5⟩ := hs
  obtain ⟨b, o, rfl, hB, c0, c1, c2, c3, c4, c5, c6, c7, c8⟩ := q5.task_ ht
  obtain ⟨bc, oc, rfl, hBc, e0, e1, _⟩ := q5.cpu_ hcl
  rw [hcu] at c2
  have hi0 : (0 : Int) ≤ (t : Int) := by omega
  have hi1 : (t : Int) < (M.tasks.length : Int) := by omega
  have hc0 : (0 : Int) ≤ (c : Int) := by omega
  have hc1 : (c : Int) < (M.cpus.length : Int) := by omega
  clear FA hgr hgu hcu c1 c3 c4 c5 c6 c7 c8 q1 q2 q4 q5
  go_enter Tryz.func43, Tryz.ntmps43
  go_upto_region 2 with (go_at_call 88; refine (iLane_any p _ _).mono ?_; rintro e w2 ⟨rfl, hb2⟩)
  have PW2 := Lib.hid (HS.out.keep hb2)
  refine gen1 (p := fun W => Code.wp _ _ _ _ W) ?_
  intro W b1 s1 k1
  have x0 := k1.cell 0
  have x1 := k1.cell 1
  simp at x0 x1
  have hl := k1.lt
  have bel := hb2.andThen b1
  have PW := Lib.hid (PW2.out.keep b1)
  clear k1 s1 PW2 q0 q3 c0 c2 e0 e1
  have BEL := Lib.hid bel
  clear bel hb2 b1
  have CC := Lib.hid (iCpu_any _ _ _ _ _ _ _ _ M _ PW.out c hcl bc oc rfl)
  skip
  by_cases k1 : (cpo M c).cur = (t : Int)
  · have hk : ((cpo M c).cur == (t : Int)) = true := by simp [k1]
    have WB := Lib.hid (show wordB M t = [32, 114, 117, 110, 115] by rw [wordB, HCN.out, if_pos k1])
    clear k1
    go_wp2_with (go_at_call 89; refine CC.out.mono ?_; rintro e w3 ⟨rfl, hb3⟩; obtain ⟨q0, q1, q2, q3, q4, q5⟩ := (PW.out.keep hb3); obtain ⟨b9, o9, e9, hB9, c0, _⟩ := q5.task_ ht; obtain ⟨b8, o8, e8, hB8, _, e1, _⟩ := q5.cpu_ hcl; simp only [Option.some.injEq, Addr.mk.injEq] at e8 e9; obtain ⟨rfl, rfl, _⟩ := e8; obtain ⟨rfl, rfl, _⟩ := e9; have x0' := (hb3.cell (p := ⟨w2.heap.size, 0, none⟩) hl).trans x0; have x1' := (hb3.cell (p := ⟨w2.heap.size, 1, none⟩) hl).trans x1)
    go_ret
    exact ⟨ret_str (by rw [WB.out]; rfl), BEL.out.andThen hb3⟩
  · have hk : ((cpo M c).cur == (t : Int)) = false := by simp [k1]
    by_cases k2 : (tsk M t).st = 2
    · have hk2 : ((tsk M t).st == 2) = true := by simp [k2]
      have WB := Lib.hid (show wordB M t = [32, 119, 97, 105, 116, 115] by rw [wordB, HCN.out, if_neg k1, if_pos k2])
      clear k1 k2
      go_wp2_with (go_at_call 89; refine CC.out.mono ?_; rintro e w3 ⟨rfl, hb3⟩; obtain ⟨q0, q1, q2, q3, q4, q5⟩ := (PW.out.keep hb3); obtain ⟨b9, o9, e9, hB9, c0, _⟩ := q5.task_ ht; obtain ⟨b8, o8, e8, hB8, _, e1, _⟩ := q5.cpu_ hcl; simp only [Option.some.injEq, Addr.mk.injEq] at e8 e9; obtain ⟨rfl, rfl, _⟩ := e8; obtain ⟨rfl, rfl, _⟩ := e9; have x0' := (hb3.cell (p := ⟨w2.heap.size, 0, none⟩) hl).trans x0; have x1' := (hb3.cell (p := ⟨w2.heap.size, 1, none⟩) hl).trans x1)
      go_ret
      exact ⟨ret_str (by rw [WB.out]; rfl), BEL.out.andThen hb3⟩
    · have hk2 : ((tsk M t).st == 2) = false := by simp [k2]
      have LE : lineI M t c = lineM M t := by rw [lineI, lineM, HCN.out, HCU.out]; simp
      have IL := Lib.hid (fun W h => iInLine_any p (some ⟨bc, oc, none⟩) cc (some ⟨b, o, none⟩) tc ga gc gh M W h HFA.out.tree HFA.out.gok.she t c ht hcl (fun _ => ⟨g, HGR.out, hg8, HGU.out⟩))
      cases k3 : lineM M t with
      | true =>
        have K3 := Lib.hid (LE.trans k3)
        have WB := Lib.hid (show wordB M t = [32, 114, 101, 97, 100, 121] by rw [wordB, HCN.out, if_neg k1, if_neg k2, if_pos k3])
        clear k1 k2 k3 LE
        go_wp2_with (first | (go_at_call 89; refine CC.out.mono ?_; rintro e w3 ⟨rfl, hb3⟩; obtain ⟨q0, q1, q2, q3, q4, q5⟩ := (PW.out.keep hb3); obtain ⟨b9, o9, e9, hB9, c0, _⟩ := q5.task_ ht; obtain ⟨b8, o8, e8, hB8, _, e1, _⟩ := q5.cpu_ hcl; simp only [Option.some.injEq, Addr.mk.injEq] at e8 e9; obtain ⟨rfl, rfl, _⟩ := e8; obtain ⟨rfl, rfl, _⟩ := e9; have x0' := (hb3.cell (p := ⟨w2.heap.size, 0, none⟩) hl).trans x0; have x1' := (hb3.cell (p := ⟨w2.heap.size, 1, none⟩) hl).trans x1) | (go_at_call 90; refine (IL.out _ (PW.out.keep hb3)).mono ?_; rintro e w4 ⟨rfl, hb4⟩; rw [K3.out]))
        go_ret
        exact ⟨ret_str (by rw [WB.out]; rfl), (BEL.out.andThen hb3).andThen hb4⟩
      | false =>
        have K3 := Lib.hid (LE.trans k3)
        have WB := Lib.hid (show wordB M t = [32, 100, 114, 121] by rw [wordB, HCN.out, if_neg k1, if_neg k2, if_neg (by rw [k3]; simp)])
        clear k1 k2 k3 LE
        go_wp2_with (first | (go_at_call 89; refine CC.out.mono ?_; rintro e w3 ⟨rfl, hb3⟩; obtain ⟨q0, q1, q2, q3, q4, q5⟩ := (PW.out.keep hb3); obtain ⟨b9, o9, e9, hB9, c0, _⟩ := q5.task_ ht; obtain ⟨b8, o8, e8, hB8, _, e1, _⟩ := q5.cpu_ hcl; simp only [Option.some.injEq, Addr.mk.injEq] at e8 e9; obtain ⟨rfl, rfl, _⟩ := e8; obtain ⟨rfl, rfl, _⟩ := e9; have x0' := (hb3.cell (p := ⟨w2.heap.size, 0, none⟩) hl).trans x0; have x1' := (hb3.cell (p := ⟨w2.heap.size, 1, none⟩) hl).trans x1) | (go_at_call 90; refine (IL.out _ (PW.out.keep hb3)).mono ?_; rintro e w4 ⟨rfl, hb4⟩; rw [K3.out]))
        go_ret
        exact ⟨ret_str (by rw [WB.out]; rfl), (BEL.out.andThen hb3).andThen hb4⟩
end Go.Proofs.YtknfpigaognklaaGreatDoor
namespace Go.Proofs.YtknfpigaognklaaGreatDoor
open Go.RowKit Go.Sort
attribute [local go_sem] strB_size
/-- no block but the builder's own and rows of bytes is changed -/
def KeepsBut (b : Nat) (w w' : World) : Prop := ∀ k T cs, k ≠ b → T ≠ 5 → Blk w k T cs → Blk w' k T cs
theorem KeepsBut.refl (b : Nat) (w : World) : KeepsBut b w w := fun _ _ _ _ _ h => h
theorem KeepsBut.trans {b : Nat} {u v w : World} (h1 : KeepsBut b u v) (h2 : KeepsBut b v w) : KeepsBut b u w := fun k T cs a c h => h2 k T cs a c (h1 k T cs a c h)
theorem KeepsBut.set (b : Nat) (w : World) (i : Nat) (u : Value) : KeepsBut b w (w.setCell ⟨b, i, none⟩ u) := fun _ _ _ a _ h => h.far a u
theorem KeepsBut.grown {b : Nat} {w w' : World} {B n : Nat} {v : Value} {xs : List Value} (hg : w.grownBy w' v.ownBlock) (ho : w.ownsRow B 5 1 v n xs) : KeepsBut b w w' := fun k T cs _ hT h => by
  have hl := h.lt
  unfold Blk at h ⊢
  rw [hg.block k hl ?_]
  · exact h
  · intro e
    rcases ho.2 with ⟨rfl, _⟩ | ⟨g, cap, cur, rfl, _, hgb, _⟩
    · cases e
    · simp only [Value.ownBlock, Option.some.injEq] at e
      subst e
      rw [hgb] at h
      simp only [Option.some.injEq, Obj.cells.injEq] at h
      exact hT h.2.1.symm
theorem bCheckK (B b : Nat) (bs : List Value) (w : World) (h : Lib.IsBuilder 65 5 B b bs w) :
    Calls Tryz.prog 79 #[.pointer (some ⟨b, 0, none⟩)] w fun e w' => e = .returned (.tuple #[]) ∧ (Lib.BuilderAt 65 5 B b (.pointer (some ⟨b, 0, none⟩)) bs w' ∧ Below B w w' ∧ KeepsBut b w w') := by
  rcases h with h | h
  · refine (bCheck_fresh b w h.cell0 h.shape h.frozen0).mono ?_
    rintro e w' ⟨rfl, rfl⟩
    exact ⟨rfl, h.used _, (Below.refl B w).setCell (p := ⟨b, 0, none⟩) h.1 _, KeepsBut.set _ _ _ _⟩
  · refine (bCheck_used b w h.cell0).mono ?_
    rintro e w' ⟨rfl, rfl⟩
    exact ⟨rfl, h, Below.refl B _, KeepsBut.refl _ _⟩
set_option maxHeartbeats 2000000 in
set_option maxRecDepth 100000 in
theorem bWriteK (B b : Nat) (bs : List Value) (s : ByteArray) (w : World) (h : Lib.IsBuilder 65 5 B b bs w) (hlen : bs.length + s.size ≤ 140737488355328) (hBw : B ≤ w.heap.size) :
    Calls Tryz.prog 31 #[.pointer (some ⟨b, 0, none⟩), .string s] w fun e w' => e = .returned (.tuple #[.int .i64 s.size, .nilIface]) ∧ (Lib.BuilderAt 65 5 B b (.pointer (some ⟨b, 0, none⟩)) (bs ++ Lib.strCells s) w' ∧ Below B w w' ∧ KeepsBut b w w') := by
  obtain ⟨i0, hi, hz0, hz1, hz2⟩ := info_parts infoBu
  go_enter Tryz.func31, Tryz.ntmps31
  go_upto_region 2 with (go_at_call 79; refine (bCheckK B b bs _ h).mono ?_; rintro e w1 ⟨rfl, h1, hb1, hk1⟩)
  obtain ⟨hB, v, hbk, hown, hne⟩ := h1
  have c0 : w1.cell? ⟨b, 0, none⟩ = some (.pointer (some ⟨b, 0, none⟩)) := by rw [Lib.cell_of_heap hbk]; rfl
  have c1 : w1.cell? ⟨b, 1, none⟩ = some v := by rw [Lib.cell_of_heap hbk]; rfl
  go_wp2_with (at_builtin; refine Lib.wpList_append_own_string _ rfl _ _ 63 9 rfl B 5 i0 Tryz.underlying63 Tryz.underlying9 hi hz0 hz1 hz2 _ _ _ rfl hown s rfl ?c3 ?c4 ?c5 ?_)
  case c3 => unfold maxLen; omega
  case c4 => omega
  case c5 => have := hb1.size; omega
  intro v' w2 hown' hgrow _
  have hlt : b < w1.heap.size := by
    rcases Nat.lt_or_ge b w1.heap.size with h' | h'
    · exact h'
    · simp [Array.getElem?_eq_none h'] at hbk
  have hb2 : w2.heap[b]? = some (.cells #[.pointer (some ⟨b, 0, none⟩), v] 65 (0, 0)) := by
    rw [hgrow.block b hlt (fun e => hne e.symm)]
    exact hbk
  have d0 : w2.cell? ⟨b, 0, none⟩ = some (.pointer (some ⟨b, 0, none⟩)) := by rw [Lib.cell_of_heap hb2]; rfl
  have d1 : w2.cell? ⟨b, 1, none⟩ = some v := by rw [Lib.cell_of_heap hb2]; rfl
  have f1 : w2.frozen? ⟨b, 1, none⟩ = false := Lib.frozen_of_heap hb2 1
  obtain ⟨ao, n', cap, rfl⟩ : ∃ ao n' cap, v' = .slice ao n' cap := by
    rcases hown'.2 with ⟨hv, _⟩ | ⟨g, cap, cur, hv, _⟩
    · exact ⟨_, _, _, hv⟩
    · exact ⟨_, _, _, hv⟩
  go_wp2
  go_ret2
  refine ⟨rfl, ?_, ?_, (hk1.trans (KeepsBut.grown hgrow hown)).trans (KeepsBut.set _ _ _ _)⟩
  · exact Lib.BuilderAt.put (T := 65) (e := 5) hB hb2 (bs' := bs ++ Lib.strCells s) (by simpa [Lib.strCells_length] using hown') (by decide)
  · exact (hb1.grown hgrow (by have := hb1.size; omega) (fun k hk => (hown.lt k hk).1)).setCell (p := ⟨b, 1, none⟩) hB _
theorem bTextK (B b : Nat) (X Y : List UInt8) (s : ByteArray) (hs : s = strB Y) (w : World) (h : Lib.IsBuilder 65 5 B b (Lib.byteCells X) w) (hX : X.length ≤ 100000) (hY : Y.length ≤ 100000) (hBw : B ≤ w.heap.size) :
    Calls Tryz.prog 31 #[.pointer (some ⟨b, 0, none⟩), .string s] w fun e w' => e = .returned (.tuple #[.int .i64 Y.length, .nilIface]) ∧ Lib.IsBuilder 65 5 B b (Lib.byteCells (X ++ Y)) w' ∧ Below B w w' ∧ KeepsBut b w w' := by
  subst hs
  refine (bWriteK B b _ (strB Y) w h (by rw [strB_size, Lib.byteCells_length]; omega) hBw).mono ?_
  rintro e w' ⟨rfl, h1, h2, h3⟩
  refine ⟨by rw [strB_size], .inr ?_, h2, h3⟩
  rw [Lib.byteCells_append, ← strCells_strB]
  exact h1
end Go.Proofs.YtknfpigaognklaaGreatDoor
namespace Go.Proofs.YtknfpigaognklaaGreatDoor
open Go.RowKit Go.Sort
attribute [local go_sem] strB_size
theorem now_strI (M : WorldM) : (⟨#[110, 111, 119, 32]⟩ : ByteArray) ++ strB (Lib.itoa M.now) ++ ⟨#[10]⟩ = strB (bdC M 0) := now_str M
theorem cpu1_str (c : Nat) : (⟨#[99, 112, 117, 32]⟩ : ByteArray) ++ strB (Lib.itoa (c : Int)) = strB (cpuB1 c) := by
  show strB [99, 112, 117, 32] ++ strB (Lib.itoa (c : Int)) = _
  rw [strB_append]; rfl
theorem cpu3_str (M : WorldM) (c : Nat) : (⟨#[32, 98, 117, 115, 121, 32]⟩ : ByteArray) ++ strB (Lib.itoa (cpo M c).busy) ++ ⟨#[32, 105, 100, 108, 101, 32]⟩ ++ strB (Lib.itoa (cpo M c).idle) ++ ⟨#[10]⟩ = strB (cpuB3 M c) := by
  show strB [32, 98, 117, 115, 121, 32] ++ strB (Lib.itoa (cpo M c).busy) ++ strB [32, 105, 100, 108, 101, 32] ++ strB (Lib.itoa (cpo M c).idle) ++ strB [10] = _
  simp only [strB_append]; rfl
theorem line_str {M : WorldM} {t : Nat} {H : List UInt8} {A : ByteArray} (h : A = strB H) (hH : H = taskH M t) : A ++ strB (wordB M t) ++ (⟨#[10]⟩ : ByteArray) = strB (taskB' M t) := by
  subst h hH
  show strB _ ++ strB (wordB M t) ++ strB [10] = _
  simp only [strB_append]; rfl
theorem bu_lt {B b : Nat} {bs : List Value} {w : World} (h : Lib.IsBuilder 65 5 B b bs w) : b < w.heap.size := by
  rcases h with h | h
  · exact h.lt
  · exact h.lt
set_option maxRecDepth 100000 in
set_option maxHeartbeats 8000000 in
theorem iBoard_any (ca : Option Addr) (cc : Nat) (ta : Option Addr) (tc : Nat) (ga : Option Addr) (gc : Nat) (gh : Nat → GH) (M : WorldM) (w : World) (hs : WA w ca ta ga gh M) (hF : FitG M) (hx : NextOk M) (htab : Lib.TabIs Tryz.prog w "internal/strconv.uint64pow10" .u64 Lib.pow10Tab) :
    Calls Tryz.prog 13 #[.agg #[.int .i64 M.now, .slice ca M.cpus.length cc, .slice ta M.tasks.length tc, .slice ga M.groups.length gc]] w fun e w' => e = .returned (.string (strB (boardM M))) ∧ Below w.heap.size w w' := by
  have HX := Lib.hid hx
  have HT := Lib.hid htab
  clear hx htab
  go_enter Tryz.func13, Tryz.ntmps13
  go_upto_region 1 with (fail)
  refine PA.gen (P := fun W => Code.wp _ _ _ _ W) hs ?_
  intro W b1 s1 pw
  have PW0 := Lib.hid pw
  obtain ⟨q0, q1, q2, q3, q4, q5⟩ := pw
  clear s1
  by_cases f1 : worldB M = true
  · have F1 := Lib.hid f1
    clear f1
    have HFA := Lib.hid (facts_of F1.out)
    have HNO := Lib.hid (numOk_of F1.out HX.out)
    have TM := Lib.hid (show boardM M = bodyB M by rw [boardM, if_pos F1.out])
    have HTB := Lib.hid (treeB_of F1.out)
    have HF := Lib.hid hF
    have HN := Lib.hid (fit_mem HNO.out.nowF (n := M.now) (by simp))
    have hl0 : ((Lib.itoa M.now).length : Int) ≤ 21 := by have := itoa_len HN.out; omega
    go_upto_region 4 with (go_at_call 30; refine (iWorldOk_any ca cc ta tc ga gc gh M _ q5 hF HX.out).mono ?_; rintro e w2 ⟨rfl, hb2⟩; rw [F1.out]; have r1 := (hb2.cell (p := ⟨w.heap.size, 0, none⟩) q0).trans q1; have r2 := (hb2.cell (p := ⟨w.heap.size, 1, none⟩) q0).trans q2; have r3 := (hb2.cell (p := ⟨w.heap.size, 2, none⟩) q0).trans q3; have r4 := (hb2.cell (p := ⟨w.heap.size, 3, none⟩) q0).trans q4; have r0 := Nat.lt_of_lt_of_le q0 hb2.size)
    have PW2 := Lib.hid (PW0.out.keep hb2)
    have HB0 := Lib.hid (Lib.fresh_isBuilder 65 5 w2)
    have bA : Below w2.heap.size w2 (w2.alloc (.cells #[.pointer none, .slice none 0 0] 65)) := (Below.refl _ _).alloc (Nat.le_refl _) _
    have hW3 : (w2.alloc (.cells #[.pointer none, .slice none 0 0] 65)).heap.size = w2.heap.size + 1 := by simp
    have HT3 := Lib.hid (tab_keep HT.out (b1.andThen hb2))
    have bel2 := Lib.hid (b1.andThen hb2)
    generalize (w2.alloc (.cells #[.pointer none, .slice none 0 0] 65)) = W3 at *
    clear q0 q1 q2 q3 q4 q5 r0 r1 r2 r3 r4 hb2 b1 PW0 hF
    have pw3 := PW2.out.keep bA
    obtain ⟨q0, q1, q2, q3, q4, q5⟩ := pw3
    obtain ⟨n2, hn2⟩ : ∃ n2, w2.heap.size = n2 := ⟨_, rfl⟩
    have HN2 := Lib.hid hn2
    rw [hn2] at HB0 hW3 ⊢
    have HW3 := Lib.hid hW3
    clear hn2 hW3
    go_upto_region 5 with (first | (go_at_call 41; refine (iItoa_any (M.now) (HN.out).1 (HN.out).2 _ (tab_keep HT3.out bA)).mono ?_; rintro e w4 ⟨rfl, hb4⟩) | (go_at_call 31; refine (bTextK n2 n2 ([]) (bdC M 0) _ (now_strI M) _ (bu_below HB0.out hb4) (by simp) (by have := bdC_len HFA.out HNO.out (Nat.zero_le M.cpus.length); omega) (by have := hb4.size; have := HW3.out; omega)).mono ?_; rintro e w5 ⟨rfl, hB5, hb5, _⟩))
    rw [List.nil_append] at hB5
    have hw5 : Below n2 w2 w5 := Below.trans (by rw [← HN2.out]; exact bA.andThen hb4) hb5
    clear hb4 hb5 bA HW3 HB0 q0 q1 q2 q3 q4 q5 hl0
    have PWK := Lib.hid (fun (X : World) (h : Below n2 w2 X) => PW2.out.keep (show Below w2.heap.size w2 X by rw [HN2.out]; exact h))
    have TBK := Lib.hid (fun (X : World) (h : Below n2 w2 X) => tab_keep HT3.out (show Below w2.heap.size w2 X by rw [HN2.out]; exact h))
    have SZK := Lib.hid (fun (X : World) (h : Below n2 w2 X) => (show n2 ≤ X.heap.size by rw [← HN2.out]; exact h.size))
    have pw5 := PWK.out _ hw5
    obtain ⟨q0, q1, q2, q3, q4, q5⟩ := pw5
    go_wp2
    go_loopw [20] (fun i wr => ∃ c : Nat, c ≤ M.cpus.length ∧ i = .int .i64 c ∧ Lib.IsBuilder 65 5 n2 n2 (Lib.byteCells (bdC M c)) wr ∧ Below n2 w2 wr ∧ n2 < wr.heap.size) (fun i _ => M.cpus.length - (intOf i).toNat)
    case atStart => exact ⟨0, by omega, rfl, hB5, hw5, bu_lt hB5⟩
    case round =>
      obtain ⟨c, hc, rfl, hBu, hb, hlt2⟩ := hrel
      have HBU := Lib.hid hBu
      clear hBu
      have pw5 := PWK.out _ hb
      clear q0 q1 q2 q3 q4 q5
      obtain ⟨q0, q1, q2, q3, q4, q5⟩ := pw5
      have HXL := Lib.hid (bdC_len HFA.out HNO.out hc)
      by_cases hlt : c < M.cpus.length
      · obtain ⟨b, o, rfl, hB, c0, c1, c2, c3, c4⟩ := q5.cpu_ hlt
        have hc0 : (0 : Int) ≤ (c : Int) := by omega
        have hc1 : (c : Int) < (M.cpus.length : Int) := by omega
        have hc9 : (c : Int) < 9 := by have := HFA.out.c4; omega
        have FC := HNO.out.cpuF c hlt
        have HC1 := Lib.hid (show -9223372036854775808 ≤ (c : Int) ∧ (c : Int) ≤ 9223372036854775807 by omega)
        have HC2 := Lib.hid (fit_mem FC (n := (cpo M c).busy) (by simp))
        have HC3 := Lib.hid (fit_mem FC (n := (cpo M c).idle) (by simp))
        have l1 : ((Lib.itoa (c : Int)).length : Int) ≤ 21 := by have := itoa_len HC1.out; omega
        have l2 : ((Lib.itoa (cpo M c).busy).length : Int) ≤ 21 := by have := itoa_len HC2.out; omega
        have l3 : ((Lib.itoa (cpo M c).idle).length : Int) ≤ 21 := by have := itoa_len HC3.out; omega
        have hne : wr.heap.size ≠ n2 := by omega
        clear FC
        go_upto_region 8 with (fail)
        refine gen1 (p := fun W => Code.wp _ _ _ _ W) ?_
        intro W5 b5 s5 kz
        have HBEL := Lib.hid (hb.trans (b5.mono (SZK.out _ hb)))
        have HBU5 := Lib.hid (bu_below HBU.out b5)
        have hsz5 := SZK.out _ HBEL.out
        have KZ := Lib.hid kz
        obtain ⟨k0, hk0⟩ : ∃ k0, wr.heap.size = k0 := ⟨_, rfl⟩
        rw [hk0] at KZ hne ⊢
        clear hk0
        clear kz s5 c0 c1 c2 c3 c4 q0 q1 q2 q3 q4 q5 b5 hb HBU
        cases hu : (cpo M c).up with
        | true =>
          have HU := Lib.hid hu
          go_upto_region 10 with (first | (go_at_call 41; refine (iItoa_any ((c : Int)) (HC1.out).1 (HC1.out).2 _ (TBK.out _ HBEL.out)).mono ?_; rintro e w6 ⟨rfl, hb6⟩) | (go_at_call 31; refine (bTextK n2 n2 (bdC M c) (cpuB1 c) _ (cpu1_str c) _ (bu_below HBU5.out hb6) (by have := HXL.out; omega) (by have := HC1.out; have := itoa_len this; simp only [cpuB1, List.length_append, List.length_cons, List.length_nil]; omega) (by have := hb6.size; omega)).mono ?_; rintro e w7 ⟨rfl, hB7, hb7, hk7⟩; have KZ7 := Lib.hid (hk7 _ _ _ hne (by decide) (KZ.out.below hb6 KZ.out.lt)); have e0 := KZ7.out.cell 0; simp [HU.out] at e0))
          have hw7 : Below n2 w2 w7 := (HBEL.out.trans (hb6.mono hsz5)).trans hb7
          have HX7 := Lib.hid (show (bdC M c ++ cpuB1 c).length ≤ 2000 by have := HXL.out; have := itoa_len HC1.out; simp only [cpuB1, List.length_append, List.length_cons, List.length_nil]; omega)
          clear hb6 hk7 hb7
          go_upto_region 11 with (fail)
          have hw8 := hw7
          have KZ8 := Lib.hid KZ7.out
          have HB8 := Lib.hid (show Lib.IsBuilder 65 5 n2 n2 (Lib.byteCells (bdC M c ++ cpuB1 c ++ cpuB2 M c)) w7 by rw [cpuB2, if_pos HU.out, List.append_nil]; exact hB7)
          clear hB7 KZ7 hw7
          obtain ⟨w8, rfl⟩ : ∃ w8, w8 = w7 := ⟨_, rfl⟩
          have HX8 := Lib.hid (show (bdC M c ++ cpuB1 c ++ cpuB2 M c).length ≤ 3000 by have := HX7.out; have h4 : (cpuB2 M c).length ≤ 4 := (by unfold cpuB2; split <;> simp); rw [List.length_append]; omega)
          have HS8 := Lib.hid (SZK.out _ hw8)
          have e3 := KZ8.out.cell 3
          have e4 := KZ8.out.cell 4
          simp at e3 e4
          have E3 := fun d os => cell_regrown e3 d os
          have E4 := fun d os => cell_regrown e4 d os
          have CS := Lib.hid (cpu3_str M c)
          have C3L := Lib.hid (show (cpuB3 M c).length ≤ 200 by have := itoa_len HC2.out; have := itoa_len HC3.out; simp only [cpuB3, List.length_append, List.length_cons, List.length_nil]; omega)
          have CB := Lib.hid (show bdC M c ++ cpuB1 c ++ cpuB2 M c ++ cpuB3 M c = bdC M (c + 1) by rw [bdC_succ, cpuBd]; simp)
          have hw8' := Lib.hid hw8
          have bd : Below w8.heap.size w8 w8.drew := ⟨rfl, rfl, rfl, Nat.le_refl _, fun _ _ => rfl⟩
          generalize (cpo M c).busy = vb at *
          generalize (cpo M c).idle = vi at *
          clear e0 e3 e4 HBU5 KZ8 KZ hw8
          refine region_V 10 [0, 0, 0, 0, 1, 0, 0, 1, 0, 0, 2] [0, 1, 5, 6, 2, 3, 4, 7, 8, 9, 10] (by kernel_rfl) (by kernel_rfl) (by kernel_rfl) (by kernel_rfl) (by decide) rfl (by kernel_rfl) (by kernel_rfl) ?_
          simp only [permL, List.getElem?_cons_zero, List.getElem?_cons_succ, Option.toList_some, List.cons_append, List.nil_append]
          repeat (first | (refine wpS_skip (by rfl) ?_; simp only [Act.put, List.setIfInBounds_toArray, List.set_cons_zero, List.set_cons_succ]) | (refine wpS_det (by rfl) (fun K hK => ?_); go_big_quiet_op; refine hK _ ?_; clear hK K))
          refine wpS_bar (by rfl) (fun K hK => ?_)
          go_big_op
          go_at_call 41
          refine (iItoa_any vb HC2.out.1 HC2.out.2 _ (TBK.out _ (hw8'.out.trans (bd.mono HS8.out)))).mono ?_
          rintro e w9 ⟨rfl, hb9⟩
          refine hK _ _ (regrown_of_below (bd.andThen hb9)) ?_
          clear hK K
          repeat (first | (refine wpS_skip (by rfl) ?_; simp only [Act.put, List.setIfInBounds_toArray, List.set_cons_zero, List.set_cons_succ]) | (refine wpS_det (by rfl) (fun K hK => ?_); go_big_quiet_op; refine hK _ ?_; clear hK K))
          refine wpS_bar (by rfl) (fun K hK => ?_)
          go_big_op
          go_at_call 41
          refine (iItoa_any vi HC3.out.1 HC3.out.2 _ (TBK.out _ (hw8'.out.trans ((bd.andThen hb9).mono HS8.out)))).mono ?_
          rintro e wA ⟨rfl, hbA⟩
          refine hK _ _ (regrown_of_below ((bd.andThen hb9).andThen hbA)) ?_
          clear hK K
          repeat (first | (refine wpS_skip (by rfl) ?_; simp only [Act.put, List.setIfInBounds_toArray, List.set_cons_zero, List.set_cons_succ]) | (refine wpS_det (by rfl) (fun K hK => ?_); go_big_quiet_op; refine hK _ ?_; clear hK K))
          refine wpS_end (by rfl) (fun K hK => ?_)
          go_big_op
          go_at_call 31
          refine (bTextK n2 n2 (bdC M c ++ cpuB1 c ++ cpuB2 M c) (cpuB3 M c) _ CS.out _ (bu_below HB8.out ((bd.andThen hb9).andThen hbA)) (by have := HX8.out; omega) (by have := C3L.out; omega) (by have := ((bd.andThen hb9).andThen hbA).size; have := HS8.out; omega)).mono ?_
          rintro e wB ⟨rfl, hBB, hbB, _⟩
          refine hK _ _ ?_
          clear hK K
          refine wpS_nil ?_
          rw [CB.out] at hBB
          have hwB : Below n2 w2 wB := (hw8'.out.trans (((bd.andThen hb9).andThen hbA).mono HS8.out)).trans hbB
          clear hb9 hbA hbB bd l1 l2 l3 E3 E4
          go_wp2
          go_roundw
          case rel => exact ⟨c + 1, by omega, by go_num, hBB, hwB, bu_lt hBB⟩
          case measure => simp [intOf]; omega
        | false =>
          have HU := Lib.hid hu
          go_upto_region 10 with (first | (go_at_call 41; refine (iItoa_any ((c : Int)) (HC1.out).1 (HC1.out).2 _ (TBK.out _ HBEL.out)).mono ?_; rintro e w6 ⟨rfl, hb6⟩) | (go_at_call 31; refine (bTextK n2 n2 (bdC M c) (cpuB1 c) _ (cpu1_str c) _ (bu_below HBU5.out hb6) (by have := HXL.out; omega) (by have := HC1.out; have := itoa_len this; simp only [cpuB1, List.length_append, List.length_cons, List.length_nil]; omega) (by have := hb6.size; omega)).mono ?_; rintro e w7 ⟨rfl, hB7, hb7, hk7⟩; have KZ7 := Lib.hid (hk7 _ _ _ hne (by decide) (KZ.out.below hb6 KZ.out.lt)); have e0 := KZ7.out.cell 0; simp [HU.out] at e0))
          have hw7 : Below n2 w2 w7 := (HBEL.out.trans (hb6.mono hsz5)).trans hb7
          have HX7 := Lib.hid (show (bdC M c ++ cpuB1 c).length ≤ 2000 by have := HXL.out; have := itoa_len HC1.out; simp only [cpuB1, List.length_append, List.length_cons, List.length_nil]; omega)
          clear hb6 hk7 hb7
          have HB7 := Lib.hid hB7
          clear hB7
          go_upto_region 11 with (go_at_call 31; refine (bTextK n2 n2 (bdC M c ++ cpuB1 c) ([32, 111, 102, 102]) _ rfl _ HB7.out (by have := HX7.out; omega) (by decide) (SZK.out _ hw7)).mono ?_; rintro e w8 ⟨rfl, hB8, hb8, hk8⟩)
          have hw8 : Below n2 w2 w8 := hw7.trans hb8
          have KZ8 := Lib.hid (hk8 _ _ _ hne (by decide) KZ7.out)
          have HB8 := Lib.hid (show Lib.IsBuilder 65 5 n2 n2 (Lib.byteCells (bdC M c ++ cpuB1 c ++ cpuB2 M c)) w8 by rw [cpuB2, if_neg (by rw [HU.out]; simp)]; exact hB8)
          clear hB8 hk8 hb8 KZ7 hw7
          have HX8 := Lib.hid (show (bdC M c ++ cpuB1 c ++ cpuB2 M c).length ≤ 3000 by have := HX7.out; have h4 : (cpuB2 M c).length ≤ 4 := (by unfold cpuB2; split <;> simp); rw [List.length_append]; omega)
          have HS8 := Lib.hid (SZK.out _ hw8)
          have e3 := KZ8.out.cell 3
          have e4 := KZ8.out.cell 4
          simp at e3 e4
          have E3 := fun d os => cell_regrown e3 d os
          have E4 := fun d os => cell_regrown e4 d os
          have CS := Lib.hid (cpu3_str M c)
          have C3L := Lib.hid (show (cpuB3 M c).length ≤ 200 by have := itoa_len HC2.out; have := itoa_len HC3.out; simp only [cpuB3, List.length_append, List.length_cons, List.length_nil]; omega)
          have CB := Lib.hid (show bdC M c ++ cpuB1 c ++ cpuB2 M c ++ cpuB3 M c = bdC M (c + 1) by rw [bdC_succ, cpuBd]; simp)
          have hw8' := Lib.hid hw8
          have bd : Below w8.heap.size w8 w8.drew := ⟨rfl, rfl, rfl, Nat.le_refl _, fun _ _ => rfl⟩
          generalize (cpo M c).busy = vb at *
          generalize (cpo M c).idle = vi at *
          clear e0 e3 e4 HBU5 KZ8 KZ hw8
          refine region_V 10 [0, 0, 0, 0, 1, 0, 0, 1, 0, 0, 2] [0, 1, 5, 6, 2, 3, 4, 7, 8, 9, 10] (by kernel_rfl) (by kernel_rfl) (by kernel_rfl) (by kernel_rfl) (by decide) rfl (by kernel_rfl) (by kernel_rfl) ?_
          simp only [permL, List.getElem?_cons_zero, List.getElem?_cons_succ, Option.toList_some, List.cons_append, List.nil_append]
          repeat (first | (refine wpS_skip (by rfl) ?_; simp only [Act.put, List.setIfInBounds_toArray, List.set_cons_zero, List.set_cons_succ]) | (refine wpS_det (by rfl) (fun K hK => ?_); go_big_quiet_op; refine hK _ ?_; clear hK K))
          refine wpS_bar (by rfl) (fun K hK => ?_)
          go_big_op
          go_at_call 41
          refine (iItoa_any vb HC2.out.1 HC2.out.2 _ (TBK.out _ (hw8'.out.trans (bd.mono HS8.out)))).mono ?_
          rintro e w9 ⟨rfl, hb9⟩
          refine hK _ _ (regrown_of_below (bd.andThen hb9)) ?_
          clear hK K
          repeat (first | (refine wpS_skip (by rfl) ?_; simp only [Act.put, List.setIfInBounds_toArray, List.set_cons_zero, List.set_cons_succ]) | (refine wpS_det (by rfl) (fun K hK => ?_); go_big_quiet_op; refine hK _ ?_; clear hK K))
          refine wpS_bar (by rfl) (fun K hK => ?_)
          go_big_op
          go_at_call 41
          refine (iItoa_any vi HC3.out.1 HC3.out.2 _ (TBK.out _ (hw8'.out.trans ((bd.andThen hb9).mono HS8.out)))).mono ?_
          rintro e wA ⟨rfl, hbA⟩
          refine hK _ _ (regrown_of_below ((bd.andThen hb9).andThen hbA)) ?_
          clear hK K
          repeat (first | (refine wpS_skip (by rfl) ?_; simp only [Act.put, List.setIfInBounds_toArray, List.set_cons_zero, List.set_cons_succ]) | (refine wpS_det (by rfl) (fun K hK => ?_); go_big_quiet_op; refine hK _ ?_; clear hK K))
          refine wpS_end (by rfl) (fun K hK => ?_)
          go_big_op
          go_at_call 31
          refine (bTextK n2 n2 (bdC M c ++ cpuB1 c ++ cpuB2 M c) (cpuB3 M c) _ CS.out _ (bu_below HB8.out ((bd.andThen hb9).andThen hbA)) (by have := HX8.out; omega) (by have := C3L.out; omega) (by have := ((bd.andThen hb9).andThen hbA).size; have := HS8.out; omega)).mono ?_
          rintro e wB ⟨rfl, hBB, hbB, _⟩
          refine hK _ _ ?_
          clear hK K
          refine wpS_nil ?_
          rw [CB.out] at hBB
          have hwB : Below n2 w2 wB := (hw8'.out.trans (((bd.andThen hb9).andThen hbA).mono HS8.out)).trans hbB
          clear hb9 hbA hbB bd l1 l2 l3 E3 E4
          go_wp2
          go_roundw
          case rel => exact ⟨c + 1, by omega, by go_num, hBB, hwB, bu_lt hBB⟩
          case measure => simp [intOf]; omega
      · have HE := Lib.hid (show bdC M c = bdT M 0 by rw [show c = M.cpus.length by omega]; simp [bdT, catB])
        have hge : (M.cpus.length : Int) ≤ (c : Int) := by omega
        have hdec : decide (c < M.cpus.length) = false := decide_eq_false (by omega)
        have HBU2 := Lib.hid (show Lib.IsBuilder 65 5 n2 n2 (Lib.byteCells (bdT M 0)) wr by rw [← HE.out]; exact HBU.out)
        have HBW := Lib.hid hb
        have HL2 := Lib.hid hlt2
        clear hlt hc HBU hlt2
        go_wp2
        clear hge hdec
        go_loopw [48] (fun i wr => ∃ t : Nat, t ≤ M.tasks.length ∧ i = .int .i64 t ∧ Lib.IsBuilder 65 5 n2 n2 (Lib.byteCells (bdT M t)) wr ∧ Below n2 w2 wr ∧ n2 < wr.heap.size) (fun i _ => M.tasks.length - (intOf i).toNat)
        case atStart => exact ⟨0, by omega, rfl, HBU2.out, HBW.out, HL2.out⟩
        case round =>
          obtain ⟨t, ht, rfl, hBu, hb, hlt2⟩ := hrel
          have HBU := Lib.hid hBu
          clear hBu HBU2 HBW HL2
          have pw5 := PWK.out _ hb
          clear q0 q1 q2 q3 q4 q5
          obtain ⟨q0, q1, q2, q3, q4, q5⟩ := pw5
          have HXL2 := Lib.hid (bdT_len HFA.out HNO.out ht)
          by_cases hlt : t < M.tasks.length
          · obtain ⟨b, o, rfl, hB, c0, c1, c2, c3, c4, c5, c6, c7, c8⟩ := q5.task_ hlt
            have hc0 : (0 : Int) ≤ (t : Int) := by omega
            have hc1 : (t : Int) < (M.tasks.length : Int) := by omega
            have hc9 : (t : Int) < 13 := by have := HFA.out.t12; omega
            go_upto_region 16 with (fail)
            refine gen1 (p := fun W => Code.wp _ _ _ _ W) ?_
            intro W5 b5 s5 kz
            have z0 := kz.cell 0
            have z1 := kz.cell 1
            have z2 := kz.cell 2
            have z3 := kz.cell 3
            have z6 := kz.cell 6
            simp at z0 z1 z2 z3 z6
            have HBEL := Lib.hid (hb.trans (b5.mono (SZK.out _ hb)))
            have HBU5 := Lib.hid (bu_below HBU.out b5)
            have hsz5 := SZK.out _ HBEL.out
            clear kz s5 c0 c1 c2 c3 c4 c5 c6 c7 c8 q0 q1 q2 q3 q4 q5 b5 hb HBU hlt2
            by_cases hst : (tsk M t).st = 0
            · have hz : ((tsk M t).st == 0) = true := by simp [hst]
              have HC := Lib.hid (bdT_f hst)
              have HB9 := Lib.hid (show n2 < W5.heap.size from bu_lt HBU5.out)
              clear hst
              go_wp2
              go_roundw
              case rel => exact ⟨t + 1, by omega, by go_num, by rw [HC.out]; exact HBU5.out, HBEL.out, HB9.out⟩
              case measure => simp [intOf]; omega
            · have hz : ((tsk M t).st == 0) = false := by simp [hst]
              have HC := Lib.hid (bdT_t hst)
              have HY := Lib.hid (taskB'_len HFA.out HNO.out hlt hst)
              have hc9n : t < 12 := by have := HFA.out.t12; omega
              obtain ⟨g, c, hgr, hg8, hgu, hcu, hcl⟩ := HFA.out.tk t hc9n hst
              have HGU := Lib.hid hgu
              have HGR := Lib.hid hgr
              have HCU := Lib.hid hcu
              have F := HNO.out.tskF t hlt hst
              have HFt := Lib.hid (fit_mem F (n := (t : Int)) (by simp))
              have HFc := Lib.hid (fit_mem F (n := (tsk M t).cpu) (by simp))
              have HFn := Lib.hid (fit_mem F (n := (tsk M t).nice) (by simp))
              have HFs := Lib.hid (fit_mem F (n := (tsk M t).sum) (by simp))
              have HP := Lib.hid (pathB_len HFA.out.tree HNO.out hg8 hgu)
              have l1 : ((Lib.itoa (t : Int)).length : Int) ≤ 21 := by have := itoa_len HFt.out; omega
              have l2 : ((Lib.itoa (tsk M t).cpu).length : Int) ≤ 21 := by have := itoa_len HFc.out; omega
              have l3 : ((Lib.itoa (tsk M t).nice).length : Int) ≤ 21 := by have := itoa_len HFn.out; omega
              have l4 : ((Lib.itoa (tsk M t).sum).length : Int) ≤ 21 := by have := itoa_len HFs.out; omega
              have l5 : ((pathB M g).length : Int) ≤ 40 := by have := HP.out; omega
              have l6 : ((wordB M t).length : Int) ≤ 6 := by have := wordB_len M t; omega
              have HTH := Lib.hid (show [116, 97, 115, 107, 32] ++ Lib.itoa t ++ [32, 105, 110, 32] ++ pathB M g ++ [32, 111, 110, 32] ++ Lib.itoa (tsk M t).cpu ++ [32, 110, 105, 99, 101, 32] ++ Lib.itoa (tsk M t).nice ++ [32, 115, 117, 109, 32] ++ Lib.itoa (tsk M t).sum = taskH M t by rw [taskH, hgr, Int.toNat_natCast])
              have HWC := Lib.hid (fun X (h : Below n2 w2 X) => iWord_any w.heap.size _ cc _ tc _ gc gh M X (PWK.out X h) HFA.out t hlt hst)
              have HTP := Lib.hid (fun X (h : Below n2 w2 X) => iTreePath_any _ _ _ gc gh M X (PWK.out X h).wa HFA.out.tree HTB.out HNO.out HF.out.group HF.out.name g hg8 hgu)
              rw [HGR.out] at z1
              have pw6 := PWK.out _ HBEL.out
              obtain ⟨q0, q1, q2, q3, q4, q5⟩ := pw6
              have Q4 := fun d os => cell_regrown q4 d os
              have Z1 := fun d os => cell_regrown z1 d os
              have Z2 := fun d os => cell_regrown z2 d os
              have Z3 := fun d os => cell_regrown z3 d os
              have Z6 := fun d os => cell_regrown z6 d os
              clear F hgr hgu hcu hst q1 q2 q3 q5
              generalize (tsk M t).cpu = vc at *
              generalize (tsk M t).nice = vn at *
              generalize (tsk M t).sum = vs at *
              have bd : Below W5.heap.size W5 W5.drew := ⟨rfl, rfl, rfl, Nat.le_refl _, fun _ _ => rfl⟩
              have LS := Lib.hid (line_str (M := M) (t := t) (task_str _ _ _ _ _) HTH.out)
              go_upto_region 17 with (fail)
              refine region_V 29 [0, 0, 0, 0, 0, 0, 0, 0, 0, 0, 0, 0, 1, 0, 0, 1, 0, 0, 1, 0, 0, 1, 0, 0, 1, 0, 1, 0, 0, 2] [0, 4, 5, 6, 7, 11, 12, 16, 17, 21, 22, 25, 1, 2, 3, 8, 9, 10, 13, 14, 15, 18, 19, 20, 23, 24, 26, 27, 28, 29] (by kernel_rfl) (by kernel_rfl) (by kernel_rfl) (by kernel_rfl) (by decide) rfl (by kernel_rfl) (by kernel_rfl) ?_
              simp only [permL, List.getElem?_cons_zero, List.getElem?_cons_succ, Option.toList_some, List.cons_append, List.nil_append]
              repeat (first | (refine wpS_skip (by rfl) ?_; simp only [Act.put, List.setIfInBounds_toArray, List.set_cons_zero, List.set_cons_succ]) | (refine wpS_det (by rfl) (fun K hK => ?_); go_big_quiet_op; refine hK _ ?_; clear hK K))
              refine wpS_bar (by rfl) (fun K hK => ?_)
              go_big_op
              go_at_call 41
              refine (iItoa_any (t : Int) HFt.out.1 HFt.out.2 _ (TBK.out _ (HBEL.out.trans (bd.mono hsz5)))).mono ?_
              rintro e y0 ⟨rfl, hc_0⟩
              refine hK _ _ (regrown_of_below (bd.andThen hc_0)) ?_
              clear hK K
              repeat (first | (refine wpS_skip (by rfl) ?_; simp only [Act.put, List.setIfInBounds_toArray, List.set_cons_zero, List.set_cons_succ]) | (refine wpS_det (by rfl) (fun K hK => ?_); go_big_quiet_op; refine hK _ ?_; clear hK K))
              refine wpS_bar (by rfl) (fun K hK => ?_)
              go_big_op
              go_at_call 42
              refine (HTP.out _ (HBEL.out.trans ((bd.andThen hc_0).mono hsz5))).mono ?_
              rintro e y1 ⟨rfl, hc_1⟩
              refine hK _ _ (regrown_of_below ((bd.andThen hc_0).andThen hc_1)) ?_
              clear hK K
              repeat (first | (refine wpS_skip (by rfl) ?_; simp only [Act.put, List.setIfInBounds_toArray, List.set_cons_zero, List.set_cons_succ]) | (refine wpS_det (by rfl) (fun K hK => ?_); go_big_quiet_op; refine hK _ ?_; clear hK K))
              refine wpS_bar (by rfl) (fun K hK => ?_)
              go_big_op
              go_at_call 41
              refine (iItoa_any vc HFc.out.1 HFc.out.2 _ (TBK.out _ (HBEL.out.trans (((bd.andThen hc_0).andThen hc_1).mono hsz5)))).mono ?_
              rintro e y2 ⟨rfl, hc_2⟩
              refine hK _ _ (regrown_of_below (((bd.andThen hc_0).andThen hc_1).andThen hc_2)) ?_
              clear hK K
              repeat (first | (refine wpS_skip (by rfl) ?_; simp only [Act.put, List.setIfInBounds_toArray, List.set_cons_zero, List.set_cons_succ]) | (refine wpS_det (by rfl) (fun K hK => ?_); go_big_quiet_op; refine hK _ ?_; clear hK K))
              refine wpS_bar (by rfl) (fun K hK => ?_)
              go_big_op
              go_at_call 41
              refine (iItoa_any vn HFn.out.1 HFn.out.2 _ (TBK.out _ (HBEL.out.trans ((((bd.andThen hc_0).andThen hc_1).andThen hc_2).mono hsz5)))).mono ?_
              rintro e y3 ⟨rfl, hc_3⟩
              refine hK _ _ (regrown_of_below ((((bd.andThen hc_0).andThen hc_1).andThen hc_2).andThen hc_3)) ?_
              clear hK K
              repeat (first | (refine wpS_skip (by rfl) ?_; simp only [Act.put, List.setIfInBounds_toArray, List.set_cons_zero, List.set_cons_succ]) | (refine wpS_det (by rfl) (fun K hK => ?_); go_big_quiet_op; refine hK _ ?_; clear hK K))
              refine wpS_bar (by rfl) (fun K hK => ?_)
              go_big_op
              go_at_call 41
              refine (iItoa_any vs HFs.out.1 HFs.out.2 _ (TBK.out _ (HBEL.out.trans (((((bd.andThen hc_0).andThen hc_1).andThen hc_2).andThen hc_3).mono hsz5)))).mono ?_
              rintro e y4 ⟨rfl, hc_4⟩
              refine hK _ _ (regrown_of_below (((((bd.andThen hc_0).andThen hc_1).andThen hc_2).andThen hc_3).andThen hc_4)) ?_
              clear hK K
              repeat (first | (refine wpS_skip (by rfl) ?_; simp only [Act.put, List.setIfInBounds_toArray, List.set_cons_zero, List.set_cons_succ]) | (refine wpS_det (by rfl) (fun K hK => ?_); go_big_quiet_op; refine hK _ ?_; clear hK K))
              refine wpS_bar (by rfl) (fun K hK => ?_)
              go_big_op
              go_at_call 43
              refine (HWC.out _ (HBEL.out.trans ((((((bd.andThen hc_0).andThen hc_1).andThen hc_2).andThen hc_3).andThen hc_4).mono hsz5))).mono ?_
              rintro e y5 ⟨rfl, hc_5⟩
              refine hK _ _ (regrown_of_below ((((((bd.andThen hc_0).andThen hc_1).andThen hc_2).andThen hc_3).andThen hc_4).andThen hc_5)) ?_
              clear hK K
              repeat (first | (refine wpS_skip (by rfl) ?_; simp only [Act.put, List.setIfInBounds_toArray, List.set_cons_zero, List.set_cons_succ]) | (refine wpS_det (by rfl) (fun K hK => ?_); go_big_quiet_op; refine hK _ ?_; clear hK K))
              refine wpS_end (by rfl) (fun K hK => ?_)
              go_big_op
              go_at_call 31
              refine (bTextK n2 n2 (bdT M t) (taskB' M t) _ LS.out _ (bu_below HBU5.out ((((((bd.andThen hc_0).andThen hc_1).andThen hc_2).andThen hc_3).andThen hc_4).andThen hc_5)) (by have := HXL2.out; omega) (by have := HY.out; omega) (by have := ((((((bd.andThen hc_0).andThen hc_1).andThen hc_2).andThen hc_3).andThen hc_4).andThen hc_5).size; omega)).mono ?_
              rintro e wB ⟨rfl, hBB, hbB, _⟩
              refine hK _ _ ?_
              clear hK K
              refine wpS_nil ?_
              rw [← HC.out] at hBB
              have hwB : Below n2 w2 wB := (HBEL.out.trans (((((((bd.andThen hc_0).andThen hc_1).andThen hc_2).andThen hc_3).andThen hc_4).andThen hc_5).mono hsz5)).trans hbB
              clear hc_0 hc_1 hc_2 hc_3 hc_4 hc_5 hbB bd l1 l2 l3 l4 l5 l6 Q4 Z1 Z2 Z3 Z6 z0 z1 z2 z3 z6
              go_wp2
              go_roundw
              case rel => exact ⟨t + 1, by omega, by go_num, hBB, hwB, bu_lt hBB⟩
              case measure => simp [intOf]; omega
          · have HE3 := Lib.hid (show bdT M t = boardM M by rw [TM.out, ← bd_body, show t = M.tasks.length by omega])
            have hge2 : (M.tasks.length : Int) ≤ (t : Int) := by omega
            have HBU3 := Lib.hid (show Lib.IsBuilder 65 5 n2 n2 (Lib.byteCells (boardM M)) wr by rw [← HE3.out]; exact HBU.out)
            have hsz := SZK.out _ hb
            clear hlt
            go_wp2_with (go_at_call 35; refine (Tryz.Builder_String_any n2 n2 (boardM M) _ HBU3.out hsz).mono ?_; rintro e w8 ⟨rfl, hb8⟩)
            go_ret
            exact ⟨rfl, bel2.out.andThen (show Below w2.heap.size w2 w8 by rw [HN2.out]; exact hb.trans hb8)⟩
  · have F1 := Lib.hid (show worldB M = false by simpa only [Bool.not_eq_true] using f1)
    clear f1
    have TM := Lib.hid (show (⟨#[]⟩ : ByteArray) = strB (boardM M) by rw [boardM, if_neg (by rw [F1.out]; simp)]; rfl)
    go_wp2_with (go_at_call 30; refine (iWorldOk_any ca cc ta tc ga gc gh M _ q5 hF HX.out).mono ?_; rintro e w2 ⟨rfl, hb2⟩; rw [F1.out]; have r1 := (hb2.cell (p := ⟨w.heap.size, 0, none⟩) q0).trans q1; have r2 := (hb2.cell (p := ⟨w.heap.size, 1, none⟩) q0).trans q2; have r3 := (hb2.cell (p := ⟨w.heap.size, 2, none⟩) q0).trans q3; have r4 := (hb2.cell (p := ⟨w.heap.size, 3, none⟩) q0).trans q4; have r0 := Nat.lt_of_lt_of_le q0 hb2.size)
    go_ret
    exact ⟨ret_str TM.out, b1.andThen hb2⟩
end Go.Proofs.YtknfpigaognklaaGreatDoor
