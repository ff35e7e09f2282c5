/- A part of the proof. -/
import Derived.Test.YtomllcclallcdaaGreatDoorWr1
import Derived.Test.YtomllcclallcdaaGreatDoorWr11
namespace Go.Proofs.YtomllcclallcdaaGreatDoor
section
open Go.RowKit Go.Sort
def IPost (bt bg kb : Nat) (ca : Option Addr) (tc gc : Nat) (gh : Nat → GH) (X : WorldM) (B : Nat) (o : Option WorldM) (w : World) (e : Ending) (w' : World) : Prop :=
  Keep (fun g => Has ca (some ⟨bt, 0, none⟩) (some ⟨bg, 0, none⟩) gh X.groups.length g ∨ g = kb) w w' ∧ match o with
  | some X' => e = .returned (.bool true) ∧ ∃ (ca' : Option Addr) (cc' : Nat) (gh' : Nat → GH), Blk w' kb 26 #[.int .i64 X'.now, .slice ca' X'.cpus.length cc', .slice (some ⟨bt, 0, none⟩) X'.tasks.length tc, .slice (some ⟨bg, 0, none⟩) X'.groups.length gc] ∧
      OwnR w' B ca' cc' (some ⟨bt, 0, none⟩) (some ⟨bg, 0, none⟩) gh' X' ∧ ∀ g, Has ca' (some ⟨bt, 0, none⟩) (some ⟨bg, 0, none⟩) gh' X'.groups.length g → Has ca (some ⟨bt, 0, none⟩) (some ⟨bg, 0, none⟩) gh X.groups.length g ∨ w.heap.size ≤ g
  | none => e = .returned (.bool false)
set_option maxRecDepth 100000 in
set_option maxHeartbeats 4000000 in
theorem iNow_no (bt bg kb : Nat) (ca : Option Addr) (cc tc gc : Nat) (gh : Nat → GH) (X : WorldM) (B N : Nat) (w : World) (h : OwnR w B ca cc (some ⟨bt, 0, none⟩) (some ⟨bg, 0, none⟩) gh X) (hf : RFit X) (hk : Blk w kb 26 #[.int .i64 X.now, .slice ca X.cpus.length cc, .slice (some ⟨bt, 0, none⟩) X.tasks.length tc, .slice (some ⟨bg, 0, none⟩) X.groups.length gc]) (hH : ∀ i, Has ca (some ⟨bt, 0, none⟩) (some ⟨bg, 0, none⟩) gh X.groups.length i → i < N ∧ i ≠ kb) (hN : kb < N ∧ N ≤ w.heap.size) (hB : B ≤ w.heap.size) (A : Option Addr) (c : Nat) (l : List Int) (hI : IntR w N A l) (hl : l.length ≤ 20001) (hn : l.length ≠ 1) :
    Calls Tryz.prog 69 #[.pointer (some ⟨kb, 0, none⟩), .slice A l.length c] w (IPost bt bg kb ca tc gc gh X B none w) := by
  have ne : ((l.length : Int) != 1) = true := by simp only [bne_iff_ne]; omega
  have HH := Lib.hid hH
  have HN := Lib.hid hN
  have OW := Lib.hid h
  have K0 := Lib.hid hk
  have HI := Lib.hid hI
  have HF := Lib.hid hf
  have HG8 := Lib.hid hf.gl
  have HT12 := Lib.hid hf.task
  have hc4 := hf.cpu
  have hc0 : (X.cpus.length : Int) ≤ 4 := by omega
  have HB := Lib.hid hB
  clear h hf hk hH hN hI hB
  go_enter Tryz.func69, Tryz.ntmps69
  go_wp2
  go_ret
  exact ⟨Keep.refl _ _, rfl⟩
set_option maxRecDepth 100000 in
set_option maxHeartbeats 4000000 in
theorem iNow_yes (bt bg kb : Nat) (ca : Option Addr) (cc tc gc : Nat) (gh : Nat → GH) (X : WorldM) (B N : Nat) (w : World) (h : OwnR w B ca cc (some ⟨bt, 0, none⟩) (some ⟨bg, 0, none⟩) gh X) (hf : RFit X) (hk : Blk w kb 26 #[.int .i64 X.now, .slice ca X.cpus.length cc, .slice (some ⟨bt, 0, none⟩) X.tasks.length tc, .slice (some ⟨bg, 0, none⟩) X.groups.length gc]) (hH : ∀ i, Has ca (some ⟨bt, 0, none⟩) (some ⟨bg, 0, none⟩) gh X.groups.length i → i < N ∧ i ≠ kb) (hN : kb < N ∧ N ≤ w.heap.size) (hB : B ≤ w.heap.size) (A : Option Addr) (c : Nat) (l : List Int) (hI : IntR w N A l) (hl : l.length ≤ 20001) (hn : l.length = 1) :
    Calls Tryz.prog 69 #[.pointer (some ⟨kb, 0, none⟩), .slice A l.length c] w (IPost bt bg kb ca tc gc gh X B (some { X with now := gI l 0 }) w) := by
  have ne : ((l.length : Int) != 1) = false := by rw [hn]; rfl
  have HLN := Lib.hid hn
  have hl1 : 0 < l.length := by omega
  clear hn
  have HH := Lib.hid hH
  have HN := Lib.hid hN
  have OW := Lib.hid h
  have K0 := Lib.hid hk
  have HI := Lib.hid hI
  have HF := Lib.hid hf
  have HG8 := Lib.hid hf.gl
  have HT12 := Lib.hid hf.task
  have hc4 := hf.cpu
  have hc0 : (X.cpus.length : Int) ≤ 4 := by omega
  have HB := Lib.hid hB
  clear h hf hk hH hN hI hB
  go_enter Tryz.func69, Tryz.ntmps69
  obtain ⟨gI0, rfl, hgi, hgB, n0⟩ := int_at HI.out (i := 0) hl1
  have c0 := K0.out.cell 0
  have c1 := K0.out.cell 1
  have c2 := K0.out.cell 2
  have c3 := K0.out.cell 3
  have cf := fun i => K0.out.frozen i
  simp at c0 c1 c2 c3
  go_wp2
  go_ret
  have kk := (show Keep (fun j => j = kb) w (w.setCell ⟨kb, 0, none⟩ (.int .i64 (gI l 0))) from Keep.set _ _ _ rfl)
  refine ⟨kk.mono fun j _ e => .inr e, rfl, ca, cc, gh, K0.out.set_ 0 _, (OW.out.keep kk fun i hi e => (HH.out i hi).2 e).now _, fun i hi => .inl hi⟩
set_option maxRecDepth 100000 in
set_option maxHeartbeats 4000000 in
theorem iCpu_no (bt bg kb : Nat) (ca : Option Addr) (cc tc gc : Nat) (gh : Nat → GH) (X : WorldM) (B N : Nat) (w : World) (h : OwnR w B ca cc (some ⟨bt, 0, none⟩) (some ⟨bg, 0, none⟩) gh X) (hf : RFit X) (hk : Blk w kb 26 #[.int .i64 X.now, .slice ca X.cpus.length cc, .slice (some ⟨bt, 0, none⟩) X.tasks.length tc, .slice (some ⟨bg, 0, none⟩) X.groups.length gc]) (hH : ∀ i, Has ca (some ⟨bt, 0, none⟩) (some ⟨bg, 0, none⟩) gh X.groups.length i → i < N ∧ i ≠ kb) (hN : kb < N ∧ N ≤ w.heap.size) (hB : B ≤ w.heap.size) (A : Option Addr) (c : Nat) (l : List Int) (hI : IntR w N A l) (hl : l.length ≤ 20001) (hn : l.length ≠ 5) :
    Calls Tryz.prog 70 #[.pointer (some ⟨kb, 0, none⟩), .slice A l.length c] w (IPost bt bg kb ca tc gc gh X B none w) := by
  have ne : ((l.length : Int) != 5) = true := by simp only [bne_iff_ne]; omega
  have HH := Lib.hid hH
  have HN := Lib.hid hN
  have OW := Lib.hid h
  have K0 := Lib.hid hk
  have HI := Lib.hid hI
  have HF := Lib.hid hf
  have HG8 := Lib.hid hf.gl
  have HT12 := Lib.hid hf.task
  have hc4 := hf.cpu
  have hc0 : (X.cpus.length : Int) ≤ 4 := by omega
  have HB := Lib.hid hB
  clear h hf hk hH hN hI hB
  go_enter Tryz.func70, Tryz.ntmps70
  go_wp2
  go_ret
  exact ⟨Keep.refl _ _, rfl⟩
set_option maxRecDepth 100000 in
set_option maxHeartbeats 4000000 in
theorem iCpu_full (bt bg kb : Nat) (ca : Option Addr) (cc tc gc : Nat) (gh : Nat → GH) (X : WorldM) (B N : Nat) (w : World) (h : OwnR w B ca cc (some ⟨bt, 0, none⟩) (some ⟨bg, 0, none⟩) gh X) (hf : RFit X) (hk : Blk w kb 26 #[.int .i64 X.now, .slice ca X.cpus.length cc, .slice (some ⟨bt, 0, none⟩) X.tasks.length tc, .slice (some ⟨bg, 0, none⟩) X.groups.length gc]) (hH : ∀ i, Has ca (some ⟨bt, 0, none⟩) (some ⟨bg, 0, none⟩) gh X.groups.length i → i < N ∧ i ≠ kb) (hN : kb < N ∧ N ≤ w.heap.size) (hB : B ≤ w.heap.size) (A : Option Addr) (c : Nat) (l : List Int) (hI : IntR w N A l) (hl : l.length ≤ 20001) (hn : l.length = 5) (h4 : X.cpus.length = 4) :
    Calls Tryz.prog 70 #[.pointer (some ⟨kb, 0, none⟩), .slice A l.length c] w (IPost bt bg kb ca tc gc gh X B none w) := by
  have ne : ((l.length : Int) != 5) = false := by rw [hn]; rfl
  have h4' : ((X.cpus.length : Int) == 4) = true := by rw [h4]; rfl
  clear h4 hn
  have HH := Lib.hid hH
  have HN := Lib.hid hN
  have OW := Lib.hid h
  have K0 := Lib.hid hk
  have HI := Lib.hid hI
  have HF := Lib.hid hf
  have HG8 := Lib.hid hf.gl
  have HT12 := Lib.hid hf.task
  have hc4 := hf.cpu
  have hc0 : (X.cpus.length : Int) ≤ 4 := by omega
  have HB := Lib.hid hB
  clear h hf hk hH hN hI hB
  go_enter Tryz.func70, Tryz.ntmps70
  have c0 := K0.out.cell 0
  have c1 := K0.out.cell 1
  have c2 := K0.out.cell 2
  have c3 := K0.out.cell 3
  have cf := fun i => K0.out.frozen i
  simp at c0 c1 c2 c3
  go_wp2
  go_ret
  exact ⟨Keep.refl _ _, rfl⟩
set_option maxRecDepth 100000 in
set_option maxHeartbeats 4000000 in
theorem iCpu_yes (bt bg kb : Nat) (ca : Option Addr) (cc tc gc : Nat) (gh : Nat → GH) (X : WorldM) (B N : Nat) (w : World) (h : OwnR w B ca cc (some ⟨bt, 0, none⟩) (some ⟨bg, 0, none⟩) gh X) (hf : RFit X) (hk : Blk w kb 26 #[.int .i64 X.now, .slice ca X.cpus.length cc, .slice (some ⟨bt, 0, none⟩) X.tasks.length tc, .slice (some ⟨bg, 0, none⟩) X.groups.length gc]) (hH : ∀ i, Has ca (some ⟨bt, 0, none⟩) (some ⟨bg, 0, none⟩) gh X.groups.length i → i < N ∧ i ≠ kb) (hN : kb < N ∧ N ≤ w.heap.size) (hB : B ≤ w.heap.size) (A : Option Addr) (c : Nat) (l : List Int) (hI : IntR w N A l) (hl : l.length ≤ 20001) (hn : l.length = 5) (h4 : X.cpus.length ≠ 4) :
    Calls Tryz.prog 70 #[.pointer (some ⟨kb, 0, none⟩), .slice A l.length c] w (IPost bt bg kb ca tc gc gh X B (some { X with cpus := X.cpus ++ [cpuOf l] }) w) := by
  have ne : ((l.length : Int) != 5) = false := by rw [hn]; rfl
  have HLN := Lib.hid hn
  have h4' : ((X.cpus.length : Int) == 4) = false := by rw [beq_eq_false_iff_ne]; omega
  have H4 := Lib.hid h4
  have hlx : 5 ≤ l.length := by omega
  clear h4 hn
  have HH := Lib.hid hH
  have HN := Lib.hid hN
  have OW := Lib.hid h
  have K0 := Lib.hid hk
  have HI := Lib.hid hI
  have HF := Lib.hid hf
  have HG8 := Lib.hid hf.gl
  have HT12 := Lib.hid hf.task
  have hc4 := hf.cpu
  have hc0 : (X.cpus.length : Int) ≤ 4 := by omega
  have HB := Lib.hid hB
  clear h hf hk hH hN hI hB
  go_enter Tryz.func70, Tryz.ntmps70
  obtain ⟨gI0, rfl, hgi, hgB, n0⟩ := int_at HI.out (i := 0) (by omega)
  obtain ⟨_, e1, _, _, n1⟩ := int_at HI.out (i := 1) (by omega)
  cases e1
  obtain ⟨_, e1, _, _, n2⟩ := int_at HI.out (i := 2) (by omega)
  cases e1
  obtain ⟨_, e1, _, _, n3⟩ := int_at HI.out (i := 3) (by omega)
  cases e1
  obtain ⟨_, e1, _, _, n4⟩ := int_at HI.out (i := 4) (by omega)
  cases e1
  have il : (4 : Int) < (l.length : Int) := by omega
  have c0 := K0.out.cell 0
  have c1 := K0.out.cell 1
  have c2 := K0.out.cell 2
  have c3 := K0.out.cell 3
  have cf := fun i => K0.out.frozen i
  simp at c0 c1 c2 c3
  have HSO := Lib.hid (show ∀ j, (Value.slice ca X.cpus.length cc).ownBlock = some j → Has ca (some ⟨bt, 0, none⟩) (some ⟨bg, 0, none⟩) gh X.groups.length j from fun j e => by obtain ⟨a, ha, h9⟩ := ob e; exact .inl (by rw [ha, ← h9, ← OW.out.own.cpu.form ha]))
  have hk4 : X.cpus.length ≤ 1048576 := by omega
  have hkl : kb < w.heap.size := K0.out.lt
  go_upto_region 3 with (fail)
  clear h4' ne
  obtain ⟨g5, cap5, w5, hrun, hown5, hkeep5, hg5, hlt5, hB5⟩ := app_drew slC (by omega) (by omega) (ty := 22) (T' := 49) OW.out.cpr HB.out hk4 [.bool (gI l 0 == 1), .int .i64 (gI l 1), .int .i64 (gI l 2), .int .i64 (gI l 3), .int .i64 (gI l 4)] rfl (by simp [Value.oneCell'])
  obtain ⟨F, hFt, hFf⟩ : ∃ F : Bool → World, F true = w ∧ F false = w5 := ⟨fun b => if b then w else w5, rfl, rfl⟩
  have qq0 := fun b d os => cell_regrown (both hFt hFf (p := fun W => W.cell? _ = some _) c1 (hkeep5.cell c1 hkl (fun e => (HH.out _ (HSO.out _ e)).2 rfl)) b) d os
  have qq1 := fun b d os => cell_regrown (both hFt hFf (p := fun W => W.cell? _ = some _) n0 (hkeep5.cell n0 hgi (fun e => by have := (HH.out _ (HSO.out _ e)).1; omega)) b) d os
  have qq2 := fun b d os => cell_regrown (both hFt hFf (p := fun W => W.cell? _ = some _) n1 (hkeep5.cell n1 hgi (fun e => by have := (HH.out _ (HSO.out _ e)).1; omega)) b) d os
  have qq3 := fun b d os => cell_regrown (both hFt hFf (p := fun W => W.cell? _ = some _) n2 (hkeep5.cell n2 hgi (fun e => by have := (HH.out _ (HSO.out _ e)).1; omega)) b) d os
  have qq4 := fun b d os => cell_regrown (both hFt hFf (p := fun W => W.cell? _ = some _) n3 (hkeep5.cell n3 hgi (fun e => by have := (HH.out _ (HSO.out _ e)).1; omega)) b) d os
  have qq5 := fun b d os => cell_regrown (both hFt hFf (p := fun W => W.cell? _ = some _) n4 (hkeep5.cell n4 hgi (fun e => by have := (HH.out _ (HSO.out _ e)).1; omega)) b) d os
  have HFt := Lib.hid hFt
  have HFf := Lib.hid hFf
  have HRUN := Lib.hid hrun
  clear hFt hFf hrun
  refine region_SC (twoC F) (twoC_drew true HFt.out) 24 [0, 0, 0, 0, 0, 0, 0, 0, 0, 0, 0, 0, 0, 0, 0, 0, 0, 0, 0, 0, 0, 0, 1, 1, 1, 1, 2] [0, 1, 2, 3, 4, 5, 6, 7, 8, 9, 10, 11, 12, 13, 14, 15, 16, 17, 18, 19, 20, 21, 22, 23, 24, 25, 26] (by kernel_rfl) (by kernel_rfl) (by kernel_rfl) rfl (by kernel_rfl) (by kernel_rfl) ?_
  simp only [permL, List.getElem?_cons_zero, List.getElem?_cons_succ, Option.toList_some, List.cons_append, List.nil_append]
  unfold twoC
  repeat (first | (refine wpS_skip (by rfl) ?_; simp only [Act.put, List.setIfInBounds_toArray, List.set_cons_zero, List.set_cons_succ]) | (refine wpS_det (by rfl) (fun K hK => ?_); go_big_quiet_op; refine hK _ ?_; clear hK K))
  refine wpS_bar (by rfl) (fun K hK => ?_)
  go_big_op
  refine hK _ _ (twoC_below true (by rw [HFt.out]; exact (Below.refl _ _).drew.alloc (Nat.le_refl _) _)) ?_
  clear hK K
  refine wpS_bar (by rfl) (fun K hK => ?_)
  refine wp_append_run rfl rfl rfl HRUN.out ?_
  refine hK _ _ (twoC_below false (by rw [HFf.out]; exact Below.refl _ _)) ?_
  clear hK K
  simp only [Act.put, List.setIfInBounds_toArray, List.set_cons_zero, List.set_cons_succ]
  repeat (first | (refine wpS_skip (by rfl) ?_; simp only [Act.put, List.setIfInBounds_toArray, List.set_cons_zero, List.set_cons_succ]) | (refine wpS_det (by rfl) (fun K hK => ?_); go_big_quiet_op; refine hK _ ?_; clear hK K))
  clear qq0 qq1 qq2 qq3 qq4 qq5
  refine wpS_bar (by rfl) (fun K hK => ?_)
  go_big_op
  refine hK _ _ (twoC_below false (by rw [HFf.out]; exact Below.refl _ _)) ?_
  clear hK K
  try simp only [Act.put, List.setIfInBounds_toArray, List.set_cons_zero, List.set_cons_succ]
  refine wpS_bar (by rfl) (fun K hK => ?_)
  go_big_op
  refine hK _ _ (twoC_below false (by rw [HFf.out]; exact Below.refl _ _)) ?_
  clear hK K
  try simp only [Act.put, List.setIfInBounds_toArray, List.set_cons_zero, List.set_cons_succ]
  have K0w := Lib.hid (hkeep5.blk K0.out (fun e => (HH.out _ (HSO.out _ e)).2 rfl))
  have f3 := fun i => K0w.out.frozen i
  have z3 := K0w.out.cell 1
  simp at z3
  refine wpS_end (by rfl) (fun K hK => ?_)
  go_big_op
  refine hK _ _ ?_
  clear hK K
  refine wpS_nil ?_
  go_upto_region 4 with (fail)
  refine genR (p := fun W => Code.wp _ _ _ _ W) ?_
  intro w6 hw6
  have KS := Lib.hid (show Keep (fun j => j = kb) w5 w6 by rw [← hw6]; exact Keep.set _ _ _ rfl)
  have K0d := Lib.hid (show Blk w6 kb 26 #[.int .i64 X.now, .slice (some ⟨g5, 0, none⟩) (X.cpus.length + 1) cap5, .slice (some ⟨bt, 0, none⟩) X.tasks.length tc, .slice (some ⟨bg, 0, none⟩) X.groups.length gc] by rw [← hw6]; exact K0w.out.set_ 1 _)
  have OW5 := Lib.hid (OW.out.cpu (cpuOf l) hkeep5 hown5)
  have HNW := Lib.hid (show ∀ i, Has (some ⟨g5, 0, none⟩) (some ⟨bt, 0, none⟩) (some ⟨bg, 0, none⟩) gh ({ X with cpus := X.cpus ++ [cpuOf l] } : WorldM).groups.length i → Has ca (some ⟨bt, 0, none⟩) (some ⟨bg, 0, none⟩) gh X.groups.length i ∨ w.heap.size ≤ i from fun i hi => by
    rcases hi with hi | hi
    · cases hi
      rcases hg5 with h | h
      · exact .inl (HSO.out _ h)
      · exact .inr (Nat.le_of_lt h)
    · exact .inl (.inr hi))
  have OW6 := Lib.hid (OW5.out.keep KS.out fun i hi e => by have e2 : i = kb := e; rcases HNW.out i hi with h | h; (exact (HH.out i h).2 e2); omega)
  have KE := Lib.hid (show Keep (fun g => Has ca (some ⟨bt, 0, none⟩) (some ⟨bg, 0, none⟩) gh X.groups.length g ∨ g = kb) w w6 from (hkeep5.mono fun j _ hj => .inl (HSO.out j hj)).trans (KS.out.mono fun j _ e => .inr e))
  clear HFt HFf HRUN hkeep5 hown5 hg5 hlt5 hB5 z3 f3 hw6 KS K0w n0 n1 n2 n3 n4
  clear c0 c1 c2 c3 cf
  go_wp2
  go_ret
  refine ⟨KE.out, rfl, some ⟨g5, 0, none⟩, cap5, gh, ?_, OW6.out, HNW.out⟩
  have q := K0d.out
  rw [show ({ X with cpus := X.cpus ++ [cpuOf l] } : WorldM).cpus.length = X.cpus.length + 1 by simp]
  exact q
set_option maxRecDepth 100000 in
set_option maxHeartbeats 4000000 in
theorem iGroup_no (bt bg kb : Nat) (ca : Option Addr) (cc tc gc : Nat) (gh : Nat → GH) (X : WorldM) (B N : Nat) (w : World) (h : OwnR w B ca cc (some ⟨bt, 0, none⟩) (some ⟨bg, 0, none⟩) gh X) (hf : RFit X) (hk : Blk w kb 26 #[.int .i64 X.now, .slice ca X.cpus.length cc, .slice (some ⟨bt, 0, none⟩) X.tasks.length tc, .slice (some ⟨bg, 0, none⟩) X.groups.length gc]) (hH : ∀ i, Has ca (some ⟨bt, 0, none⟩) (some ⟨bg, 0, none⟩) gh X.groups.length i → i < N ∧ i ≠ kb) (hN : kb < N ∧ N ≤ w.heap.size) (hB : B ≤ w.heap.size) (A : Option Addr) (c : Nat) (l : List Int) (hI : IntR w N A l) (hl : l.length ≤ 20001) (nm : ByteArray) (hn : l.length ≠ 7) :
    Calls Tryz.prog 71 #[.pointer (some ⟨kb, 0, none⟩), .string nm, .slice A l.length c] w (IPost bt bg kb ca tc gc gh X B none w) := by
  have ne : ((l.length : Int) != 7) = true := by simp only [bne_iff_ne]; omega
  have HH := Lib.hid hH
  have HN := Lib.hid hN
  have OW := Lib.hid h
  have K0 := Lib.hid hk
  have HI := Lib.hid hI
  have HF := Lib.hid hf
  have HG8 := Lib.hid hf.gl
  have HT12 := Lib.hid hf.task
  have hc4 := hf.cpu
  have hc0 : (X.cpus.length : Int) ≤ 4 := by omega
  have HB := Lib.hid hB
  clear h hf hk hH hN hI hB
  go_enter Tryz.func71, Tryz.ntmps71
  go_wp2
  go_ret
  exact ⟨Keep.refl _ _, rfl⟩
set_option maxRecDepth 100000 in
set_option maxHeartbeats 4000000 in
theorem iGroup_off (bt bg kb : Nat) (ca : Option Addr) (cc tc gc : Nat) (gh : Nat → GH) (X : WorldM) (B N : Nat) (w : World) (h : OwnR w B ca cc (some ⟨bt, 0, none⟩) (some ⟨bg, 0, none⟩) gh X) (hf : RFit X) (hk : Blk w kb 26 #[.int .i64 X.now, .slice ca X.cpus.length cc, .slice (some ⟨bt, 0, none⟩) X.tasks.length tc, .slice (some ⟨bg, 0, none⟩) X.groups.length gc]) (hH : ∀ i, Has ca (some ⟨bt, 0, none⟩) (some ⟨bg, 0, none⟩) gh X.groups.length i → i < N ∧ i ≠ kb) (hN : kb < N ∧ N ≤ w.heap.size) (hB : B ≤ w.heap.size) (A : Option Addr) (c : Nat) (l : List Int) (hI : IntR w N A l) (hl : l.length ≤ 20001) (nm : ByteArray) (hn : l.length = 7) (hr : inR (gI l 0) 0 7 = false) :
    Calls Tryz.prog 71 #[.pointer (some ⟨kb, 0, none⟩), .string nm, .slice A l.length c] w (IPost bt bg kb ca tc gc gh X B none w) := by
  have ne : ((l.length : Int) != 7) = false := by rw [hn]; rfl
  have HLN := Lib.hid hn
  have hlx : 7 ≤ l.length := by omega
  have HR := Lib.hid hr
  clear hn hr
  have HH := Lib.hid hH
  have HN := Lib.hid hN
  have OW := Lib.hid h
  have K0 := Lib.hid hk
  have HI := Lib.hid hI
  have HF := Lib.hid hf
  have HG8 := Lib.hid hf.gl
  have HT12 := Lib.hid hf.task
  have hc4 := hf.cpu
  have hc0 : (X.cpus.length : Int) ≤ 4 := by omega
  have HB := Lib.hid hB
  clear h hf hk hH hN hI hB
  go_enter Tryz.func71, Tryz.ntmps71
  obtain ⟨gI0, rfl, hgi, hgB, n0⟩ := int_at HI.out (i := 0) (by omega)
  have il : (0 : Int) < (l.length : Int) := by omega
  go_wp2_with (go_at_call 108; refine (iInRange_any _ _ _ _).mono ?_; rintro e w' ⟨rfl, rfl⟩; rw [HR.out])
  go_ret
  exact ⟨Keep.refl _ _, rfl⟩
set_option maxRecDepth 100000 in
set_option maxHeartbeats 4000000 in
theorem iGroup_dash (bt bg kb : Nat) (ca : Option Addr) (cc tc gc : Nat) (gh : Nat → GH) (X : WorldM) (B N : Nat) (w : World) (h : OwnR w B ca cc (some ⟨bt, 0, none⟩) (some ⟨bg, 0, none⟩) gh X) (hf : RFit X) (hk : Blk w kb 26 #[.int .i64 X.now, .slice ca X.cpus.length cc, .slice (some ⟨bt, 0, none⟩) X.tasks.length tc, .slice (some ⟨bg, 0, none⟩) X.groups.length gc]) (hH : ∀ i, Has ca (some ⟨bt, 0, none⟩) (some ⟨bg, 0, none⟩) gh X.groups.length i → i < N ∧ i ≠ kb) (hN : kb < N ∧ N ≤ w.heap.size) (hB : B ≤ w.heap.size) (A : Option Addr) (c : Nat) (l : List Int) (hI : IntR w N A l) (hl : l.length ≤ 20001) (nm : ByteArray) (hn : l.length = 7) (g : Nat) (hg : gI l 0 = g) (hg8 : g < 8) (hd : (nm.toList == [45]) = true) :
    Calls Tryz.prog 71 #[.pointer (some ⟨kb, 0, none⟩), .string nm, .slice A l.length c] w (IPost bt bg kb ca tc gc gh X B (some (setG X g (groupOf .empty l))) w) := by
  have ne : ((l.length : Int) != 7) = false := by rw [hn]; rfl
  have HLN := Lib.hid hn
  have hlx : 7 ≤ l.length := by omega
  have q : (nm.toList == [45]) = true := hd
  have HGE := Lib.hid hg
  have gi0 : (0 : Int) ≤ (g : Int) := by omega
  have HR := Lib.hid (show inR (g : Int) 0 7 = true by rw [inR_iff]; omega)
  clear hn hg hd
  have HH := Lib.hid hH
  have HN := Lib.hid hN
  have OW := Lib.hid h
  have K0 := Lib.hid hk
  have HI := Lib.hid hI
  have HF := Lib.hid hf
  have HG8 := Lib.hid hf.gl
  have HT12 := Lib.hid hf.task
  have hc4 := hf.cpu
  have hc0 : (X.cpus.length : Int) ≤ 4 := by omega
  have HB := Lib.hid hB
  clear h hf hk hH hN hI hB
  go_enter Tryz.func71, Tryz.ntmps71
  have HG := Lib.hid (show g < X.groups.length by rw [HG8.out]; exact hg8)
  have gi1 : (g : Int) < (X.groups.length : Int) := by rw [HG8.out]; omega
  obtain ⟨gI0, rfl, hgi, hgB, n0⟩ := int_at HI.out (i := 0) (by omega)
  obtain ⟨_, e1, _, _, n1⟩ := int_at HI.out (i := 1) (by omega)
  cases e1
  obtain ⟨_, e1, _, _, n2⟩ := int_at HI.out (i := 2) (by omega)
  cases e1
  obtain ⟨_, e1, _, _, n3⟩ := int_at HI.out (i := 3) (by omega)
  cases e1
  obtain ⟨_, e1, _, _, n4⟩ := int_at HI.out (i := 4) (by omega)
  cases e1
  obtain ⟨_, e1, _, _, n5⟩ := int_at HI.out (i := 5) (by omega)
  cases e1
  obtain ⟨_, e1, _, _, n6⟩ := int_at HI.out (i := 6) (by omega)
  cases e1
  have il : (6 : Int) < (l.length : Int) := by omega
  rw [HGE.out] at n0
  go_upto_region 5 with (go_at_call 108; refine (iInRange_any _ _ _ _).mono ?_; rintro e w' ⟨rfl, rfl⟩; rw [HR.out])
  clear q ne
  have c0 := K0.out.cell 0
  have c1 := K0.out.cell 1
  have c2 := K0.out.cell 2
  have c3 := K0.out.cell 3
  have cf := fun i => K0.out.frozen i
  simp at c0 c1 c2 c3
  obtain ⟨_, e, _, _, v0, f0⟩ := OW.out.own.grps.cell (k := g) (i := 0) HG.out (by omega); cases e
  obtain ⟨_, e, _, _, v1, f1⟩ := OW.out.own.grps.cell (k := g) (i := 1) HG.out (by omega); cases e
  obtain ⟨_, e, _, _, v2, f2⟩ := OW.out.own.grps.cell (k := g) (i := 2) HG.out (by omega); cases e
  obtain ⟨_, e, _, _, v3, f3⟩ := OW.out.own.grps.cell (k := g) (i := 3) HG.out (by omega); cases e
  obtain ⟨_, e, _, _, v4, f4⟩ := OW.out.own.grps.cell (k := g) (i := 4) HG.out (by omega); cases e
  obtain ⟨_, e, _, _, v5, f5⟩ := OW.out.own.grps.cell (k := g) (i := 5) HG.out (by omega); cases e
  obtain ⟨_, e, _, _, v6, f6⟩ := OW.out.own.grps.cell (k := g) (i := 6) HG.out (by omega); cases e
  obtain ⟨_, e, _, _, v7, f7⟩ := OW.out.own.grps.cell (k := g) (i := 7) HG.out (by omega); cases e
  obtain ⟨_, e, _, _, v8, f8⟩ := OW.out.own.grps.cell (k := g) (i := 8) HG.out (by omega); cases e
  obtain ⟨_, e, _, _, v9, f9⟩ := OW.out.own.grps.cell (k := g) (i := 9) HG.out (by omega); cases e
  obtain ⟨_, e, _, _, v10, f10⟩ := OW.out.own.grps.cell (k := g) (i := 10) HG.out (by omega); cases e
  obtain ⟨_, e, _, _, v11, f11⟩ := OW.out.own.grps.cell (k := g) (i := 11) HG.out (by omega); cases e
  obtain ⟨_, e, _, _, v12, f12⟩ := OW.out.own.grps.cell (k := g) (i := 12) HG.out (by omega); cases e
  obtain ⟨_, e, _, _, v13, f13⟩ := OW.out.own.grps.cell (k := g) (i := 13) HG.out (by omega); cases e
  simp only [Nat.add_zero] at v0 f0
  have z_c3 := fun d os => cell_regrown c3 d os
  have z_n0 := fun d os => cell_regrown n0 d os
  have z_n1 := fun d os => cell_regrown n1 d os
  have z_n2 := fun d os => cell_regrown n2 d os
  have z_n3 := fun d os => cell_regrown n3 d os
  have z_n4 := fun d os => cell_regrown n4 d os
  have z_n5 := fun d os => cell_regrown n5 d os
  have z_n6 := fun d os => cell_regrown n6 d os
  have z_v0 := fun d os => cell_regrown v0 d os
  have z_v1 := fun d os => cell_regrown v1 d os
  have z_v2 := fun d os => cell_regrown v2 d os
  have z_v3 := fun d os => cell_regrown v3 d os
  have z_v4 := fun d os => cell_regrown v4 d os
  have z_v5 := fun d os => cell_regrown v5 d os
  have z_v6 := fun d os => cell_regrown v6 d os
  have z_v7 := fun d os => cell_regrown v7 d os
  have z_v8 := fun d os => cell_regrown v8 d os
  have z_v9 := fun d os => cell_regrown v9 d os
  have z_v10 := fun d os => cell_regrown v10 d os
  have z_v11 := fun d os => cell_regrown v11 d os
  have z_v12 := fun d os => cell_regrown v12 d os
  have z_v13 := fun d os => cell_regrown v13 d os
  refine region_S 28 [0, 0, 0, 0, 0, 0, 0, 0, 0, 0, 0, 0, 0, 0, 0, 0, 0, 0, 0, 0, 0, 0, 0, 0, 0, 0, 0, 0, 2] [0, 1, 2, 3, 4, 5, 6, 7, 8, 9, 10, 11, 12, 13, 14, 15, 16, 17, 18, 19, 20, 21, 22, 23, 24, 25, 26, 27, 28] (by kernel_rfl) (by kernel_rfl) (by kernel_rfl) rfl (by kernel_rfl) (by kernel_rfl) ?_
  simp only [permL, List.getElem?_cons_zero, List.getElem?_cons_succ, Option.toList_some, List.cons_append, List.nil_append]
  repeat (first | (refine wpS_skip (by rfl) ?_; simp only [Act.put, List.setIfInBounds_toArray, List.set_cons_zero, List.set_cons_succ]) | (refine wpS_det (by rfl) (fun K hK => ?_); go_big_quiet_op; refine hK _ ?_; clear hK K))
  refine wpS_end (by rfl) (fun K hK => ?_)
  go_big_op
  refine hK _ _ ?_
  clear hK K
  refine wpS_nil ?_
  go_upto_region 6 with (fail)
  refine genR (p := fun W => Code.wp _ _ _ _ W) ?_
  intro w6 hw6
  have e6 : (Go.Proofs.YtomllcclallcdaaGreatDoor.wr bg 14 g (gl .empty l) w).drew = w6 := hw6
  have OW6 := Lib.hid (show OwnR w6 B ca cc (some ⟨bt, 0, none⟩) (some ⟨bg, 0, none⟩) (hset gh g nilH) (setG X g (groupOf .empty l)) by rw [← e6]; exact (OW.out.group HG.out (groupOf .empty l) rfl rfl (gl .empty l) (by simp [gl]) (gl_cells _ _)).below (Below.refl _ _).drew)
  have KK := Lib.hid (show Keep (fun j => j = bg) w w6 by rw [← e6]; exact (Keep.sets (S := fun j => j = bg) rfl _ _).trans (Keep.of_below (Below.refl _ _).drew))
  have HGS := Lib.hid (show (setG X g (groupOf .empty l)).groups.length = X.groups.length by simp [setG, addS])
  have HBG := Lib.hid (HH.out bg (.inr (.inr (.inl rfl))))
  have HNW := Lib.hid (show ∀ i, Has ca (some ⟨bt, 0, none⟩) (some ⟨bg, 0, none⟩) (hset gh g nilH) (setG X g (groupOf .empty l)).groups.length i → Has ca (some ⟨bt, 0, none⟩) (some ⟨bg, 0, none⟩) gh X.groups.length i ∨ w.heap.size ≤ i from fun i hi => by
    rw [HGS.out] at hi
    exact has_set (x := nilH) (N := w.heap.size) HG.out (fun _ h => by cases h) (fun _ h => by cases h) (fun _ h => by cases h) hi)
  have K0d := Lib.hid (KK.out.blk K0.out fun e => HBG.out.2 e.symm)
  clear hw6 e6 n0 n1 n2 n3 n4 n5 n6 v0 f0 v1 f1 v2 f2 v3 f3 v4 f4 v5 f5 v6 f6 v7 f7 v8 f8 v9 f9 v10 f10 v11 f11 v12 f12 v13 f13 z_c3 z_n0 z_n1 z_n2 z_n3 z_n4 z_n5 z_n6 z_v0 z_v1 z_v2 z_v3 z_v4 z_v5 z_v6 z_v7 z_v8 z_v9 z_v10 z_v11 z_v12 z_v13
  clear c0 c1 c2 c3 cf
  go_wp2
  go_ret
  refine ⟨KK.out.mono fun j _ e => by subst e; exact .inl (.inr (.inr (.inl rfl))), rfl, ca, cc, (hset gh g nilH), ?_, OW6.out, HNW.out⟩
  have q := K0d.out
  rw [← HGS.out] at q
  exact q
set_option maxRecDepth 100000 in
set_option maxHeartbeats 4000000 in
theorem iGroup_name (bt bg kb : Nat) (ca : Option Addr) (cc tc gc : Nat) (gh : Nat → GH) (X : WorldM) (B N : Nat) (w : World) (h : OwnR w B ca cc (some ⟨bt, 0, none⟩) (some ⟨bg, 0, none⟩) gh X) (hf : RFit X) (hk : Blk w kb 26 #[.int .i64 X.now, .slice ca X.cpus.length cc, .slice (some ⟨bt, 0, none⟩) X.tasks.length tc, .slice (some ⟨bg, 0, none⟩) X.groups.length gc]) (hH : ∀ i, Has ca (some ⟨bt, 0, none⟩) (some ⟨bg, 0, none⟩) gh X.groups.length i → i < N ∧ i ≠ kb) (hN : kb < N ∧ N ≤ w.heap.size) (hB : B ≤ w.heap.size) (A : Option Addr) (c : Nat) (l : List Int) (hI : IntR w N A l) (hl : l.length ≤ 20001) (nm : ByteArray) (hn : l.length = 7) (g : Nat) (hg : gI l 0 = g) (hg8 : g < 8) (hd : (nm.toList == [45]) = false) :
    Calls Tryz.prog 71 #[.pointer (some ⟨kb, 0, none⟩), .string nm, .slice A l.length c] w (IPost bt bg kb ca tc gc gh X B (some (setG X g (groupOf nm l))) w) := by
  have ne : ((l.length : Int) != 7) = false := by rw [hn]; rfl
  have HLN := Lib.hid hn
  have hlx : 7 ≤ l.length := by omega
  have q : (nm.toList == [45]) = false := hd
  have HGE := Lib.hid hg
  have gi0 : (0 : Int) ≤ (g : Int) := by omega
  have HR := Lib.hid (show inR (g : Int) 0 7 = true by rw [inR_iff]; omega)
  clear hn hg hd
  have HH := Lib.hid hH
  have HN := Lib.hid hN
  have OW := Lib.hid h
  have K0 := Lib.hid hk
  have HI := Lib.hid hI
  have HF := Lib.hid hf
  have HG8 := Lib.hid hf.gl
  have HT12 := Lib.hid hf.task
  have hc4 := hf.cpu
  have hc0 : (X.cpus.length : Int) ≤ 4 := by omega
  have HB := Lib.hid hB
  clear h hf hk hH hN hI hB
  go_enter Tryz.func71, Tryz.ntmps71
  have HG := Lib.hid (show g < X.groups.length by rw [HG8.out]; exact hg8)
  have gi1 : (g : Int) < (X.groups.length : Int) := by rw [HG8.out]; omega
  obtain ⟨gI0, rfl, hgi, hgB, n0⟩ := int_at HI.out (i := 0) (by omega)
  obtain ⟨_, e1, _, _, n1⟩ := int_at HI.out (i := 1) (by omega)
  cases e1
  obtain ⟨_, e1, _, _, n2⟩ := int_at HI.out (i := 2) (by omega)
  cases e1
  obtain ⟨_, e1, _, _, n3⟩ := int_at HI.out (i := 3) (by omega)
  cases e1
  obtain ⟨_, e1, _, _, n4⟩ := int_at HI.out (i := 4) (by omega)
  cases e1
  obtain ⟨_, e1, _, _, n5⟩ := int_at HI.out (i := 5) (by omega)
  cases e1
  obtain ⟨_, e1, _, _, n6⟩ := int_at HI.out (i := 6) (by omega)
  cases e1
  have il : (6 : Int) < (l.length : Int) := by omega
  rw [HGE.out] at n0
  go_upto_region 5 with (go_at_call 108; refine (iInRange_any _ _ _ _).mono ?_; rintro e w' ⟨rfl, rfl⟩; rw [HR.out])
  clear q ne
  have c0 := K0.out.cell 0
  have c1 := K0.out.cell 1
  have c2 := K0.out.cell 2
  have c3 := K0.out.cell 3
  have cf := fun i => K0.out.frozen i
  simp at c0 c1 c2 c3
  obtain ⟨_, e, _, _, v0, f0⟩ := OW.out.own.grps.cell (k := g) (i := 0) HG.out (by omega); cases e
  obtain ⟨_, e, _, _, v1, f1⟩ := OW.out.own.grps.cell (k := g) (i := 1) HG.out (by omega); cases e
  obtain ⟨_, e, _, _, v2, f2⟩ := OW.out.own.grps.cell (k := g) (i := 2) HG.out (by omega); cases e
  obtain ⟨_, e, _, _, v3, f3⟩ := OW.out.own.grps.cell (k := g) (i := 3) HG.out (by omega); cases e
  obtain ⟨_, e, _, _, v4, f4⟩ := OW.out.own.grps.cell (k := g) (i := 4) HG.out (by omega); cases e
  obtain ⟨_, e, _, _, v5, f5⟩ := OW.out.own.grps.cell (k := g) (i := 5) HG.out (by omega); cases e
  obtain ⟨_, e, _, _, v6, f6⟩ := OW.out.own.grps.cell (k := g) (i := 6) HG.out (by omega); cases e
  obtain ⟨_, e, _, _, v7, f7⟩ := OW.out.own.grps.cell (k := g) (i := 7) HG.out (by omega); cases e
  obtain ⟨_, e, _, _, v8, f8⟩ := OW.out.own.grps.cell (k := g) (i := 8) HG.out (by omega); cases e
  obtain ⟨_, e, _, _, v9, f9⟩ := OW.out.own.grps.cell (k := g) (i := 9) HG.out (by omega); cases e
  obtain ⟨_, e, _, _, v10, f10⟩ := OW.out.own.grps.cell (k := g) (i := 10) HG.out (by omega); cases e
  obtain ⟨_, e, _, _, v11, f11⟩ := OW.out.own.grps.cell (k := g) (i := 11) HG.out (by omega); cases e
  obtain ⟨_, e, _, _, v12, f12⟩ := OW.out.own.grps.cell (k := g) (i := 12) HG.out (by omega); cases e
  obtain ⟨_, e, _, _, v13, f13⟩ := OW.out.own.grps.cell (k := g) (i := 13) HG.out (by omega); cases e
  simp only [Nat.add_zero] at v0 f0
  have z_c3 := fun d os => cell_regrown c3 d os
  have z_n0 := fun d os => cell_regrown n0 d os
  have z_n1 := fun d os => cell_regrown n1 d os
  have z_n2 := fun d os => cell_regrown n2 d os
  have z_n3 := fun d os => cell_regrown n3 d os
  have z_n4 := fun d os => cell_regrown n4 d os
  have z_n5 := fun d os => cell_regrown n5 d os
  have z_n6 := fun d os => cell_regrown n6 d os
  have z_v0 := fun d os => cell_regrown v0 d os
  have z_v1 := fun d os => cell_regrown v1 d os
  have z_v2 := fun d os => cell_regrown v2 d os
  have z_v3 := fun d os => cell_regrown v3 d os
  have z_v4 := fun d os => cell_regrown v4 d os
  have z_v5 := fun d os => cell_regrown v5 d os
  have z_v6 := fun d os => cell_regrown v6 d os
  have z_v7 := fun d os => cell_regrown v7 d os
  have z_v8 := fun d os => cell_regrown v8 d os
  have z_v9 := fun d os => cell_regrown v9 d os
  have z_v10 := fun d os => cell_regrown v10 d os
  have z_v11 := fun d os => cell_regrown v11 d os
  have z_v12 := fun d os => cell_regrown v12 d os
  have z_v13 := fun d os => cell_regrown v13 d os
  refine region_S 28 [0, 0, 0, 0, 0, 0, 0, 0, 0, 0, 0, 0, 0, 0, 0, 0, 0, 0, 0, 0, 0, 0, 0, 0, 0, 0, 0, 0, 2] [0, 1, 2, 3, 4, 5, 6, 7, 8, 9, 10, 11, 12, 13, 14, 15, 16, 17, 18, 19, 20, 21, 22, 23, 24, 25, 26, 27, 28] (by kernel_rfl) (by kernel_rfl) (by kernel_rfl) rfl (by kernel_rfl) (by kernel_rfl) ?_
  simp only [permL, List.getElem?_cons_zero, List.getElem?_cons_succ, Option.toList_some, List.cons_append, List.nil_append]
  repeat (first | (refine wpS_skip (by rfl) ?_; simp only [Act.put, List.setIfInBounds_toArray, List.set_cons_zero, List.set_cons_succ]) | (refine wpS_det (by rfl) (fun K hK => ?_); go_big_quiet_op; refine hK _ ?_; clear hK K))
  refine wpS_end (by rfl) (fun K hK => ?_)
  go_big_op
  refine hK _ _ ?_
  clear hK K
  refine wpS_nil ?_
  go_upto_region 6 with (fail)
  refine genR (p := fun W => Code.wp _ _ _ _ W) ?_
  intro w6 hw6
  have e6 : (Go.Proofs.YtomllcclallcdaaGreatDoor.wr bg 14 g (gl nm l) w).drew = w6 := hw6
  have OW6 := Lib.hid (show OwnR w6 B ca cc (some ⟨bt, 0, none⟩) (some ⟨bg, 0, none⟩) (hset gh g nilH) (setG X g (groupOf nm l)) by rw [← e6]; exact (OW.out.group HG.out (groupOf nm l) rfl rfl (gl nm l) (by simp [gl]) (gl_cells _ _)).below (Below.refl _ _).drew)
  have KK := Lib.hid (show Keep (fun j => j = bg) w w6 by rw [← e6]; exact (Keep.sets (S := fun j => j = bg) rfl _ _).trans (Keep.of_below (Below.refl _ _).drew))
  have HGS := Lib.hid (show (setG X g (groupOf nm l)).groups.length = X.groups.length by simp [setG, addS])
  have HBG := Lib.hid (HH.out bg (.inr (.inr (.inl rfl))))
  have HNW := Lib.hid (show ∀ i, Has ca (some ⟨bt, 0, none⟩) (some ⟨bg, 0, none⟩) (hset gh g nilH) (setG X g (groupOf nm l)).groups.length i → Has ca (some ⟨bt, 0, none⟩) (some ⟨bg, 0, none⟩) gh X.groups.length i ∨ w.heap.size ≤ i from fun i hi => by
    rw [HGS.out] at hi
    exact has_set (x := nilH) (N := w.heap.size) HG.out (fun _ h => by cases h) (fun _ h => by cases h) (fun _ h => by cases h) hi)
  have K0d := Lib.hid (KK.out.blk K0.out fun e => HBG.out.2 e.symm)
  clear hw6 e6 n0 n1 n2 n3 n4 n5 n6 v0 f0 v1 f1 v2 f2 v3 f3 v4 f4 v5 f5 v6 f6 v7 f7 v8 f8 v9 f9 v10 f10 v11 f11 v12 f12 v13 f13 z_c3 z_n0 z_n1 z_n2 z_n3 z_n4 z_n5 z_n6 z_v0 z_v1 z_v2 z_v3 z_v4 z_v5 z_v6 z_v7 z_v8 z_v9 z_v10 z_v11 z_v12 z_v13
  clear c0 c1 c2 c3 cf
  go_wp2
  go_ret
  refine ⟨KK.out.mono fun j _ e => by subst e; exact .inl (.inr (.inr (.inl rfl))), rfl, ca, cc, (hset gh g nilH), ?_, OW6.out, HNW.out⟩
  have q := K0d.out
  rw [← HGS.out] at q
  exact q
set_option maxRecDepth 100000 in
set_option maxHeartbeats 4000000 in
theorem iTask_no (bt bg kb : Nat) (ca : Option Addr) (cc tc gc : Nat) (gh : Nat → GH) (X : WorldM) (B N : Nat) (w : World) (h : OwnR w B ca cc (some ⟨bt, 0, none⟩) (some ⟨bg, 0, none⟩) gh X) (hf : RFit X) (hk : Blk w kb 26 #[.int .i64 X.now, .slice ca X.cpus.length cc, .slice (some ⟨bt, 0, none⟩) X.tasks.length tc, .slice (some ⟨bg, 0, none⟩) X.groups.length gc]) (hH : ∀ i, Has ca (some ⟨bt, 0, none⟩) (some ⟨bg, 0, none⟩) gh X.groups.length i → i < N ∧ i ≠ kb) (hN : kb < N ∧ N ≤ w.heap.size) (hB : B ≤ w.heap.size) (A : Option Addr) (c : Nat) (l : List Int) (hI : IntR w N A l) (hl : l.length ≤ 20001) (hn : l.length ≠ 10) :
    Calls Tryz.prog 74 #[.pointer (some ⟨kb, 0, none⟩), .slice A l.length c] w (IPost bt bg kb ca tc gc gh X B none w) := by
  have ne : ((l.length : Int) != 10) = true := by simp only [bne_iff_ne]; omega
  have HH := Lib.hid hH
  have HN := Lib.hid hN
  have OW := Lib.hid h
  have K0 := Lib.hid hk
  have HI := Lib.hid hI
  have HF := Lib.hid hf
  have HG8 := Lib.hid hf.gl
  have HT12 := Lib.hid hf.task
  have hc4 := hf.cpu
  have hc0 : (X.cpus.length : Int) ≤ 4 := by omega
  have HB := Lib.hid hB
  clear h hf hk hH hN hI hB
  go_enter Tryz.func74, Tryz.ntmps74
  go_wp2
  go_ret
  exact ⟨Keep.refl _ _, rfl⟩
set_option maxRecDepth 100000 in
set_option maxHeartbeats 4000000 in
theorem iTask_off (bt bg kb : Nat) (ca : Option Addr) (cc tc gc : Nat) (gh : Nat → GH) (X : WorldM) (B N : Nat) (w : World) (h : OwnR w B ca cc (some ⟨bt, 0, none⟩) (some ⟨bg, 0, none⟩) gh X) (hf : RFit X) (hk : Blk w kb 26 #[.int .i64 X.now, .slice ca X.cpus.length cc, .slice (some ⟨bt, 0, none⟩) X.tasks.length tc, .slice (some ⟨bg, 0, none⟩) X.groups.length gc]) (hH : ∀ i, Has ca (some ⟨bt, 0, none⟩) (some ⟨bg, 0, none⟩) gh X.groups.length i → i < N ∧ i ≠ kb) (hN : kb < N ∧ N ≤ w.heap.size) (hB : B ≤ w.heap.size) (A : Option Addr) (c : Nat) (l : List Int) (hI : IntR w N A l) (hl : l.length ≤ 20001) (hn : l.length = 10) (hr : inR (gI l 0) 0 11 = false) :
    Calls Tryz.prog 74 #[.pointer (some ⟨kb, 0, none⟩), .slice A l.length c] w (IPost bt bg kb ca tc gc gh X B none w) := by
  have ne : ((l.length : Int) != 10) = false := by rw [hn]; rfl
  have HLN := Lib.hid hn
  have hlx : 10 ≤ l.length := by omega
  have HR := Lib.hid hr
  clear hn hr
  have HH := Lib.hid hH
  have HN := Lib.hid hN
  have OW := Lib.hid h
  have K0 := Lib.hid hk
  have HI := Lib.hid hI
  have HF := Lib.hid hf
  have HG8 := Lib.hid hf.gl
  have HT12 := Lib.hid hf.task
  have hc4 := hf.cpu
  have hc0 : (X.cpus.length : Int) ≤ 4 := by omega
  have HB := Lib.hid hB
  clear h hf hk hH hN hI hB
  go_enter Tryz.func74, Tryz.ntmps74
  obtain ⟨gI0, rfl, hgi, hgB, n0⟩ := int_at HI.out (i := 0) (by omega)
  have il : (0 : Int) < (l.length : Int) := by omega
  go_wp2_with (go_at_call 108; refine (iInRange_any _ _ _ _).mono ?_; rintro e w' ⟨rfl, rfl⟩; rw [HR.out])
  go_ret
  exact ⟨Keep.refl _ _, rfl⟩
set_option maxRecDepth 100000 in
set_option maxHeartbeats 4000000 in
theorem iTask_yes (bt bg kb : Nat) (ca : Option Addr) (cc tc gc : Nat) (gh : Nat → GH) (X : WorldM) (B N : Nat) (w : World) (h : OwnR w B ca cc (some ⟨bt, 0, none⟩) (some ⟨bg, 0, none⟩) gh X) (hf : RFit X) (hk : Blk w kb 26 #[.int .i64 X.now, .slice ca X.cpus.length cc, .slice (some ⟨bt, 0, none⟩) X.tasks.length tc, .slice (some ⟨bg, 0, none⟩) X.groups.length gc]) (hH : ∀ i, Has ca (some ⟨bt, 0, none⟩) (some ⟨bg, 0, none⟩) gh X.groups.length i → i < N ∧ i ≠ kb) (hN : kb < N ∧ N ≤ w.heap.size) (hB : B ≤ w.heap.size) (A : Option Addr) (c : Nat) (l : List Int) (hI : IntR w N A l) (hl : l.length ≤ 20001) (hn : l.length = 10) (g : Nat) (hg : gI l 0 = g) (hg8 : g < 12) :
    Calls Tryz.prog 74 #[.pointer (some ⟨kb, 0, none⟩), .slice A l.length c] w (IPost bt bg kb ca tc gc gh X B (some { X with tasks := X.tasks.set g (taskOf l) }) w) := by
  have ne : ((l.length : Int) != 10) = false := by rw [hn]; rfl
  have HLN := Lib.hid hn
  have hlx : 10 ≤ l.length := by omega
  have HGE := Lib.hid hg
  have gi0 : (0 : Int) ≤ (g : Int) := by omega
  have HR := Lib.hid (show inR (g : Int) 0 11 = true by rw [inR_iff]; omega)
  clear hn hg
  have HH := Lib.hid hH
  have HN := Lib.hid hN
  have OW := Lib.hid h
  have K0 := Lib.hid hk
  have HI := Lib.hid hI
  have HF := Lib.hid hf
  have HG8 := Lib.hid hf.gl
  have HT12 := Lib.hid hf.task
  have hc4 := hf.cpu
  have hc0 : (X.cpus.length : Int) ≤ 4 := by omega
  have HB := Lib.hid hB
  clear h hf hk hH hN hI hB
  go_enter Tryz.func74, Tryz.ntmps74
  have HG := Lib.hid (show g < X.tasks.length by rw [HT12.out]; exact hg8)
  have gi1 : (g : Int) < (X.tasks.length : Int) := by rw [HT12.out]; omega
  obtain ⟨gI0, rfl, hgi, hgB, n0⟩ := int_at HI.out (i := 0) (by omega)
  obtain ⟨_, e1, _, _, n1⟩ := int_at HI.out (i := 1) (by omega)
  cases e1
  obtain ⟨_, e1, _, _, n2⟩ := int_at HI.out (i := 2) (by omega)
  cases e1
  obtain ⟨_, e1, _, _, n3⟩ := int_at HI.out (i := 3) (by omega)
  cases e1
  obtain ⟨_, e1, _, _, n4⟩ := int_at HI.out (i := 4) (by omega)
  cases e1
  obtain ⟨_, e1, _, _, n5⟩ := int_at HI.out (i := 5) (by omega)
  cases e1
  obtain ⟨_, e1, _, _, n6⟩ := int_at HI.out (i := 6) (by omega)
  cases e1
  obtain ⟨_, e1, _, _, n7⟩ := int_at HI.out (i := 7) (by omega)
  cases e1
  obtain ⟨_, e1, _, _, n8⟩ := int_at HI.out (i := 8) (by omega)
  cases e1
  obtain ⟨_, e1, _, _, n9⟩ := int_at HI.out (i := 9) (by omega)
  cases e1
  have il : (9 : Int) < (l.length : Int) := by omega
  rw [HGE.out] at n0
  go_upto_region 3 with (go_at_call 108; refine (iInRange_any _ _ _ _).mono ?_; rintro e w' ⟨rfl, rfl⟩; rw [HR.out])
  clear ne
  have c0 := K0.out.cell 0
  have c1 := K0.out.cell 1
  have c2 := K0.out.cell 2
  have c3 := K0.out.cell 3
  have cf := fun i => K0.out.frozen i
  simp at c0 c1 c2 c3
  obtain ⟨_, e, _, _, v0, f0⟩ := OW.out.own.task.cell (k := g) (i := 0) HG.out (by omega); cases e
  obtain ⟨_, e, _, _, v1, f1⟩ := OW.out.own.task.cell (k := g) (i := 1) HG.out (by omega); cases e
  obtain ⟨_, e, _, _, v2, f2⟩ := OW.out.own.task.cell (k := g) (i := 2) HG.out (by omega); cases e
  obtain ⟨_, e, _, _, v3, f3⟩ := OW.out.own.task.cell (k := g) (i := 3) HG.out (by omega); cases e
  obtain ⟨_, e, _, _, v4, f4⟩ := OW.out.own.task.cell (k := g) (i := 4) HG.out (by omega); cases e
  obtain ⟨_, e, _, _, v5, f5⟩ := OW.out.own.task.cell (k := g) (i := 5) HG.out (by omega); cases e
  obtain ⟨_, e, _, _, v6, f6⟩ := OW.out.own.task.cell (k := g) (i := 6) HG.out (by omega); cases e
  obtain ⟨_, e, _, _, v7, f7⟩ := OW.out.own.task.cell (k := g) (i := 7) HG.out (by omega); cases e
  obtain ⟨_, e, _, _, v8, f8⟩ := OW.out.own.task.cell (k := g) (i := 8) HG.out (by omega); cases e
  simp only [Nat.add_zero] at v0 f0
  have z_c2 := fun d os => cell_regrown c2 d os
  have z_n0 := fun d os => cell_regrown n0 d os
  have z_n1 := fun d os => cell_regrown n1 d os
  have z_n2 := fun d os => cell_regrown n2 d os
  have z_n3 := fun d os => cell_regrown n3 d os
  have z_n4 := fun d os => cell_regrown n4 d os
  have z_n5 := fun d os => cell_regrown n5 d os
  have z_n6 := fun d os => cell_regrown n6 d os
  have z_n7 := fun d os => cell_regrown n7 d os
  have z_n8 := fun d os => cell_regrown n8 d os
  have z_n9 := fun d os => cell_regrown n9 d os
  have z_v0 := fun d os => cell_regrown v0 d os
  have z_v1 := fun d os => cell_regrown v1 d os
  have z_v2 := fun d os => cell_regrown v2 d os
  have z_v3 := fun d os => cell_regrown v3 d os
  have z_v4 := fun d os => cell_regrown v4 d os
  have z_v5 := fun d os => cell_regrown v5 d os
  have z_v6 := fun d os => cell_regrown v6 d os
  have z_v7 := fun d os => cell_regrown v7 d os
  have z_v8 := fun d os => cell_regrown v8 d os
  refine region_S 36 [0, 0, 0, 0, 0, 0, 0, 0, 0, 0, 0, 0, 0, 0, 0, 0, 0, 0, 0, 0, 0, 0, 0, 0, 0, 0, 0, 0, 0, 0, 0, 0, 0, 0, 0, 0, 2] [0, 1, 2, 3, 4, 5, 6, 7, 8, 9, 10, 11, 12, 13, 14, 15, 16, 17, 18, 19, 20, 21, 22, 23, 24, 25, 26, 27, 28, 29, 30, 31, 32, 33, 34, 35, 36] (by kernel_rfl) (by kernel_rfl) (by kernel_rfl) rfl (by kernel_rfl) (by kernel_rfl) ?_
  simp only [permL, List.getElem?_cons_zero, List.getElem?_cons_succ, Option.toList_some, List.cons_append, List.nil_append]
  repeat (first | (refine wpS_skip (by rfl) ?_; simp only [Act.put, List.setIfInBounds_toArray, List.set_cons_zero, List.set_cons_succ]) | (refine wpS_det (by rfl) (fun K hK => ?_); go_big_quiet_op; refine hK _ ?_; clear hK K))
  refine wpS_end (by rfl) (fun K hK => ?_)
  go_big_op
  refine hK _ _ ?_
  clear hK K
  refine wpS_nil ?_
  go_upto_region 4 with (fail)
  refine genR (p := fun W => Code.wp _ _ _ _ W) ?_
  intro w6 hw6
  have e6 : (Go.Proofs.YtomllcclallcdaaGreatDoor.wr bt 9 g (tl l) w).drew = w6 := hw6
  have OW6 := Lib.hid (show OwnR w6 B ca cc (some ⟨bt, 0, none⟩) (some ⟨bg, 0, none⟩) gh ({ X with tasks := X.tasks.set g (taskOf l) } : WorldM) by rw [← e6]; exact (OW.out.task HG.out (tl l) (by simp [tl]) (tl_cells _ _)).below (Below.refl _ _).drew)
  have KK := Lib.hid (show Keep (fun j => j = bt) w w6 by rw [← e6]; exact (Keep.sets (S := fun j => j = bt) rfl _ _).trans (Keep.of_below (Below.refl _ _).drew))
  have HBT := Lib.hid (HH.out bt (.inr (.inl rfl)))
  have K0d := Lib.hid (KK.out.blk K0.out fun e => HBT.out.2 e.symm)
  clear hw6 e6 n0 n1 n2 n3 n4 n5 n6 n7 n8 n9 v0 f0 v1 f1 v2 f2 v3 f3 v4 f4 v5 f5 v6 f6 v7 f7 v8 f8 z_c2 z_n0 z_n1 z_n2 z_n3 z_n4 z_n5 z_n6 z_n7 z_n8 z_n9 z_v0 z_v1 z_v2 z_v3 z_v4 z_v5 z_v6 z_v7 z_v8
  clear c0 c1 c2 c3 cf
  go_wp2
  go_ret
  refine ⟨KK.out.mono fun j _ e => by subst e; exact .inl (.inr (.inl rfl)), rfl, ca, cc, gh, ?_, OW6.out, fun i hi => .inl hi⟩
  have q := K0d.out
  rw [← show ({ X with tasks := X.tasks.set g (taskOf l) } : WorldM).tasks.length = X.tasks.length by simp] at q
  exact q
set_option maxRecDepth 100000 in
set_option maxHeartbeats 4000000 in
theorem iShelf_no (bt bg kb : Nat) (ca : Option Addr) (cc tc gc : Nat) (gh : Nat → GH) (X : WorldM) (B N : Nat) (w : World) (h : OwnR w B ca cc (some ⟨bt, 0, none⟩) (some ⟨bg, 0, none⟩) gh X) (hf : RFit X) (hk : Blk w kb 26 #[.int .i64 X.now, .slice ca X.cpus.length cc, .slice (some ⟨bt, 0, none⟩) X.tasks.length tc, .slice (some ⟨bg, 0, none⟩) X.groups.length gc]) (hH : ∀ i, Has ca (some ⟨bt, 0, none⟩) (some ⟨bg, 0, none⟩) gh X.groups.length i → i < N ∧ i ≠ kb) (hN : kb < N ∧ N ≤ w.heap.size) (hB : B ≤ w.heap.size) (A : Option Addr) (c : Nat) (l : List Int) (hI : IntR w N A l) (hl : l.length ≤ 20001) (hn : l.length ≠ 7) :
    Calls Tryz.prog 72 #[.pointer (some ⟨kb, 0, none⟩), .slice A l.length c] w (IPost bt bg kb ca tc gc gh X B none w) := by
  have ne : ((l.length : Int) != 7) = true := by simp only [bne_iff_ne]; omega
  have HH := Lib.hid hH
  have HN := Lib.hid hN
  have OW := Lib.hid h
  have K0 := Lib.hid hk
  have HI := Lib.hid hI
  have HF := Lib.hid hf
  have HG8 := Lib.hid hf.gl
  have HT12 := Lib.hid hf.task
  have hc4 := hf.cpu
  have hc0 : (X.cpus.length : Int) ≤ 4 := by omega
  have HB := Lib.hid hB
  clear h hf hk hH hN hI hB
  go_enter Tryz.func72, Tryz.ntmps72
  go_upto_region 1 with (fail)
  refine region_by [false, false, false, false, false, false, false, true, false, false, false, false, false, false, false, false, false, false, false, false, false, false, false, false, false, false, false, false, false, false, false, false, false] (by kernel_rfl) (by kernel_rfl) (by kernel_rfl) ?_
  repeat (first | (refine wpR_skip (by rfl) ?_; simp only [Act.put, List.setIfInBounds_toArray, List.set_cons_zero, List.set_cons_succ]) | (refine wpR_det (by rfl) (fun K hK => ?_); go_big_quiet_op; refine hK _ ?_; clear hK K))
  refine wpR_nil ?_
  go_wp2
  go_ret
  exact ⟨Keep.of_below (Below.refl w.heap.size w).drew, rfl⟩
set_option maxRecDepth 100000 in
set_option maxHeartbeats 4000000 in
theorem iShelf_off (bt bg kb : Nat) (ca : Option Addr) (cc tc gc : Nat) (gh : Nat → GH) (X : WorldM) (B N : Nat) (w : World) (h : OwnR w B ca cc (some ⟨bt, 0, none⟩) (some ⟨bg, 0, none⟩) gh X) (hf : RFit X) (hk : Blk w kb 26 #[.int .i64 X.now, .slice ca X.cpus.length cc, .slice (some ⟨bt, 0, none⟩) X.tasks.length tc, .slice (some ⟨bg, 0, none⟩) X.groups.length gc]) (hH : ∀ i, Has ca (some ⟨bt, 0, none⟩) (some ⟨bg, 0, none⟩) gh X.groups.length i → i < N ∧ i ≠ kb) (hN : kb < N ∧ N ≤ w.heap.size) (hB : B ≤ w.heap.size) (A : Option Addr) (c : Nat) (l : List Int) (hI : IntR w N A l) (hl : l.length ≤ 20001) (hn : l.length = 7) (hr : inR (gI l 0) 0 7 = false) :
    Calls Tryz.prog 72 #[.pointer (some ⟨kb, 0, none⟩), .slice A l.length c] w (IPost bt bg kb ca tc gc gh X B none w) := by
  have ne : ((l.length : Int) != 7) = false := by rw [hn]; rfl
  have HLN := Lib.hid hn
  have hlx : 7 ≤ l.length := by omega
  have HR := Lib.hid hr
  clear hn hr
  have HH := Lib.hid hH
  have HN := Lib.hid hN
  have OW := Lib.hid h
  have K0 := Lib.hid hk
  have HI := Lib.hid hI
  have HF := Lib.hid hf
  have HG8 := Lib.hid hf.gl
  have HT12 := Lib.hid hf.task
  have hc4 := hf.cpu
  have hc0 : (X.cpus.length : Int) ≤ 4 := by omega
  have HB := Lib.hid hB
  clear h hf hk hH hN hI hB
  go_enter Tryz.func72, Tryz.ntmps72
  obtain ⟨gI0, rfl, hgi, hgB, n0⟩ := int_at HI.out (i := 0) (by omega)
  have il : (0 : Int) < (l.length : Int) := by omega
  go_upto_region 1 with (fail)
  have z_n0 := fun d os => cell_regrown n0 d os
  refine region_by [false, false, false, false, false, false, false, true, false, false, false, false, false, false, false, false, false, false, false, false, false, false, false, false, false, false, false, false, false, false, false, false, false] (by kernel_rfl) (by kernel_rfl) (by kernel_rfl) ?_
  repeat (first | (refine wpR_skip (by rfl) ?_; simp only [Act.put, List.setIfInBounds_toArray, List.set_cons_zero, List.set_cons_succ]) | (refine wpR_det (by rfl) (fun K hK => ?_); go_big_quiet_op; refine hK _ ?_; clear hK K))
  refine wpR_bar (by rfl) (fun K hK => ?_)
  go_big_op
  go_at_call 108
  refine (iInRange_any _ _ _ _).mono ?_
  rintro e w' ⟨rfl, rfl⟩
  rw [HR.out]
  refine hK _ _ (regrown_of_below (Below.refl w.heap.size w).drew) ?_
  clear hK K
  repeat (first | (refine wpR_skip (by rfl) ?_; simp only [Act.put, List.setIfInBounds_toArray, List.set_cons_zero, List.set_cons_succ]) | (refine wpR_det (by rfl) (fun K hK => ?_); go_big_quiet_op; refine hK _ ?_; clear hK K))
  refine wpR_nil ?_
  go_wp2
  go_ret
  exact ⟨Keep.of_below (Below.refl w.heap.size w).drew, rfl⟩
set_option maxRecDepth 100000 in
set_option maxHeartbeats 4000000 in
theorem iShelf_mis (bt bg kb : Nat) (ca : Option Addr) (cc tc gc : Nat) (gh : Nat → GH) (X : WorldM) (B N : Nat) (w : World) (h : OwnR w B ca cc (some ⟨bt, 0, none⟩) (some ⟨bg, 0, none⟩) gh X) (hf : RFit X) (hk : Blk w kb 26 #[.int .i64 X.now, .slice ca X.cpus.length cc, .slice (some ⟨bt, 0, none⟩) X.tasks.length tc, .slice (some ⟨bg, 0, none⟩) X.groups.length gc]) (hH : ∀ i, Has ca (some ⟨bt, 0, none⟩) (some ⟨bg, 0, none⟩) gh X.groups.length i → i < N ∧ i ≠ kb) (hN : kb < N ∧ N ≤ w.heap.size) (hB : B ≤ w.heap.size) (A : Option Addr) (c : Nat) (l : List Int) (hI : IntR w N A l) (hl : l.length ≤ 20001) (hn : l.length = 7) (g : Nat) (hg : gI l 0 = g) (hg8 : g < 8) (h1 : gI l 1 ≠ (grp X g).shelves.length) :
    Calls Tryz.prog 72 #[.pointer (some ⟨kb, 0, none⟩), .slice A l.length c] w (IPost bt bg kb ca tc gc gh X B none w) := by
  have ne : ((l.length : Int) != 7) = false := by rw [hn]; rfl
  have HLN := Lib.hid hn
  have hlx : 7 ≤ l.length := by omega
  have HGE := Lib.hid hg
  have gi0 : (0 : Int) ≤ (g : Int) := by omega
  have HR := Lib.hid (show inR (g : Int) 0 7 = true by rw [inR_iff]; omega)
  have hne : (gI l 1 != ((grp X g).shelves.length : Int)) = true := by simp only [bne_iff_ne]; exact h1
  clear h1
  clear hn hg
  have HH := Lib.hid hH
  have HN := Lib.hid hN
  have OW := Lib.hid h
  have K0 := Lib.hid hk
  have HI := Lib.hid hI
  have HF := Lib.hid hf
  have HG8 := Lib.hid hf.gl
  have HT12 := Lib.hid hf.task
  have hc4 := hf.cpu
  have hc0 : (X.cpus.length : Int) ≤ 4 := by omega
  have HB := Lib.hid hB
  clear h hf hk hH hN hI hB
  go_enter Tryz.func72, Tryz.ntmps72
  have HG := Lib.hid (show g < X.groups.length by rw [HG8.out]; exact hg8)
  have gi1 : (g : Int) < (X.groups.length : Int) := by rw [HG8.out]; omega
  obtain ⟨gI0, rfl, hgi, hgB, n0⟩ := int_at HI.out (i := 0) (by omega)
  obtain ⟨_, e1, _, _, n1⟩ := int_at HI.out (i := 1) (by omega)
  cases e1
  obtain ⟨_, e1, _, _, n2⟩ := int_at HI.out (i := 2) (by omega)
  cases e1
  obtain ⟨_, e1, _, _, n3⟩ := int_at HI.out (i := 3) (by omega)
  cases e1
  obtain ⟨_, e1, _, _, n4⟩ := int_at HI.out (i := 4) (by omega)
  cases e1
  obtain ⟨_, e1, _, _, n5⟩ := int_at HI.out (i := 5) (by omega)
  cases e1
  obtain ⟨_, e1, _, _, n6⟩ := int_at HI.out (i := 6) (by omega)
  cases e1
  have il : (6 : Int) < (l.length : Int) := by omega
  rw [HGE.out] at n0
  have c0 := K0.out.cell 0
  have c1 := K0.out.cell 1
  have c2 := K0.out.cell 2
  have c3 := K0.out.cell 3
  have cf := fun i => K0.out.frozen i
  simp at c0 c1 c2 c3
  obtain ⟨_, e, _, _, v13, _⟩ := OW.out.own.grps.cell (k := g) (i := 13) HG.out (by omega); cases e
  have v13' : w.cell? ⟨bg, g * 14 + 13, none⟩ = some (.slice (gh g).sa (grp X g).shelves.length (gh g).sc) := v13
  clear v13
  have v13 := v13'
  clear v13'
  go_upto_region 1 with (fail)
  have z_n0 := fun d os => cell_regrown n0 d os
  have z_n1 := fun d os => cell_regrown n1 d os
  have z_c3 := fun d os => cell_regrown c3 d os
  have z_v13 := fun d os => cell_regrown v13 d os
  refine region_by [false, false, false, false, false, false, false, true, false, false, false, false, false, false, false, false, false, false, false, false, false, false, false, false, false, false, false, false, false, false, false, false, false] (by kernel_rfl) (by kernel_rfl) (by kernel_rfl) ?_
  repeat (first | (refine wpR_skip (by rfl) ?_; simp only [Act.put, List.setIfInBounds_toArray, List.set_cons_zero, List.set_cons_succ]) | (refine wpR_det (by rfl) (fun K hK => ?_); go_big_quiet_op; refine hK _ ?_; clear hK K))
  refine wpR_bar (by rfl) (fun K hK => ?_)
  go_big_op
  go_at_call 108
  refine (iInRange_any _ _ _ _).mono ?_
  rintro e w' ⟨rfl, rfl⟩
  rw [HR.out]
  refine hK _ _ (regrown_of_below (Below.refl w.heap.size w).drew) ?_
  clear hK K
  repeat (first | (refine wpR_skip (by rfl) ?_; simp only [Act.put, List.setIfInBounds_toArray, List.set_cons_zero, List.set_cons_succ]) | (refine wpR_det (by rfl) (fun K hK => ?_); go_big_quiet_op; refine hK _ ?_; clear hK K))
  refine wpR_nil ?_
  go_wp2
  go_ret
  exact ⟨Keep.of_below (Below.refl w.heap.size w).drew, rfl⟩
set_option maxRecDepth 100000 in
set_option maxHeartbeats 4000000 in
theorem iShelf_full (bt bg kb : Nat) (ca : Option Addr) (cc tc gc : Nat) (gh : Nat → GH) (X : WorldM) (B N : Nat) (w : World) (h : OwnR w B ca cc (some ⟨bt, 0, none⟩) (some ⟨bg, 0, none⟩) gh X) (hf : RFit X) (hk : Blk w kb 26 #[.int .i64 X.now, .slice ca X.cpus.length cc, .slice (some ⟨bt, 0, none⟩) X.tasks.length tc, .slice (some ⟨bg, 0, none⟩) X.groups.length gc]) (hH : ∀ i, Has ca (some ⟨bt, 0, none⟩) (some ⟨bg, 0, none⟩) gh X.groups.length i → i < N ∧ i ≠ kb) (hN : kb < N ∧ N ≤ w.heap.size) (hB : B ≤ w.heap.size) (A : Option Addr) (c : Nat) (l : List Int) (hI : IntR w N A l) (hl : l.length ≤ 20001) (hn : l.length = 7) (g : Nat) (hg : gI l 0 = g) (hg8 : g < 8) (h1 : gI l 1 = (grp X g).shelves.length) (h4 : 4 ≤ (grp X g).shelves.length) :
    Calls Tryz.prog 72 #[.pointer (some ⟨kb, 0, none⟩), .slice A l.length c] w (IPost bt bg kb ca tc gc gh X B none w) := by
  have ne : ((l.length : Int) != 7) = false := by rw [hn]; rfl
  have HLN := Lib.hid hn
  have hlx : 7 ≤ l.length := by omega
  have HGE := Lib.hid hg
  have gi0 : (0 : Int) ≤ (g : Int) := by omega
  have HR := Lib.hid (show inR (g : Int) 0 7 = true by rw [inR_iff]; omega)
  have hne : (gI l 1 != ((grp X g).shelves.length : Int)) = false := by rw [h1]; simp
  have h5 : (4 : Int) ≤ ((grp X g).shelves.length : Int) := by omega
  have h6 : (4 : Int) ≤ gI l 1 := by omega
  clear h1 h4
  clear hn hg
  have HH := Lib.hid hH
  have HN := Lib.hid hN
  have OW := Lib.hid h
  have K0 := Lib.hid hk
  have HI := Lib.hid hI
  have HF := Lib.hid hf
  have HG8 := Lib.hid hf.gl
  have HT12 := Lib.hid hf.task
  have hc4 := hf.cpu
  have hc0 : (X.cpus.length : Int) ≤ 4 := by omega
  have HB := Lib.hid hB
  clear h hf hk hH hN hI hB
  go_enter Tryz.func72, Tryz.ntmps72
  have HG := Lib.hid (show g < X.groups.length by rw [HG8.out]; exact hg8)
  have gi1 : (g : Int) < (X.groups.length : Int) := by rw [HG8.out]; omega
  obtain ⟨gI0, rfl, hgi, hgB, n0⟩ := int_at HI.out (i := 0) (by omega)
  obtain ⟨_, e1, _, _, n1⟩ := int_at HI.out (i := 1) (by omega)
  cases e1
  obtain ⟨_, e1, _, _, n2⟩ := int_at HI.out (i := 2) (by omega)
  cases e1
  obtain ⟨_, e1, _, _, n3⟩ := int_at HI.out (i := 3) (by omega)
  cases e1
  obtain ⟨_, e1, _, _, n4⟩ := int_at HI.out (i := 4) (by omega)
  cases e1
  obtain ⟨_, e1, _, _, n5⟩ := int_at HI.out (i := 5) (by omega)
  cases e1
  obtain ⟨_, e1, _, _, n6⟩ := int_at HI.out (i := 6) (by omega)
  cases e1
  have il : (6 : Int) < (l.length : Int) := by omega
  rw [HGE.out] at n0
  have c0 := K0.out.cell 0
  have c1 := K0.out.cell 1
  have c2 := K0.out.cell 2
  have c3 := K0.out.cell 3
  have cf := fun i => K0.out.frozen i
  simp at c0 c1 c2 c3
  obtain ⟨_, e, _, _, v13, _⟩ := OW.out.own.grps.cell (k := g) (i := 13) HG.out (by omega); cases e
  have v13' : w.cell? ⟨bg, g * 14 + 13, none⟩ = some (.slice (gh g).sa (grp X g).shelves.length (gh g).sc) := v13
  clear v13
  have v13 := v13'
  clear v13'
  go_upto_region 1 with (fail)
  have z_n0 := fun d os => cell_regrown n0 d os
  have z_n1 := fun d os => cell_regrown n1 d os
  have z_c3 := fun d os => cell_regrown c3 d os
  have z_v13 := fun d os => cell_regrown v13 d os
  refine region_by [false, false, false, false, false, false, false, true, false, false, false, false, false, false, false, false, false, false, false, false, false, false, false, false, false, false, false, false, false, false, false, false, false] (by kernel_rfl) (by kernel_rfl) (by kernel_rfl) ?_
  repeat (first | (refine wpR_skip (by rfl) ?_; simp only [Act.put, List.setIfInBounds_toArray, List.set_cons_zero, List.set_cons_succ]) | (refine wpR_det (by rfl) (fun K hK => ?_); go_big_quiet_op; refine hK _ ?_; clear hK K))
  refine wpR_bar (by rfl) (fun K hK => ?_)
  go_big_op
  go_at_call 108
  refine (iInRange_any _ _ _ _).mono ?_
  rintro e w' ⟨rfl, rfl⟩
  rw [HR.out]
  refine hK _ _ (regrown_of_below (Below.refl w.heap.size w).drew) ?_
  clear hK K
  repeat (first | (refine wpR_skip (by rfl) ?_; simp only [Act.put, List.setIfInBounds_toArray, List.set_cons_zero, List.set_cons_succ]) | (refine wpR_det (by rfl) (fun K hK => ?_); go_big_quiet_op; refine hK _ ?_; clear hK K))
  refine wpR_nil ?_
  go_wp2
  go_ret
  exact ⟨Keep.of_below (Below.refl w.heap.size w).drew, rfl⟩
set_option maxRecDepth 100000 in
set_option maxHeartbeats 4000000 in
theorem iShelf_yes (bt bg kb : Nat) (ca : Option Addr) (cc tc gc : Nat) (gh : Nat → GH) (X : WorldM) (B N : Nat) (w : World) (h : OwnR w B ca cc (some ⟨bt, 0, none⟩) (some ⟨bg, 0, none⟩) gh X) (hf : RFit X) (hk : Blk w kb 26 #[.int .i64 X.now, .slice ca X.cpus.length cc, .slice (some ⟨bt, 0, none⟩) X.tasks.length tc, .slice (some ⟨bg, 0, none⟩) X.groups.length gc]) (hH : ∀ i, Has ca (some ⟨bt, 0, none⟩) (some ⟨bg, 0, none⟩) gh X.groups.length i → i < N ∧ i ≠ kb) (hN : kb < N ∧ N ≤ w.heap.size) (hB : B ≤ w.heap.size) (A : Option Addr) (c : Nat) (l : List Int) (hI : IntR w N A l) (hl : l.length ≤ 20001) (hn : l.length = 7) (g : Nat) (hg : gI l 0 = g) (hg8 : g < 8) (h1 : gI l 1 = (grp X g).shelves.length) (h4 : (grp X g).shelves.length < 4) :
    Calls Tryz.prog 72 #[.pointer (some ⟨kb, 0, none⟩), .slice A l.length c] w (IPost bt bg kb ca tc gc gh X B (some (addS X g l)) w) := by
  have ne : ((l.length : Int) != 7) = false := by rw [hn]; rfl
  have HLN := Lib.hid hn
  have hlx : 7 ≤ l.length := by omega
  have HGE := Lib.hid hg
  have gi0 : (0 : Int) ≤ (g : Int) := by omega
  have HR := Lib.hid (show inR (g : Int) 0 7 = true by rw [inR_iff]; omega)
  have hne : (gI l 1 != ((grp X g).shelves.length : Int)) = false := by rw [h1]; simp
  have h5 : ((grp X g).shelves.length : Int) < 4 := by omega
  have h6 : gI l 1 < 4 := by omega
  have H4 := Lib.hid h4
  clear h1 h4
  clear hn hg
  have HH := Lib.hid hH
  have HN := Lib.hid hN
  have OW := Lib.hid h
  have K0 := Lib.hid hk
  have HI := Lib.hid hI
  have HF := Lib.hid hf
  have HG8 := Lib.hid hf.gl
  have HT12 := Lib.hid hf.task
  have hc4 := hf.cpu
  have hc0 : (X.cpus.length : Int) ≤ 4 := by omega
  have HB := Lib.hid hB
  clear h hf hk hH hN hI hB
  go_enter Tryz.func72, Tryz.ntmps72
  have HG := Lib.hid (show g < X.groups.length by rw [HG8.out]; exact hg8)
  have gi1 : (g : Int) < (X.groups.length : Int) := by rw [HG8.out]; omega
  obtain ⟨gI0, rfl, hgi, hgB, n0⟩ := int_at HI.out (i := 0) (by omega)
  obtain ⟨_, e1, _, _, n1⟩ := int_at HI.out (i := 1) (by omega)
  cases e1
  obtain ⟨_, e1, _, _, n2⟩ := int_at HI.out (i := 2) (by omega)
  cases e1
  obtain ⟨_, e1, _, _, n3⟩ := int_at HI.out (i := 3) (by omega)
  cases e1
  obtain ⟨_, e1, _, _, n4⟩ := int_at HI.out (i := 4) (by omega)
  cases e1
  obtain ⟨_, e1, _, _, n5⟩ := int_at HI.out (i := 5) (by omega)
  cases e1
  obtain ⟨_, e1, _, _, n6⟩ := int_at HI.out (i := 6) (by omega)
  cases e1
  have il : (6 : Int) < (l.length : Int) := by omega
  rw [HGE.out] at n0
  have c0 := K0.out.cell 0
  have c1 := K0.out.cell 1
  have c2 := K0.out.cell 2
  have c3 := K0.out.cell 3
  have cf := fun i => K0.out.frozen i
  simp at c0 c1 c2 c3
  obtain ⟨_, e, _, _, v13, _⟩ := OW.out.own.grps.cell (k := g) (i := 13) HG.out (by omega); cases e
  have v13' : w.cell? ⟨bg, g * 14 + 13, none⟩ = some (.slice (gh g).sa (grp X g).shelves.length (gh g).sc) := v13
  clear v13
  have v13 := v13'
  clear v13'
  go_upto_region 1 with (fail)
  have z_n0 := fun d os => cell_regrown n0 d os
  have z_n1 := fun d os => cell_regrown n1 d os
  have z_c3 := fun d os => cell_regrown c3 d os
  have z_v13 := fun d os => cell_regrown v13 d os
  refine region_by [false, false, false, false, false, false, false, true, false, false, false, false, false, false, false, false, false, false, false, false, false, false, false, false, false, false, false, false, false, false, false, false, false] (by kernel_rfl) (by kernel_rfl) (by kernel_rfl) ?_
  repeat (first | (refine wpR_skip (by rfl) ?_; simp only [Act.put, List.setIfInBounds_toArray, List.set_cons_zero, List.set_cons_succ]) | (refine wpR_det (by rfl) (fun K hK => ?_); go_big_quiet_op; refine hK _ ?_; clear hK K))
  refine wpR_bar (by rfl) (fun K hK => ?_)
  go_big_op
  go_at_call 108
  refine (iInRange_any _ _ _ _).mono ?_
  rintro e w' ⟨rfl, rfl⟩
  rw [HR.out]
  refine hK _ _ (regrown_of_below (Below.refl w.heap.size w).drew) ?_
  clear hK K
  repeat (first | (refine wpR_skip (by rfl) ?_; simp only [Act.put, List.setIfInBounds_toArray, List.set_cons_zero, List.set_cons_succ]) | (refine wpR_det (by rfl) (fun K hK => ?_); go_big_quiet_op; refine hK _ ?_; clear hK K))
  refine wpR_nil ?_
  go_upto_region 3 with (fail)
  clear v13 hne h5 h6 ne z_n0 z_n1 z_c3 z_v13 n0 n1 n2 n3 n4 n5 n6
  clear c0 c1 c2 c3 cf
  have bd := (Below.refl w.heap.size w).drew
  have OW2 := Lib.hid (OW.out.below bd)
  have HI2 := Lib.hid (HI.out.below bd)
  have K0b := Lib.hid (K0.out.below bd K0.out.lt)
  have HSZ := Lib.hid bd.size
  have B2 := Lib.hid bd
  clear OW HI K0 bd
  generalize w.drew = w2 at *
  obtain ⟨_, e1, hg2, _, n0⟩ := int_at HI2.out (i := 0) (by omega)
  cases e1
  rw [HGE.out] at n0
  have c0 := K0b.out.cell 0
  have c1 := K0b.out.cell 1
  have c2 := K0b.out.cell 2
  have c3 := K0b.out.cell 3
  have cf := fun i => K0b.out.frozen i
  simp at c0 c1 c2 c3
  have z_c3 := fun d os => cell_regrown c3 d os
  have z_n0 := fun d os => cell_regrown n0 d os
  refine region_by [false, false, false, false, false, false, false, false, false] (by kernel_rfl) (by kernel_rfl) (by kernel_rfl) ?_
  repeat (first | (refine wpR_skip (by rfl) ?_; simp only [Act.put, List.setIfInBounds_toArray, List.set_cons_zero, List.set_cons_succ]) | (refine wpR_det (by rfl) (fun K hK => ?_); go_big_quiet_op; refine hK _ ?_; clear hK K))
  refine wpR_nil ?_
  clear z_c3 z_n0 n0 hg2
  clear c0 c1 c2 c3 cf
  go_upto_region 4 with (fail)
  have bd := (Below.refl w2.heap.size w2).drew
  have OW4 := Lib.hid (OW2.out.below bd)
  have HI4 := Lib.hid (HI2.out.below bd)
  have K0x := Lib.hid (K0b.out.below bd K0b.out.lt)
  have HSY := Lib.hid bd.size
  have B4 := Lib.hid (B2.out.andThen bd)
  clear OW2 HI2 K0b bd
  generalize w2.drew = w4 at *
  obtain ⟨_, e1, hg4, _, n2⟩ := int_at HI4.out (i := 2) (by omega)
  cases e1
  obtain ⟨_, e1, _, _, n3⟩ := int_at HI4.out (i := 3) (by omega)
  cases e1
  obtain ⟨_, e1, _, _, n4⟩ := int_at HI4.out (i := 4) (by omega)
  cases e1
  obtain ⟨_, e1, _, _, n5⟩ := int_at HI4.out (i := 5) (by omega)
  cases e1
  obtain ⟨_, e1, _, _, n6⟩ := int_at HI4.out (i := 6) (by omega)
  cases e1
  obtain ⟨_, e, _, _, v13, _⟩ := OW4.out.own.grps.cell (k := g) (i := 13) HG.out (by omega); cases e
  have v13' : w4.cell? ⟨bg, g * 14 + 13, none⟩ = some (.slice (gh g).sa (grp X g).shelves.length (gh g).sc) := v13
  clear v13
  have v13 := v13'
  clear v13'
  have HSH := Lib.hid (show ∀ j, (Value.slice (gh g).sa (grp X g).shelves.length (gh g).sc).ownBlock = some j → (gh g).sa = some ⟨j, 0, none⟩ from fun j e => by obtain ⟨a, ha, h9⟩ := ob e; rw [ha, ← h9, ← (OW4.out.own.she g HG.out).form ha])
  have HSO := Lib.hid (show ∀ j, (Value.slice (gh g).sa (grp X g).shelves.length (gh g).sc).ownBlock = some j → Has ca (some ⟨bt, 0, none⟩) (some ⟨bg, 0, none⟩) gh X.groups.length j from fun j e => .inr (.inr (.inr ⟨g, HG.out, .inr (.inr (HSH.out j e))⟩)))
  have HBG := Lib.hid (HH.out bg (.inr (.inr (.inl rfl))))
  have HGN := Lib.hid (show ¬ (Value.slice (gh g).sa (grp X g).shelves.length (gh g).sc).ownBlock = some bg from fun e => by obtain ⟨a, ha, h9⟩ := ob e; exact RowR.ne OW4.out.own.grps (OW4.out.own.she g HG.out) (by decide) rfl ha h9.symm)
  have hs4 : (grp X g).shelves.length ≤ 1048576 := by have := HF.out.she g; omega
  obtain ⟨g5, cap5, w5, hrun, hown5, hkeep5, hg5, hlt5, hB5⟩ := app_drew slSh (by omega) (by omega) (ty := 54) (T' := 59) (OW4.out.shr g HG.out) (by have := HB.out; have := HSZ.out; have := HSY.out; omega) hs4 [.int .i64 (gI l 2), .bool (gI l 3 == 1), .int .i64 (gI l 4), .int .i64 (gI l 5), .int .i64 (gI l 6)] rfl (by simp [Value.oneCell'])
  obtain ⟨F, hFt, hFf⟩ : ∃ F : Bool → World, F true = w4 ∧ F false = w5 := ⟨fun b => if b then w4 else w5, rfl, rfl⟩
  have qq0 := fun b d os => cell_regrown (both hFt hFf (p := fun W => W.cell? _ = some _) v13 (hkeep5.cell v13 (by have := HBG.out.1; have := HN.out; have := HSZ.out; have := HSY.out; omega) HGN.out) b) d os
  have qq1 := fun b d os => cell_regrown (both hFt hFf (p := fun W => W.cell? _ = some _) n2 (hkeep5.cell n2 hg4 (fun e => by have := (HH.out _ (HSO.out _ e)).1; omega)) b) d os
  have qq2 := fun b d os => cell_regrown (both hFt hFf (p := fun W => W.cell? _ = some _) n3 (hkeep5.cell n3 hg4 (fun e => by have := (HH.out _ (HSO.out _ e)).1; omega)) b) d os
  have qq3 := fun b d os => cell_regrown (both hFt hFf (p := fun W => W.cell? _ = some _) n4 (hkeep5.cell n4 hg4 (fun e => by have := (HH.out _ (HSO.out _ e)).1; omega)) b) d os
  have qq4 := fun b d os => cell_regrown (both hFt hFf (p := fun W => W.cell? _ = some _) n5 (hkeep5.cell n5 hg4 (fun e => by have := (HH.out _ (HSO.out _ e)).1; omega)) b) d os
  have qq5 := fun b d os => cell_regrown (both hFt hFf (p := fun W => W.cell? _ = some _) n6 (hkeep5.cell n6 hg4 (fun e => by have := (HH.out _ (HSO.out _ e)).1; omega)) b) d os
  have HFt := Lib.hid hFt
  have HFf := Lib.hid hFf
  have HRUN := Lib.hid hrun
  clear hFt hFf hrun
  refine region_SC (twoC F) (twoC_drew true HFt.out) 24 [0, 0, 0, 0, 0, 0, 0, 0, 0, 0, 0, 0, 0, 0, 0, 0, 0, 0, 0, 0, 0, 0, 1, 1, 1, 1, 2] [0, 1, 2, 3, 4, 5, 6, 7, 8, 9, 10, 11, 12, 13, 14, 15, 16, 17, 18, 19, 20, 21, 22, 23, 24, 25, 26] (by kernel_rfl) (by kernel_rfl) (by kernel_rfl) rfl (by kernel_rfl) (by kernel_rfl) ?_
  simp only [permL, List.getElem?_cons_zero, List.getElem?_cons_succ, Option.toList_some, List.cons_append, List.nil_append]
  unfold twoC
  repeat (first | (refine wpS_skip (by rfl) ?_; simp only [Act.put, List.setIfInBounds_toArray, List.set_cons_zero, List.set_cons_succ]) | (refine wpS_det (by rfl) (fun K hK => ?_); go_big_quiet_op; refine hK _ ?_; clear hK K))
  refine wpS_bar (by rfl) (fun K hK => ?_)
  go_big_op
  refine hK _ _ (twoC_below true (by rw [HFt.out]; exact (Below.refl _ _).drew.alloc (Nat.le_refl _) _)) ?_
  clear hK K
  refine wpS_bar (by rfl) (fun K hK => ?_)
  refine wp_append_run rfl rfl rfl HRUN.out ?_
  refine hK _ _ (twoC_below false (by rw [HFf.out]; exact Below.refl _ _)) ?_
  clear hK K
  simp only [Act.put, List.setIfInBounds_toArray, List.set_cons_zero, List.set_cons_succ]
  repeat (first | (refine wpS_skip (by rfl) ?_; simp only [Act.put, List.setIfInBounds_toArray, List.set_cons_zero, List.set_cons_succ]) | (refine wpS_det (by rfl) (fun K hK => ?_); go_big_quiet_op; refine hK _ ?_; clear hK K))
  clear qq0 qq1 qq2 qq3 qq4 qq5
  refine wpS_bar (by rfl) (fun K hK => ?_)
  go_big_op
  refine hK _ _ (twoC_below false (by rw [HFf.out]; exact Below.refl _ _)) ?_
  clear hK K
  try simp only [Act.put, List.setIfInBounds_toArray, List.set_cons_zero, List.set_cons_succ]
  refine wpS_bar (by rfl) (fun K hK => ?_)
  go_big_op
  refine hK _ _ (twoC_below false (by rw [HFf.out]; exact Below.refl _ _)) ?_
  clear hK K
  try simp only [Act.put, List.setIfInBounds_toArray, List.set_cons_zero, List.set_cons_succ]
  have GR5 := OW4.out.own.grps.keep hkeep5 (fun a ha hb => by obtain ⟨a2, h2, h3⟩ := ob hb; exact RowR.ne OW4.out.own.grps (OW4.out.own.she g HG.out) (by decide) ha h2 h3.symm)
  obtain ⟨_, e, _, _, z13, fz13⟩ := GR5.cell (k := g) (i := 13) HG.out (by omega); cases e
  refine wpS_end (by rfl) (fun K hK => ?_)
  go_big_op
  refine hK _ _ ?_
  clear hK K
  refine wpS_nil ?_
  go_upto_region 5 with (fail)
  refine genR (p := fun W => Code.wp _ _ _ _ W) ?_
  intro w6 hw6
  have e6 : w5.setCell ⟨bg, g * 14 + 13, none⟩ (.slice (some ⟨g5, 0, none⟩) ((grp X g).shelves.length + 1) cap5) = w6 := hw6
  have OW6 := Lib.hid (show OwnR w6 B ca cc (some ⟨bt, 0, none⟩) (some ⟨bg, 0, none⟩) (hset gh g { gh g with sa := some ⟨g5, 0, none⟩, sc := cap5 }) (addS X g l) by rw [← e6]; exact OW4.out.shelf HG.out (shelfOf l) hkeep5 hown5 (hg5.imp_right Nat.le_of_lt))
  have KS := Lib.hid (show Keep (fun j => j = bg) w5 w6 by rw [← e6]; exact Keep.set _ _ _ rfl)
  have K0d := Lib.hid (KS.out.blk (hkeep5.blk K0x.out fun e => (HH.out _ (HSO.out _ e)).2 rfl) fun e => HBG.out.2 e.symm)
  have HGS := Lib.hid (show (addS X g l).groups.length = X.groups.length by simp [setG, addS])
  have HNW := Lib.hid (show ∀ i, Has ca (some ⟨bt, 0, none⟩) (some ⟨bg, 0, none⟩) (hset gh g { gh g with sa := some ⟨g5, 0, none⟩, sc := cap5 }) (addS X g l).groups.length i → Has ca (some ⟨bt, 0, none⟩) (some ⟨bg, 0, none⟩) gh X.groups.length i ∨ w.heap.size ≤ i from fun i hi => by
    rw [HGS.out] at hi
    refine has_set (x := { gh g with sa := some ⟨g5, 0, none⟩, sc := cap5 }) (N := w.heap.size) HG.out (fun _ h => .inl h) (fun _ h => .inl h) (fun j h => ?_) hi
    cases h
    rcases hg5 with h | h
    · exact .inl (HSH.out _ h)
    · exact .inr (by have := HSZ.out; have := HSY.out; omega))
  have KE := Lib.hid (show Keep (fun g => Has ca (some ⟨bt, 0, none⟩) (some ⟨bg, 0, none⟩) gh X.groups.length g ∨ g = kb) w w6 from ((Keep.of_below B4.out).trans (hkeep5.mono fun j _ hj => .inl (HSO.out j hj))).trans (KS.out.mono fun j _ e => by subst e; exact .inl (.inr (.inr (.inl rfl)))))
  clear HFt HFf HRUN hkeep5 hown5 hg5 hlt5 hB5 z13 fz13 GR5 hw6 e6 KS K0x OW4 HI4 hg4 v13 n2 n3 n4 n5 n6
  go_wp2
  go_ret
  refine ⟨KE.out, rfl, ca, cc, (hset gh g { gh g with sa := some ⟨g5, 0, none⟩, sc := cap5 }), ?_, OW6.out, HNW.out⟩
  have q := K0d.out
  rw [← HGS.out] at q
  exact q
set_option maxRecDepth 100000 in
set_option maxHeartbeats 4000000 in
theorem iBand_short (bt bg kb : Nat) (ca : Option Addr) (cc tc gc : Nat) (gh : Nat → GH) (X : WorldM) (B N : Nat) (w : World) (h : OwnR w B ca cc (some ⟨bt, 0, none⟩) (some ⟨bg, 0, none⟩) gh X) (hf : RFit X) (hk : Blk w kb 26 #[.int .i64 X.now, .slice ca X.cpus.length cc, .slice (some ⟨bt, 0, none⟩) X.tasks.length tc, .slice (some ⟨bg, 0, none⟩) X.groups.length gc]) (hH : ∀ i, Has ca (some ⟨bt, 0, none⟩) (some ⟨bg, 0, none⟩) gh X.groups.length i → i < N ∧ i ≠ kb) (hN : kb < N ∧ N ≤ w.heap.size) (hB : B ≤ w.heap.size) (A : Option Addr) (c : Nat) (l : List Int) (hI : IntR w N A l) (hl : l.length ≤ 20001) (hn : l.length < 4) :
    Calls Tryz.prog 73 #[.pointer (some ⟨kb, 0, none⟩), .slice A l.length c] w (IPost bt bg kb ca tc gc gh X B none w) := by
  have b1 : (l.length : Int) < 4 := by omega
  clear hn
  have HH := Lib.hid hH
  have HN := Lib.hid hN
  have OW := Lib.hid h
  have K0 := Lib.hid hk
  have HI := Lib.hid hI
  have HF := Lib.hid hf
  have HG8 := Lib.hid hf.gl
  have HT12 := Lib.hid hf.task
  have hc4 := hf.cpu
  have hc0 : (X.cpus.length : Int) ≤ 4 := by omega
  have HB := Lib.hid hB
  clear h hf hk hH hN hI hB
  go_enter Tryz.func73, Tryz.ntmps73
  go_wp2
  go_ret
  exact ⟨Keep.refl _ _, rfl⟩
set_option maxRecDepth 100000 in
set_option maxHeartbeats 4000000 in
theorem iBand_odd (bt bg kb : Nat) (ca : Option Addr) (cc tc gc : Nat) (gh : Nat → GH) (X : WorldM) (B N : Nat) (w : World) (h : OwnR w B ca cc (some ⟨bt, 0, none⟩) (some ⟨bg, 0, none⟩) gh X) (hf : RFit X) (hk : Blk w kb 26 #[.int .i64 X.now, .slice ca X.cpus.length cc, .slice (some ⟨bt, 0, none⟩) X.tasks.length tc, .slice (some ⟨bg, 0, none⟩) X.groups.length gc]) (hH : ∀ i, Has ca (some ⟨bt, 0, none⟩) (some ⟨bg, 0, none⟩) gh X.groups.length i → i < N ∧ i ≠ kb) (hN : kb < N ∧ N ≤ w.heap.size) (hB : B ≤ w.heap.size) (A : Option Addr) (c : Nat) (l : List Int) (hI : IntR w N A l) (hl : l.length ≤ 20001) (hn : 4 ≤ l.length) (h2 : l.length % 2 = 1) :
    Calls Tryz.prog 73 #[.pointer (some ⟨kb, 0, none⟩), .slice A l.length c] w (IPost bt bg kb ca tc gc gh X B none w) := by
  have b1 : (4 : Int) ≤ (l.length : Int) := by omega
  have b2 : ((l.length : Int).tmod 2) = 1 := by rw [Int.tmod_eq_emod_of_nonneg (by omega)]; omega
  clear hn h2
  have HH := Lib.hid hH
  have HN := Lib.hid hN
  have OW := Lib.hid h
  have K0 := Lib.hid hk
  have HI := Lib.hid hI
  have HF := Lib.hid hf
  have HG8 := Lib.hid hf.gl
  have HT12 := Lib.hid hf.task
  have hc4 := hf.cpu
  have hc0 : (X.cpus.length : Int) ≤ 4 := by omega
  have HB := Lib.hid hB
  clear h hf hk hH hN hI hB
  go_enter Tryz.func73, Tryz.ntmps73
  go_wp2
  go_ret
  exact ⟨Keep.refl _ _, rfl⟩
set_option maxRecDepth 100000 in
set_option maxHeartbeats 4000000 in
theorem iBand_long (bt bg kb : Nat) (ca : Option Addr) (cc tc gc : Nat) (gh : Nat → GH) (X : WorldM) (B N : Nat) (w : World) (h : OwnR w B ca cc (some ⟨bt, 0, none⟩) (some ⟨bg, 0, none⟩) gh X) (hf : RFit X) (hk : Blk w kb 26 #[.int .i64 X.now, .slice ca X.cpus.length cc, .slice (some ⟨bt, 0, none⟩) X.tasks.length tc, .slice (some ⟨bg, 0, none⟩) X.groups.length gc]) (hH : ∀ i, Has ca (some ⟨bt, 0, none⟩) (some ⟨bg, 0, none⟩) gh X.groups.length i → i < N ∧ i ≠ kb) (hN : kb < N ∧ N ≤ w.heap.size) (hB : B ≤ w.heap.size) (A : Option Addr) (c : Nat) (l : List Int) (hI : IntR w N A l) (hl : l.length ≤ 20001) (hn : 4 ≤ l.length) (h2 : l.length % 2 = 0) (h3 : 12 < l.length) :
    Calls Tryz.prog 73 #[.pointer (some ⟨kb, 0, none⟩), .slice A l.length c] w (IPost bt bg kb ca tc gc gh X B none w) := by
  have b1 : (4 : Int) ≤ (l.length : Int) := by omega
  have b2 : ((l.length : Int).tmod 2) = 0 := by rw [Int.tmod_eq_emod_of_nonneg (by omega)]; omega
  have b3 : (12 : Int) < (l.length : Int) := by omega
  clear hn h2 h3
  have HH := Lib.hid hH
  have HN := Lib.hid hN
  have OW := Lib.hid h
  have K0 := Lib.hid hk
  have HI := Lib.hid hI
  have HF := Lib.hid hf
  have HG8 := Lib.hid hf.gl
  have HT12 := Lib.hid hf.task
  have hc4 := hf.cpu
  have hc0 : (X.cpus.length : Int) ≤ 4 := by omega
  have HB := Lib.hid hB
  clear h hf hk hH hN hI hB
  go_enter Tryz.func73, Tryz.ntmps73
  go_wp2
  go_ret
  exact ⟨Keep.refl _ _, rfl⟩
set_option maxRecDepth 100000 in
set_option maxHeartbeats 4000000 in
theorem iBand_off (bt bg kb : Nat) (ca : Option Addr) (cc tc gc : Nat) (gh : Nat → GH) (X : WorldM) (B N : Nat) (w : World) (h : OwnR w B ca cc (some ⟨bt, 0, none⟩) (some ⟨bg, 0, none⟩) gh X) (hf : RFit X) (hk : Blk w kb 26 #[.int .i64 X.now, .slice ca X.cpus.length cc, .slice (some ⟨bt, 0, none⟩) X.tasks.length tc, .slice (some ⟨bg, 0, none⟩) X.groups.length gc]) (hH : ∀ i, Has ca (some ⟨bt, 0, none⟩) (some ⟨bg, 0, none⟩) gh X.groups.length i → i < N ∧ i ≠ kb) (hN : kb < N ∧ N ≤ w.heap.size) (hB : B ≤ w.heap.size) (A : Option Addr) (c : Nat) (l : List Int) (hI : IntR w N A l) (hl : l.length ≤ 20001) (hn : 4 ≤ l.length) (h2 : l.length % 2 = 0) (h3 : l.length ≤ 12) (hr : inR (gI l 0) 0 7 = false) :
    Calls Tryz.prog 73 #[.pointer (some ⟨kb, 0, none⟩), .slice A l.length c] w (IPost bt bg kb ca tc gc gh X B none w) := by
  have b1 : (4 : Int) ≤ (l.length : Int) := by omega
  have b2 : ((l.length : Int).tmod 2) = 0 := by rw [Int.tmod_eq_emod_of_nonneg (by omega)]; omega
  have b3 : (l.length : Int) ≤ 12 := by omega
  have HR := Lib.hid hr
  clear h2 h3 hr
  have HH := Lib.hid hH
  have HN := Lib.hid hN
  have OW := Lib.hid h
  have K0 := Lib.hid hk
  have HI := Lib.hid hI
  have HF := Lib.hid hf
  have HG8 := Lib.hid hf.gl
  have HT12 := Lib.hid hf.task
  have hc4 := hf.cpu
  have hc0 : (X.cpus.length : Int) ≤ 4 := by omega
  have HB := Lib.hid hB
  clear h hf hk hH hN hI hB
  go_enter Tryz.func73, Tryz.ntmps73
  obtain ⟨gI0, rfl, hgi, hgB, n0⟩ := int_at HI.out (i := 0) (by omega)
  have il : (0 : Int) < (l.length : Int) := by omega
  go_wp2_with (go_at_call 108; refine (iInRange_any _ _ _ _).mono ?_; rintro e w' ⟨rfl, rfl⟩; rw [HR.out])
  go_ret
  exact ⟨Keep.refl _ _, rfl⟩
set_option maxRecDepth 100000 in
set_option maxHeartbeats 4000000 in
theorem iBand_yes (bt bg kb : Nat) (ca : Option Addr) (cc tc gc : Nat) (gh : Nat → GH) (X : WorldM) (B N : Nat) (w : World) (h : OwnR w B ca cc (some ⟨bt, 0, none⟩) (some ⟨bg, 0, none⟩) gh X) (hf : RFit X) (hk : Blk w kb 26 #[.int .i64 X.now, .slice ca X.cpus.length cc, .slice (some ⟨bt, 0, none⟩) X.tasks.length tc, .slice (some ⟨bg, 0, none⟩) X.groups.length gc]) (hH : ∀ i, Has ca (some ⟨bt, 0, none⟩) (some ⟨bg, 0, none⟩) gh X.groups.length i → i < N ∧ i ≠ kb) (hN : kb < N ∧ N ≤ w.heap.size) (hB : B ≤ w.heap.size) (A : Option Addr) (c : Nat) (l : List Int) (hI : IntR w N A l) (hl : l.length ≤ 20001) (hn : 4 ≤ l.length) (h2 : l.length % 2 = 0) (h3 : l.length ≤ 12) (g : Nat) (hg : gI l 0 = g) (hg8 : g < 8) :
    Calls Tryz.prog 73 #[.pointer (some ⟨kb, 0, none⟩), .slice A l.length c] w (IPost bt bg kb ca tc gc gh X B (some (setG X g { grp X g with band := bandOf l ((l.length - 4) / 2) })) w) := by
  have b1 : (4 : Int) ≤ (l.length : Int) := by omega
  have b2 : ((l.length : Int).tmod 2) = 0 := by rw [Int.tmod_eq_emod_of_nonneg (by omega)]; omega
  have b3 : (l.length : Int) ≤ 12 := by omega
  obtain ⟨n, hlen⟩ : ∃ n, l.length = 4 + 2 * n := ⟨(l.length - 4) / 2, by omega⟩
  have hdv : (l.length - 4) / 2 = n := by omega
  rw [hdv]
  have HL2 := Lib.hid hlen
  have HGE := Lib.hid hg
  have gi0 : (0 : Int) ≤ (g : Int) := by omega
  have HR := Lib.hid (show inR (g : Int) 0 7 = true by rw [inR_iff]; omega)
  clear hg h2 hdv hlen
  have HH := Lib.hid hH
  have HN := Lib.hid hN
  have OW := Lib.hid h
  have K0 := Lib.hid hk
  have HI := Lib.hid hI
  have HF := Lib.hid hf
  have HG8 := Lib.hid hf.gl
  have HT12 := Lib.hid hf.task
  have hc4 := hf.cpu
  have hc0 : (X.cpus.length : Int) ≤ 4 := by omega
  have HB := Lib.hid hB
  clear h hf hk hH hN hI hB
  go_enter Tryz.func73, Tryz.ntmps73
  have HG := Lib.hid (show g < X.groups.length by rw [HG8.out]; exact hg8)
  have gi1 : (g : Int) < (X.groups.length : Int) := by rw [HG8.out]; omega
  obtain ⟨gI0, rfl, hgi, hgB, n0⟩ := int_at HI.out (i := 0) (by omega)
  have il : (0 : Int) < (l.length : Int) := by omega
  rw [HGE.out] at n0
  go_upto_region 3 with (go_at_call 108; refine (iInRange_any _ _ _ _).mono ?_; rintro e w' ⟨rfl, rfl⟩; rw [HR.out])
  clear b1 b2 b3
  obtain ⟨_, e1, _, _, n1⟩ := int_at HI.out (i := 1) (by omega)
  cases e1
  obtain ⟨_, e1, _, _, n2⟩ := int_at HI.out (i := 2) (by omega)
  cases e1
  obtain ⟨_, e1, _, _, n3⟩ := int_at HI.out (i := 3) (by omega)
  cases e1
  have i4 : (4 : Int) ≤ (l.length : Int) := by omega
  have z_n1 := fun d os => cell_regrown n1 d os
  have z_n2 := fun d os => cell_regrown n2 d os
  have z_n3 := fun d os => cell_regrown n3 d os
  have bd : Below w.heap.size w w.drew := (Below.refl _ _).drew
  refine region_S 11 [0, 0, 0, 0, 0, 0, 0, 0, 0, 0, 1, 2] [0, 1, 2, 3, 4, 5, 6, 7, 8, 9, 10, 11] (by kernel_rfl) (by kernel_rfl) (by kernel_rfl) rfl (by kernel_rfl) (by kernel_rfl) ?_
  simp only [permL, List.getElem?_cons_zero, List.getElem?_cons_succ, Option.toList_some, List.cons_append, List.nil_append]
  repeat (first | (refine wpS_skip (by rfl) ?_; simp only [Act.put, List.setIfInBounds_toArray, List.set_cons_zero, List.set_cons_succ]) | (refine wpS_det (by rfl) (fun K hK => ?_); go_big_quiet_op; refine hK _ ?_; clear hK K))
  refine wpS_bar (by rfl) (fun K hK => ?_)
  go_big_op
  refine hK _ _ (regrown_of_below (bd.alloc (Nat.le_refl _) _)) ?_
  clear hK K
  repeat (first | (refine wpS_skip (by rfl) ?_; simp only [Act.put, List.setIfInBounds_toArray, List.set_cons_zero, List.set_cons_succ]) | (refine wpS_det (by rfl) (fun K hK => ?_); go_big_quiet_op; refine hK _ ?_; clear hK K))
  have kn : Blk (w.drew.alloc (.cells #[.int .i64 0, .int .i64 0, .int .i64 0, .slice none 0 0, .slice none 0 0] 53)) w.heap.size 53 #[.int .i64 0, .int .i64 0, .int .i64 0, .slice none 0 0, .slice none 0 0] := Blk.new w.drew _ _
  have k0 := kn.cell 0
  have k1 := kn.cell 1
  have k2 := kn.cell 2
  have k3 := kn.cell 3
  have k4 := kn.cell 4
  have kf := fun i => kn.frozen i
  simp at k0 k1 k2 k3 k4 kf
  refine wpS_end (by rfl) (fun K hK => ?_)
  go_big_op
  refine hK _ _ ?_
  clear hK K
  refine wpS_nil ?_
  go_upto_region 4 with (fail)
  refine gen1d (p := fun W => Code.wp _ _ _ _ W) ?_
  intro w4 b4 s4 kb4
  have I0 := Lib.hid (show BI w.heap.size (gI l 1) (gI l 2) (gI l 3) w w4 (locN l 0) (dryN l 0) (.slice none 0 0) (.slice none 0 0) from ⟨kb4, World.ownsRow_nil _ _ _ _, World.ownsRow_nil _ _ _ _, b4, Nat.le_refl _⟩)
  clear kb4 b4 s4 kn k0 k1 k2 k3 k4 kf z_n1 z_n2 z_n3 n0 n1 n2 n3 bd
  go_wp2
  go_loopw [6] (fun i wr => ∃ (k : Nat) (vl vd : Value), k ≤ n ∧ i = .int .i64 ((4 + 2 * k : Nat) : Int) ∧ BI w.heap.size (gI l 1) (gI l 2) (gI l 3) w wr (locN l k) (dryN l k) vl vd) (fun i _ => l.length - (intOf i).toNat)
  case atStart => exact ⟨0, _, _, Nat.zero_le _, rfl, I0.out⟩
  case round =>
    obtain ⟨k, vl, vd, hk, rfl, hI⟩ := hrel
    have II := Lib.hid hI
    clear hI
    by_cases hlt : k < n
    · obtain ⟨j, hj⟩ : ∃ j, j = 4 + 2 * k := ⟨_, rfl⟩
      rw [← hj]
      have HJ := Lib.hid hj
      have hjl : j + 1 < l.length := by have := HL2.out; omega
      obtain ⟨_, e1, _, _, y0⟩ := int_at HI.out (i := j) (by omega)
      cases e1
      obtain ⟨_, e1, _, _, y1⟩ := int_at HI.out (i := j + 1) hjl
      cases e1
      have c0 := (II.out.bel.cell (p := ⟨gI0, j, none⟩) hgi).trans y0
      have Y1 := Lib.hid y1
      have c3 := II.out.bk.cell 3
      simp at c3
      have i0 : (0 : Int) ≤ (j : Int) := by omega
      have i1 : (j : Int) < (l.length : Int) := by omega
      have i2 : (j : Int) + 1 < (l.length : Int) := by omega
      have hsz := II.out.bk.lt
      have HLT := Lib.hid hlt
      have HJL := Lib.hid hjl
      have hl4 : (locN l k).length ≤ 1048576 := by rw [locN_len]; have := HL2.out; omega
      have hd4 : (dryN l k).length ≤ 1048576 := by rw [dryN_len]; have := HL2.out; omega
      clear y0 y1 hj hlt hk hjl
      go_wp2_with fail
      go_upto_region 7 with (fail)
      obtain ⟨g5, cap5, w5, hrun, hown5, hkeep5, hg5, hlt5, hB5⟩ := app_drew slNum (by omega) (by omega) (ty := 45) (T' := 3) II.out.rl (by omega) hl4 [.int .i64 (gI l j)] rfl (by simp [Value.oneCell'])
      obtain ⟨F, hFt, hFf⟩ : ∃ F : Bool → World, F true = wr ∧ F false = w5 := ⟨fun b => if b then wr else w5, rfl, rfl⟩
      have qq0 := fun b d os => cell_regrown (both hFt hFf (p := fun W => W.cell? _ = some _) c0 (hkeep5.cell c0 (by have := II.out.bel.size; omega) (fun e => by have := (II.out.rl.lt _ e).1; omega)) b) d os
      have qq1 := fun b d os => cell_regrown (both hFt hFf (p := fun W => W.cell? _ = some _) c3 (hkeep5.cell c3 hsz (fun e => by have := (II.out.rl.lt _ e).1; omega)) b) d os
      have HFt := Lib.hid hFt
      have HFf := Lib.hid hFf
      have HRUN := Lib.hid hrun
      clear hFt hFf hrun
      refine region_SC (twoC F) (twoC_drew true HFt.out) 9 [0, 0, 0, 0, 0, 0, 1, 1, 0, 2] [0, 1, 2, 3, 4, 5, 6, 7, 8, 9] (by kernel_rfl) (by kernel_rfl) (by kernel_rfl) rfl (by kernel_rfl) (by kernel_rfl) ?_
      simp only [permL, List.getElem?_cons_zero, List.getElem?_cons_succ, Option.toList_some, List.cons_append, List.nil_append]
      unfold twoC
      repeat (first | (refine wpS_skip (by rfl) ?_; simp only [Act.put, List.setIfInBounds_toArray, List.set_cons_zero, List.set_cons_succ]) | (refine wpS_det (by rfl) (fun K hK => ?_); go_big_quiet_op; refine hK _ ?_; clear hK K))
      refine wpS_bar (by rfl) (fun K hK => ?_)
      go_big_op
      refine hK _ _ (twoC_below true (by rw [HFt.out]; exact (Below.refl _ _).drew.alloc (Nat.le_refl _) _)) ?_
      clear hK K
      refine wpS_bar (by rfl) (fun K hK => ?_)
      refine wp_append_run rfl rfl rfl HRUN.out ?_
      refine hK _ _ (twoC_below false (by rw [HFf.out]; exact Below.refl _ _)) ?_
      clear hK K
      simp only [Act.put, List.setIfInBounds_toArray, List.set_cons_zero, List.set_cons_succ]
      repeat (first | (refine wpS_skip (by rfl) ?_; simp only [Act.put, List.setIfInBounds_toArray, List.set_cons_zero, List.set_cons_succ]) | (refine wpS_det (by rfl) (fun K hK => ?_); go_big_quiet_op; refine hK _ ?_; clear hK K))
      clear qq0 qq1
      have f3 := fun i => (hkeep5.blk II.out.bk (own_far II.out.rl (by omega))).frozen i
      have z3 := (hkeep5.blk II.out.bk (own_far II.out.rl (by omega))).cell 3
      simp at z3
      refine wpS_end (by rfl) (fun K hK => ?_)
      go_big_op
      refine hK _ _ ?_
      clear hK K
      refine wpS_nil ?_
      have I2 := Lib.hid (II.out.locals (gI l j) hkeep5 (u := .slice (some ⟨g5, 0, none⟩) ((locN l k).length + 1 : Nat) cap5) hown5)
      generalize w5.setCell ⟨w.heap.size, 3, none⟩ (.slice (some ⟨g5, 0, none⟩) ((locN l k).length + 1 : Nat) cap5) = w6 at *
      clear HFt HFf HRUN hkeep5 hown5 hg5 hlt5 hB5 z3 f3 c0 c3 hsz
      generalize (.slice (some ⟨g5, 0, none⟩) ((locN l k).length + 1 : Nat) cap5 : Value) = ul at *
      have c1 := (I2.out.bel.cell (p := ⟨gI0, j + 1, none⟩) hgi).trans Y1.out
      have c4 := I2.out.bk.cell 4
      simp at c4
      have hsz := I2.out.bk.lt
      go_upto_region 8 with (fail)
      obtain ⟨g5, cap5, w5, hrun, hown5, hkeep5, hg5, hlt5, hB5⟩ := app_drew slBo (by omega) (by omega) (ty := 51) (T' := 4) I2.out.rd (by omega) hd4 [.bool (gI l (j + 1) == 1)] rfl (by simp [Value.oneCell'])
      obtain ⟨F, hFt, hFf⟩ : ∃ F : Bool → World, F true = w6 ∧ F false = w5 := ⟨fun b => if b then w6 else w5, rfl, rfl⟩
      have qq0 := fun b d os => cell_regrown (both hFt hFf (p := fun W => W.cell? _ = some _) c1 (hkeep5.cell c1 (by have := I2.out.bel.size; omega) (fun e => by have := (I2.out.rd.lt _ e).1; omega)) b) d os
      have qq1 := fun b d os => cell_regrown (both hFt hFf (p := fun W => W.cell? _ = some _) c4 (hkeep5.cell c4 hsz (fun e => by have := (I2.out.rd.lt _ e).1; omega)) b) d os
      have HFt := Lib.hid hFt
      have HFf := Lib.hid hFf
      have HRUN := Lib.hid hrun
      clear hFt hFf hrun
      refine region_SC (twoC F) (twoC_drew true HFt.out) 11 [0, 0, 0, 0, 0, 0, 0, 0, 1, 1, 0, 2] [0, 1, 2, 3, 4, 5, 6, 7, 8, 9, 10, 11] (by kernel_rfl) (by kernel_rfl) (by kernel_rfl) rfl (by kernel_rfl) (by kernel_rfl) ?_
      simp only [permL, List.getElem?_cons_zero, List.getElem?_cons_succ, Option.toList_some, List.cons_append, List.nil_append]
      unfold twoC
      repeat (first | (refine wpS_skip (by rfl) ?_; simp only [Act.put, List.setIfInBounds_toArray, List.set_cons_zero, List.set_cons_succ]) | (refine wpS_det (by rfl) (fun K hK => ?_); go_big_quiet_op; refine hK _ ?_; clear hK K))
      refine wpS_bar (by rfl) (fun K hK => ?_)
      go_big_op
      refine hK _ _ (twoC_below true (by rw [HFt.out]; exact (Below.refl _ _).drew.alloc (Nat.le_refl _) _)) ?_
      clear hK K
      refine wpS_bar (by rfl) (fun K hK => ?_)
      refine wp_append_run rfl rfl rfl HRUN.out ?_
      refine hK _ _ (twoC_below false (by rw [HFf.out]; exact Below.refl _ _)) ?_
      clear hK K
      simp only [Act.put, List.setIfInBounds_toArray, List.set_cons_zero, List.set_cons_succ]
      repeat (first | (refine wpS_skip (by rfl) ?_; simp only [Act.put, List.setIfInBounds_toArray, List.set_cons_zero, List.set_cons_succ]) | (refine wpS_det (by rfl) (fun K hK => ?_); go_big_quiet_op; refine hK _ ?_; clear hK K))
      clear qq0 qq1
      have f3 := fun i => (hkeep5.blk I2.out.bk (own_far I2.out.rd (by omega))).frozen i
      have z3 := (hkeep5.blk I2.out.bk (own_far I2.out.rd (by omega))).cell 4
      simp at z3
      refine wpS_end (by rfl) (fun K hK => ?_)
      go_big_op
      refine hK _ _ ?_
      clear hK K
      refine wpS_nil ?_
      have I3 := Lib.hid (I2.out.dry (gI l (j + 1) == 1) hkeep5 (u := .slice (some ⟨g5, 0, none⟩) ((dryN l k).length + 1 : Nat) cap5) hown5)
      clear HFt HFf HRUN hkeep5 hown5 hg5 hlt5 hB5 z3 f3 c1 c4 hsz
      go_wp2
      go_roundw
      case rel =>
        refine ⟨k + 1, ul, .slice (some ⟨g5, 0, none⟩) ((dryN l k).length + 1 : Nat) cap5, HLT.out, by have := HJ.out; simp only [Value.int.injEq, true_and]; omega, ?_⟩
        rw [locN_succ, dryN_succ, ← HJ.out, show 5 + 2 * k = j + 1 by have := HJ.out; omega]
        exact I3.out
      case measure => have := HJL.out; simp [intOf]; omega
    · obtain rfl : k = n := by omega
      have i1 : (l.length : Int) ≤ ((4 + 2 * k : Nat) : Int) := by have := HL2.out; omega
      obtain ⟨la, lc, rfl, hL⟩ := row_of_own II.out.rl
      obtain ⟨da, dc, rfl, hD⟩ := row_of_own II.out.rd
      have HLL := Lib.hid hL
      have HDD := Lib.hid hD
      clear hL hD hlt hk
      have K0r := Lib.hid (K0.out.below II.out.bel K0.out.lt)
      have OW4 := Lib.hid (OW.out.below II.out.bel)
      obtain ⟨_, e1, _, _, n0⟩ := int_at (HI.out.below II.out.bel) (i := 0) (by omega)
      cases e1
      rw [HGE.out] at n0
      have b0 := II.out.bk.cell 0
      have b1 := II.out.bk.cell 1
      have b2 := II.out.bk.cell 2
      have b3 := II.out.bk.cell 3
      have b4 := II.out.bk.cell 4
      simp at b0 b1 b2 b3 b4
      have g3 := K0r.out.cell 3
      simp at g3
      obtain ⟨_, e, _, _, v8, f8⟩ := OW4.out.own.grps.cell (k := g) (i := 8) HG.out (by omega); cases e
      obtain ⟨_, e, _, _, v9, f9⟩ := OW4.out.own.grps.cell (k := g) (i := 9) HG.out (by omega); cases e
      obtain ⟨_, e, _, _, v10, f10⟩ := OW4.out.own.grps.cell (k := g) (i := 10) HG.out (by omega); cases e
      obtain ⟨_, e, _, _, v11, f11⟩ := OW4.out.own.grps.cell (k := g) (i := 11) HG.out (by omega); cases e
      obtain ⟨_, e, _, _, v12, f12⟩ := OW4.out.own.grps.cell (k := g) (i := 12) HG.out (by omega); cases e
      go_upto_region 9 with (fail)
      have z_n0 := fun d os => cell_regrown n0 d os
      have z_g3 := fun d os => cell_regrown g3 d os
      have z_b0 := fun d os => cell_regrown b0 d os
      have z_b1 := fun d os => cell_regrown b1 d os
      have z_b2 := fun d os => cell_regrown b2 d os
      have z_b3 := fun d os => cell_regrown b3 d os
      have z_b4 := fun d os => cell_regrown b4 d os
      have z_v8 := fun d os => cell_regrown v8 d os
      have z_v9 := fun d os => cell_regrown v9 d os
      have z_v10 := fun d os => cell_regrown v10 d os
      have z_v11 := fun d os => cell_regrown v11 d os
      have z_v12 := fun d os => cell_regrown v12 d os
      refine region_S 8 [0, 0, 0, 0, 0, 0, 0, 0, 1, 1, 2] [0, 1, 2, 3, 4, 5, 6, 7, 8, 9, 10] (by kernel_rfl) (by kernel_rfl) (by kernel_rfl) rfl (by kernel_rfl) (by kernel_rfl) ?_
      simp only [permL, List.getElem?_cons_zero, List.getElem?_cons_succ, Option.toList_some, List.cons_append, List.nil_append]
      repeat (first | (refine wpS_skip (by rfl) ?_; simp only [Act.put, List.setIfInBounds_toArray, List.set_cons_zero, List.set_cons_succ]) | (refine wpS_det (by rfl) (fun K hK => ?_); go_big_quiet_op; refine hK _ ?_; clear hK K))
      refine wpS_bar (by rfl) (fun K hK => ?_)
      go_big_op
      refine hK _ _ (regrown_of_below ((Below.refl wr.heap.size wr).drew)) ?_
      clear hK K
      try simp only [Act.put, List.setIfInBounds_toArray, List.set_cons_zero, List.set_cons_succ]
      refine wpS_bar (by rfl) (fun K hK => ?_)
      go_big_op
      refine hK _ _ (regrown_of_below ((Below.refl wr.heap.size wr).drew)) ?_
      clear hK K
      try simp only [Act.put, List.setIfInBounds_toArray, List.set_cons_zero, List.set_cons_succ]
      refine wpS_end (by rfl) (fun K hK => ?_)
      go_big_op
      refine hK _ _ ?_
      clear hK K
      refine wpS_nil ?_
      go_upto_region 10 with (fail)
      refine genR (p := fun W => Code.wp _ _ _ _ W) ?_
      intro w6 hw6
      have e6 : Go.Proofs.YtomllcclallcdaaGreatDoor.wr bg 14 g [(8, .int .i64 (gI l 1)), (9, .int .i64 (gI l 2)), (10, .int .i64 (gI l 3)), (11, .slice la (locN l k).length lc), (12, .slice da (dryN l k).length dc)] wr.drew = w6 := hw6
      have BDR := Lib.hid (II.out.bel.andThen (Below.refl wr.heap.size wr).drew)
      have OW6 := Lib.hid (show OwnR w6 B ca cc (some ⟨bt, 0, none⟩) (some ⟨bg, 0, none⟩) (hset gh g { gh g with la := la, lc := lc, da := da, dc := dc }) (setG X g { grp X g with band := bandOf l k }) by rw [← e6]; exact OW.out.band HG.out (bandOf l k) (Keep.of_below BDR.out) ((HLL.out.below (Below.refl _ _).drew).mono (by omega)) ((HDD.out.below (Below.refl _ _).drew).mono (by omega)) HB.out)
      have KS := Lib.hid (show Keep (fun j => j = bg) wr.drew w6 by rw [← e6]; exact Keep.sets (S := fun j => j = bg) rfl _ _)
      have HBG := Lib.hid (HH.out bg (.inr (.inr (.inl rfl))))
      have HGS := Lib.hid (show (setG X g { grp X g with band := bandOf l k }).groups.length = X.groups.length by simp [setG])
      have HNW := Lib.hid (show ∀ i, Has ca (some ⟨bt, 0, none⟩) (some ⟨bg, 0, none⟩) (hset gh g { gh g with la := la, lc := lc, da := da, dc := dc }) (setG X g { grp X g with band := bandOf l k }).groups.length i → Has ca (some ⟨bt, 0, none⟩) (some ⟨bg, 0, none⟩) gh X.groups.length i ∨ w.heap.size ≤ i from fun i hi => by
        rw [HGS.out] at hi
        exact has_set (x := { gh g with la := la, lc := lc, da := da, dc := dc }) (N := w.heap.size) HG.out (fun _ h => .inr (by have := (HLL.out.lt h).1; simp only at this; omega)) (fun _ h => .inr (by have := (HDD.out.lt h).1; simp only at this; omega)) (fun _ h => .inl h) hi)
      have K0d := Lib.hid (KS.out.blk (K0r.out.below (Below.refl _ _).drew K0r.out.lt) fun e => HBG.out.2 e.symm)
      have KE := Lib.hid (show Keep (fun g => Has ca (some ⟨bt, 0, none⟩) (some ⟨bg, 0, none⟩) gh X.groups.length g ∨ g = kb) w w6 from (Keep.of_below BDR.out).trans (KS.out.mono fun j _ e => by subst e; exact .inl (.inr (.inr (.inl rfl)))))
      clear hw6 e6 KS K0r OW4 n0 g3 b0 b1 b2 b3 b4 v8 f8 v9 f9 v10 f10 v11 f11 v12 f12 z_n0 z_g3 z_b0 z_b1 z_b2 z_b3 z_b4 z_v8 z_v9 z_v10 z_v11 z_v12
      go_wp2
      go_ret
      refine ⟨KE.out, rfl, ca, cc, (hset gh g { gh g with la := la, lc := lc, da := da, dc := dc }), ?_, OW6.out, HNW.out⟩
      have q := K0d.out
      rw [← HGS.out] at q
      exact q
end
end Go.Proofs.YtomllcclallcdaaGreatDoor
