/- A world in writing, plain: lines of numbers. No program in sight. A text that grows: what is written to a builder, what it holds. A line of numbers in writing: the reference and the program. -/
import Derived.Test.YtknfpigaognklaaGreatDoorPf
import Derived.Test.YtknfpigaognklaaGreatDoorZd
import Derived.Test.YtknfpigaognklaaGreatDoorSh
import Derived.Shelf.Strings.Builder1
import Derived.Lib.SmallJoins
namespace Go.Proofs.YtknfpigaognklaaGreatDoor
def fits (ns : List Int) : Prop := ∀ n ∈ ns, -9223372036854775808 ≤ n ∧ n ≤ 9223372036854775807
def numsB (ns : List Int) : List UInt8 := ns.flatMap (fun n => 32 :: Lib.itoa n)
/-- a word, numbers, the line's end -/
def lineB (w : List UInt8) (ns : List Int) : List UInt8 := w ++ numsB ns ++ [10]
theorem numsB_snoc (ns : List Int) (n : Int) : numsB (ns ++ [n]) = numsB ns ++ 32 :: Lib.itoa n := by simp [numsB]
theorem itoa_len {n : Int} (h : -9223372036854775808 ≤ n ∧ n ≤ 9223372036854775807) : (Lib.itoa n).length ≤ 21 := Lib.itoa_length_le n h.1 h.2
theorem numsB_len : ∀ {ns : List Int}, fits ns → (numsB ns).length ≤ 22 * ns.length
  | [], _ => by simp [numsB]
  | n :: r, h => by
    have h1 := itoa_len (h n (by simp))
    have h2 := numsB_len (ns := r) (fun m hm => h m (by simp [hm]))
    simp only [numsB, List.flatMap_cons, List.length_append, List.length_cons] at h2 ⊢
    omega
theorem lineB_len {w : List UInt8} {ns : List Int} (h : fits ns) : (lineB w ns).length ≤ w.length + 22 * ns.length + 1 := by
  have := numsB_len h
  simp only [lineB, List.length_append, List.length_cons, List.length_nil]
  omega
/-- one behind the other -/
def catB (f : Nat → List UInt8) : Nat → List UInt8
  | 0 => []
  | n + 1 => catB f n ++ f n
theorem catB_len {f : Nat → List UInt8} {B : Nat} : ∀ n : Nat, (∀ k, k < n → (f k).length ≤ B) → (catB f n).length ≤ B * n
  | 0, _ => by simp [catB]
  | n + 1, h => by
    have h1 := catB_len n (fun k hk => h k (by omega))
    have h2 := h n (by omega)
    simp only [catB, List.length_append, Nat.mul_add]
    omega
def bitM (b : Bool) : Int := if b then 1 else 0
def cpuT (M : WorldM) (c : Nat) : List UInt8 := lineB [99, 112, 117] [bitM (cpo M c).up, (cpo M c).cur, (cpo M c).ran, (cpo M c).busy, (cpo M c).idle]
def shelfT (M : WorldM) (k c : Nat) : List UInt8 := lineB [115, 104, 101, 108, 102] [(k : Int), (c : Int), (she M k c).floor, bitM (she M k c).on, (she M k c).v, (she M k c).w, (she M k c).sum]
def pairsN (x : BandM) : Nat → List Int
  | 0 => []
  | n + 1 => pairsN x n ++ [x.locals.getD n 0, bitM (x.dry.getD n false)]
def bandN (k : Nat) (x : BandM) (n : Nat) : List Int := [(k : Int), x.quota, x.pool, x.spent] ++ pairsN x n
def bandT (k : Nat) (x : BandM) : List UInt8 := if 0 < x.quota then lineB [98, 97, 110, 100] (bandN k x x.locals.length) else []
def nameT (M : WorldM) (k : Nat) : List UInt8 := if k = 0 then [45] else (grp M k).name.data.toList
def headT (M : WorldM) (k : Nat) : List UInt8 := lineB ([103, 114, 111, 117, 112, 32] ++ nameT M k) [(k : Int), (grp M k).parent, (grp M k).weight, (grp M k).cpus, (grp M k).period, (grp M k).next, (grp M k).sum]
def groupT (M : WorldM) (k : Nat) : List UInt8 := headT M k ++ catB (shelfT M k) (grp M k).shelves.length ++ bandT k (grp M k).band
def taskT (M : WorldM) (t : Nat) : List UInt8 := lineB [116, 97, 115, 107] [(t : Int), (tsk M t).st, (tsk M t).gr, (tsk M t).cpu, (tsk M t).nice, (tsk M t).mask, (tsk M t).v, (tsk M t).sum, (tsk M t).used, (tsk M t).load]
def groupsT (M : WorldM) : Nat → List UInt8 := catB (fun k => if (grp M k).used = true then groupT M k else [])
def tasksT (M : WorldM) : Nat → List UInt8 := catB (fun t => if (tsk M t).st = 0 then [] else taskT M t)
def bodyT (M : WorldM) : List UInt8 := lineB [110, 111, 119] [M.now] ++ catB (cpuT M) M.cpus.length ++ groupsT M M.groups.length ++ tasksT M M.tasks.length
/-- a world in writing -/
def textM (M : WorldM) : List UInt8 := if worldB M = true then bodyT M else []
/-- all that is written is a machine's number -/
structure NumOk (M : WorldM) : Prop where
  nowF : fits [M.now]
  cpuF : ∀ c, c < M.cpus.length → fits [bitM (cpo M c).up, (cpo M c).cur, (cpo M c).ran, (cpo M c).busy, (cpo M c).idle]
  grpF : ∀ k, k < 8 → (grp M k).used = true → fits [(k : Int), (grp M k).parent, (grp M k).weight, (grp M k).cpus, (grp M k).period, (grp M k).next, (grp M k).sum]
  sheF : ∀ k c : Nat, k < 8 → (grp M k).used = true → c < (grp M k).shelves.length → fits [(k : Int), (c : Int), (she M k c).floor, bitM (she M k c).on, (she M k c).v, (she M k c).w, (she M k c).sum]
  bandF : ∀ k, k < 8 → (grp M k).used = true → 0 < (grp M k).band.quota → ∀ n, n ≤ (grp M k).band.locals.length → fits (bandN k (grp M k).band n)
  tskF : ∀ t, t < M.tasks.length → (tsk M t).st ≠ 0 → fits [(t : Int), (tsk M t).st, (tsk M t).gr, (tsk M t).cpu, (tsk M t).nice, (tsk M t).mask, (tsk M t).v, (tsk M t).sum, (tsk M t).used, (tsk M t).load]
  nameF : ∀ k, k < 8 → k ≠ 0 → (grp M k).used = true → (grp M k).name.size ≤ 8
theorem bitM_bd (b : Bool) : 0 ≤ bitM b ∧ bitM b ≤ 1 := by cases b <;> simp [bitM]
theorem wof_in {n : Int} (h : wof n ≠ 0) : -10 ≤ n ∧ n ≤ 9 := by
  unfold wof at h
  split at h
  · rename_i h2; rw [inR_iff] at h2; omega
  · omega
theorem numOk_of {M : WorldM} (h : worldB M = true) (hx : NextOk M) : NumOk M := by
  have F := facts_of h
  simp only [worldB, worldH, worldL, shelvesB, cpusB, Bool.and_eq_true, beq_iff_eq, inR_iff] at h
  obtain ⟨⟨⟨⟨⟨h1, h2⟩, h3⟩, h4⟩, h5⟩, ⟨h6, h7⟩, h8, h9⟩ := h
  have hl8 := F.tree.len
  refine ⟨?_, fun c hc => ?_, fun k hk hu => ?_, fun k c hk hu hc => ?_, fun k hk hu hq => ?_, fun t ht hst => ?_, fun k hk h0 hu => ?_⟩
  · intro n hn; simp at hn; subst hn; omega
  · have q := List.all_eq_true.1 h9 c (List.mem_range.2 hc)
    have b := bitM_bd (cpo M c).up
    simp only [cpuB, cpuHead, Bool.and_eq_true, timeB, inR_iff] at q
    obtain ⟨⟨⟨q1, q2⟩, q3⟩, q4⟩ := q
    have hr : 0 ≤ (cpo M c).ran ∧ (cpo M c).ran ≤ 149 := by
      split at q4
      · simp at q4; omega
      · simp only [Bool.and_eq_true, inR_iff] at q4; omega
    intro n hn
    simp at hn
    rcases hn with rfl | rfl | rfl | rfl | rfl <;> omega
  · have q := List.all_eq_true.1 h6 k (List.mem_range.2 hk)
    rw [groupB, if_pos hu] at q
    simp only [grpU, Bool.and_eq_true, timeB, inR_iff] at q
    obtain ⟨⟨⟨⟨⟨⟨q1, q2⟩, q3⟩, q4⟩, q5⟩, q6⟩, q7⟩ := q
    have hp : -1 ≤ (grp M k).parent ∧ (grp M k).parent ≤ 8 := by
      by_cases h0 : k = 0
      · subst h0; have := F.tree.rpar; omega
      · obtain ⟨p1, p2, _⟩ := F.tree.up k hk hu h0; omega
    have hn9 := hx k (by omega)
    have hpn : 0 ≤ (grp M k).period ∧ (grp M k).period ≤ 1000 ∧ 0 ≤ (grp M k).next := by
      rw [grpQ] at q7
      split at q7
      · simp at q7; omega
      · simp only [Bool.and_eq_true, inR_iff, decide_eq_true_eq] at q7; omega
    intro n hn
    simp at hn
    rcases hn with rfl | rfl | rfl | rfl | rfl | rfl | rfl <;> omega
  · have q1 := List.all_eq_true.1 h8 k (List.mem_range.2 hk)
    have q2 := List.all_eq_true.1 q1 c (List.mem_range.2 hc)
    have b := bitM_bd (she M k c).on
    have hcc : c < M.cpus.length := by rw [F.gok.she k hk hu] at hc; exact hc
    have := F.c4
    simp only [shelfB, shelfB1, Bool.and_eq_true, timeB, inR_iff] at q2
    intro n hn
    simp at hn
    rcases hn with rfl | rfl | rfl | rfl | rfl | rfl | rfl <;> omega
  · have q := F.band k hk hu (by omega)
    simp only [bandB, bandHead, Bool.and_eq_true, inR_iff] at q
    intro n
    induction n with
    | zero =>
      intro _ m hm
      simp [bandN, pairsN] at hm
      rcases hm with rfl | rfl | rfl | rfl <;> omega
    | succ n ih =>
      intro hn m hm
      rw [bandN, pairsN, ← List.append_assoc, List.mem_append] at hm
      rcases hm with hm | hm
      · exact ih (by omega) m hm
      · have lc := lcB_bd (List.all_eq_true.1 q.1.2 n (List.mem_range.2 (by omega)))
        have b := bitM_bd ((grp M k).band.dry.getD n false)
        rw [List.mem_cons, List.mem_singleton] at hm
        rcases hm with rfl | rfl <;> omega
  · have q := List.all_eq_true.1 h7 t (List.mem_range.2 ht)
    rw [taskB, if_neg hst] at q
    simp only [taskB1, taskB2, Bool.and_eq_true, timeB, inR_iff, Bool.or_eq_true, beq_iff_eq, Bool.not_eq_true', beq_eq_false_iff_ne] at q
    obtain ⟨⟨⟨⟨⟨⟨q1, q2⟩, q3⟩, q4⟩, q5⟩, ⟨⟨⟨q6, q7⟩, q8⟩, q9⟩, q10⟩, q11⟩ := q
    have hw := wof_in q3
    obtain ⟨g, c, hg, hg8, _, hc, hcl⟩ := F.tk t (by omega) hst
    have := F.c4
    intro n hn
    simp at hn
    rcases hn with rfl | rfl | rfl | rfl | rfl | rfl | rfl | rfl | rfl | rfl <;> omega
  · simp only [treeB, Bool.and_eq_true] at h4
    have q := List.all_eq_true.1 h4.2 k (List.mem_range.2 hk)
    rw [show (k == 0) = false by simpa using h0, Bool.false_or, nodeB, hu] at q
    simp only [Bool.not_true, Bool.false_or, Bool.and_eq_true, nameB, inR_iff] at q
    omega
end Go.Proofs.YtknfpigaognklaaGreatDoor
namespace Go.Proofs.YtknfpigaognklaaGreatDoor
open Go.RowKit Go.Sort
theorem sizeBu : (Tryz.prog.info? 65).map (·.size) = some 2 := by kernel_rfl
theorem liesBu : liesAt Tryz.prog Tryz.prog.depth 65 (2 / Tryz.prog.cellsOf 65) 0 65 1 = true := by kernel_rfl
theorem infoBu : (Tryz.prog.info? 5).map (fun i => (i.zero, i.size, i.bytes)) = some (some (.int .u8 0), 1, 1) := by kernel_rfl
set_option maxHeartbeats 1000000 in
set_option maxRecDepth 100000 in
theorem bCheck_used (b : Nat) (w : World) (h0 : w.cell? ⟨b, 0, none⟩ = some (.pointer (some ⟨b, 0, none⟩))) :
    Calls Tryz.prog 79 #[.pointer (some ⟨b, 0, none⟩)] w fun e w' => e = .returned (.tuple #[]) ∧ w' = w := by
  obtain ⟨j, hj, _⟩ := Option.map_eq_some_iff.1 sizeBu
  go_enter Tryz.func79, Tryz.ntmps79
  go_wp2
  rw [Lib.run_neq_ptr_same w _ Tryz.underlying62 hj]
  go_wp2
  go_end0
  exact ⟨rfl, rfl⟩
set_option maxHeartbeats 1000000 in
set_option maxRecDepth 100000 in
theorem bCheck_fresh (b : Nat) (w : World) (h0 : w.cell? ⟨b, 0, none⟩ = some (.pointer none)) (hsh : w.shape? b = some (65, 2)) (hfz : w.frozen? ⟨b, 0, none⟩ = false) :
    Calls Tryz.prog 79 #[.pointer (some ⟨b, 0, none⟩)] w fun e w' => e = .returned (.tuple #[]) ∧ w' = w.setCell ⟨b, 0, none⟩ (.pointer (some ⟨b, 0, none⟩)) := by
  obtain ⟨j, hj, hjs⟩ := Option.map_eq_some_iff.1 sizeBu
  go_enter Tryz.func79, Tryz.ntmps79
  go_wp2
  rw [Lib.run_to_unsafe w ⟨b, 0, none⟩ Tryz.underlying62 Tryz.underlying159 hj (by rw [hjs]; decide) hsh (Nat.zero_lt_succ 1)]
  simp only [Result.andThen]
  rw [Oper.upon_value]
  go_wp2
  rw [run_callFunc_extern Tryz.func155 (by kernel_rfl) (by kernel_rfl) (by kernel_rfl) (e := Extern.AbiNoEscape.same) (by kernel_rfl)]
  rw [Lib.run_noEscape]
  simp only [Result.andThen]
  rw [Oper.upon_value]
  go_wp2
  rw [Lib.run_from_unsafe w ⟨b, 0, none⟩ Tryz.underlying159 Tryz.underlying62 hj hsh liesBu]
  simp only [Result.andThen]
  rw [Oper.upon_value]
  go_wp2
  go_end0
  exact ⟨rfl, rfl⟩
theorem bCheck_any (B b : Nat) (bs : List Value) (w : World) (h : Lib.IsBuilder 65 5 B b bs w) :
    Calls Tryz.prog 79 #[.pointer (some ⟨b, 0, none⟩)] w fun e w' => e = .returned (.tuple #[]) ∧ (Lib.BuilderAt 65 5 B b (.pointer (some ⟨b, 0, none⟩)) bs w' ∧ Below B w w') := by
  rcases h with h | h
  · refine (bCheck_fresh b w h.cell0 h.shape h.frozen0).mono ?_
    rintro e w' ⟨rfl, rfl⟩
    exact ⟨rfl, h.used _, (Below.refl B w).setCell (p := ⟨b, 0, none⟩) h.1 _⟩
  · refine (bCheck_used b w h.cell0).mono ?_
    rintro e w' ⟨rfl, rfl⟩
    exact ⟨rfl, h, Below.refl B _⟩
set_option maxHeartbeats 2000000 in
set_option maxRecDepth 100000 in
/-- what is written stands behind what stood -/
theorem bWrite_any (B b : Nat) (bs : List Value) (s : ByteArray) (w : World) (h : Lib.IsBuilder 65 5 B b bs w) (hlen : bs.length + s.size ≤ 140737488355328) (hBw : B ≤ w.heap.size) :
    Calls Tryz.prog 31 #[.pointer (some ⟨b, 0, none⟩), .string s] w fun e w' => e = .returned (.tuple #[.int .i64 s.size, .nilIface]) ∧ (Lib.BuilderAt 65 5 B b (.pointer (some ⟨b, 0, none⟩)) (bs ++ Lib.strCells s) w' ∧ Below B w w') := by
  obtain ⟨i0, hi, hz0, hz1, hz2⟩ := info_parts infoBu
  go_enter Tryz.func31, Tryz.ntmps31
  go_upto_region 2 with (go_at_call 79; refine (bCheck_any B b bs _ h).mono ?_; rintro e w1 ⟨rfl, h1, hb1⟩)
  obtain ⟨hB, v, hbk, hown, hne⟩ := h1
  have c0 : w1.cell? ⟨b, 0, none⟩ = some (.pointer (some ⟨b, 0, none⟩)) := by rw [Lib.cell_of_heap hbk]; rfl
  have c1 : w1.cell? ⟨b, 1, none⟩ = some v := by rw [Lib.cell_of_heap hbk]; rfl
  go_wp2_with (at_builtin; refine Lib.wpList_append_own_string _ rfl _ _ 63 9 rfl B 5 i0 Tryz.underlying63 Tryz.underlying9 hi hz0 hz1 hz2 _ _ _ rfl hown s rfl ?c3 ?c4 ?c5 ?_)
  case c3 => unfold maxLen; omega
  case c4 => omega
  case c5 => have := hb1.size; omega
  intro v' w2 hown' hgrow _
  have hlt : b < w1.heap.size := by
    rcases Nat.lt_or_ge b w1.heap.size with h' | h'
    · exact h'
    · simp [Array.getElem?_eq_none h'] at hbk
  have hb2 : w2.heap[b]? = some (.cells #[.pointer (some ⟨b, 0, none⟩), v] 65 (0, 0)) := by
    rw [hgrow.block b hlt (fun e => hne e.symm)]
    exact hbk
  have d0 : w2.cell? ⟨b, 0, none⟩ = some (.pointer (some ⟨b, 0, none⟩)) := by rw [Lib.cell_of_heap hb2]; rfl
  have d1 : w2.cell? ⟨b, 1, none⟩ = some v := by rw [Lib.cell_of_heap hb2]; rfl
  have f1 : w2.frozen? ⟨b, 1, none⟩ = false := Lib.frozen_of_heap hb2 1
  obtain ⟨ao, n', cap, rfl⟩ : ∃ ao n' cap, v' = .slice ao n' cap := by
    rcases hown'.2 with ⟨hv, _⟩ | ⟨g, cap, cur, hv, _⟩
    · exact ⟨_, _, _, hv⟩
    · exact ⟨_, _, _, hv⟩
  go_wp2
  go_ret2
  refine ⟨rfl, ?_, ?_⟩
  · exact Lib.BuilderAt.put (T := 65) (e := 5) hB hb2 (bs' := bs ++ Lib.strCells s) (by simpa [Lib.strCells_length] using hown') (by decide)
  · exact (hb1.grown hgrow (by have := hb1.size; omega) (fun k hk => (hown.lt k hk).1)).setCell (p := ⟨b, 1, none⟩) hB _
end Go.Proofs.YtknfpigaognklaaGreatDoor
namespace Go.Proofs.YtknfpigaognklaaGreatDoor
open Go.RowKit Go.Sort
attribute [local go_sem] strB_size
theorem strB_data (s : ByteArray) : strB s.data.toList = s := rfl
theorem row_s (X Y : List UInt8) : strB X ++ (⟨#[32]⟩ : ByteArray) ++ strB Y = strB (X ++ 32 :: Y) := by
  rw [show (⟨#[32]⟩ : ByteArray) = strB [32] from rfl, strB_append, strB_append]; simp
theorem row_i (X Y : List UInt8) : strB X ++ ((⟨#[32]⟩ : ByteArray) ++ strB Y) = strB (X ++ 32 :: Y) := by
  rw [show (⟨#[32]⟩ : ByteArray) = strB [32] from rfl, strB_append, strB_append]; simp
theorem row_e (X : List UInt8) : strB X ++ (⟨#[10]⟩ : ByteArray) = strB (X ++ [10]) := by
  rw [show (⟨#[10]⟩ : ByteArray) = strB [10] from rfl, strB_append]
theorem take_in {ns : List Int} {k : Nat} (h : k < ns.length) : numsB (ns.take (k + 1)) = numsB (ns.take k) ++ 32 :: Lib.itoa ns[k] := by
  rw [List.take_succ_eq_append_getElem h, numsB_snoc]
theorem fits_take {ns : List Int} (h : fits ns) (k : Nat) : fits (ns.take k) := fun n hn => h n (List.mem_of_mem_take hn)
set_option maxRecDepth 100000 in
set_option maxHeartbeats 2000000 in
theorem sRow_any (s : ByteArray) (A : Option Addr) (cap : Nat) (ns : List Int) (w : World) (hA : IntS w A ns) (hs : s.size ≤ 1000) (hn : ns.length ≤ 20) (hf : fits ns) :
    Calls Tryz.prog 24 #[.string s, .slice A ns.length cap] w fun e w' => e = .returned (.string (strB (lineB s.data.toList ns))) ∧ Below w.heap.size w w' := by
  have HF := Lib.hid hf
  have hsz : s.data.toList.length ≤ 1000 := by rw [Array.length_toList]; exact hs
  have HE := Lib.hid (show s = strB (s.data.toList ++ numsB (ns.take 0)) by simp [numsB, strB_data])
  have HL := Lib.hid (show lineB s.data.toList ns = s.data.toList ++ numsB ns ++ [10] from rfl)
  generalize s.data.toList = S at *
  go_enter Tryz.func24, Tryz.ntmps24
  go_wp2
  go_loopw [5, 6] (fun t i wr => ∃ k : Nat, k ≤ ns.length ∧ i = .int .i64 k ∧ t = .string (strB (S ++ numsB (ns.take k))) ∧ Below w.heap.size w wr) (fun _ i _ => ns.length - (intOf i).toNat)
  case atStart => exact ⟨0, by omega, rfl, str_eq HE.out, Below.refl _ _⟩
  case round =>
    obtain ⟨k, hk, rfl, rfl, hb⟩ := hrel
    have hX := Lib.hid (numsB_len (fits_take HF.out k))
    have hX2 : ((S ++ numsB (ns.take k)).length : Int) ≤ 2000 := by have := hX.out; rw [List.length_append]; rw [List.length_take] at this; omega
    by_cases hlt : k < ns.length
    · obtain ⟨b, o, rfl, hB, c0⟩ := hA.at_ k hlt
      have c0 := (hb.cell (p := ⟨b, o + k, none⟩) hB).trans c0
      have hi0 : (0 : Int) ≤ (k : Int) := by omega
      have hi1 : (k : Int) < (ns.length : Int) := by omega
      have hr := HF.out ns[k] (List.getElem_mem hlt)
      have hY : ((Lib.itoa ns[k]).length : Int) ≤ 21 := by have := itoa_len hr; omega
      have TK := Lib.hid (take_in hlt)
      generalize ns[k] = n at *
      generalize numsB (ns.take k) = N at *
      generalize hXN : S ++ N = X at *
      have HXN := Lib.hid hXN
      clear hXN
      go_wp2_with (go_at_call 39; refine (sDec_any n hr.1 hr.2 _).mono ?_; rintro e w3 ⟨rfl, hb3⟩)
      go_roundw
      case rel => exact ⟨k + 1, by omega, by go_num, str_eq (by rw [TK.out, row_s, ← HXN.out, List.append_assoc]), hb.andThen hb3⟩
      case measure => simp [intOf]; omega
    · have hkl : k = ns.length := by omega
      have HK := Lib.hid (show S ++ numsB (ns.take k) ++ [10] = S ++ numsB ns ++ [10] by rw [hkl, List.take_length])
      clear hkl
      generalize S ++ numsB (ns.take k) = X at *
      go_wp2
      go_ret
      exact ⟨ret_str (by rw [row_e, HK.out, ← HL.out]), hb⟩
theorem iItoa_any (n : Int) (h0 : -9223372036854775808 ≤ n) (h1 : n ≤ 9223372036854775807) (w : World) (htab : Lib.TabIs Tryz.prog w "internal/strconv.uint64pow10" .u64 Lib.pow10Tab) :
    Calls Tryz.prog 41 #[.int .i64 n] w fun e w' => e = .returned (.string (strB (Lib.itoa n))) ∧ Below w.heap.size w w' := by
  refine (Tryz.strconv_Itoa n h0 h1 w htab).mono ?_
  rintro e w' ⟨rfl, k, os, rfl⟩
  refine ⟨rfl, ?_⟩
  exact ⟨by simp [grow, World.drewN], by simp [grow, World.drewN], by simp [grow, World.drewN], by simp [grow, World.drewN], fun j hj => by simp [grow, World.drewN, Array.getElem?_append, hj]⟩
theorem powAt : (Tryz.prog.globalNamed "internal/strconv.uint64pow10").isSome = true := by kernel_rfl
theorem tab_keep {w w' : World} (h : Lib.TabIs Tryz.prog w "internal/strconv.uint64pow10" .u64 Lib.pow10Tab) (hb : Below w.heap.size w w') : Lib.TabIs Tryz.prog w' "internal/strconv.uint64pow10" .u64 Lib.pow10Tab := by
  obtain ⟨g, hg⟩ := Option.isSome_iff_exists.1 powAt
  exact Go.Joins.tab_stays hg h hb (Nat.le_refl _)
set_option maxRecDepth 100000 in
set_option maxHeartbeats 2000000 in
theorem iRow_any (s : ByteArray) (A : Option Addr) (cap : Nat) (ns : List Int) (w : World) (hA : IntS w A ns) (hs : s.size ≤ 1000) (hn : ns.length ≤ 20) (hf : fits ns) (htab : Lib.TabIs Tryz.prog w "internal/strconv.uint64pow10" .u64 Lib.pow10Tab) :
    Calls Tryz.prog 32 #[.string s, .slice A ns.length cap] w fun e w' => e = .returned (.string (strB (lineB s.data.toList ns))) ∧ Below w.heap.size w w' := by
  have HF := Lib.hid hf
  have HT := Lib.hid htab
  clear htab
  have hsz : s.data.toList.length ≤ 1000 := by rw [Array.length_toList]; exact hs
  have HE := Lib.hid (show s = strB (s.data.toList ++ numsB (ns.take 0)) by simp [numsB, strB_data])
  have HL := Lib.hid (show lineB s.data.toList ns = s.data.toList ++ numsB ns ++ [10] from rfl)
  generalize s.data.toList = S at *
  go_enter Tryz.func32, Tryz.ntmps32
  go_wp2
  go_loopw [5, 11] (fun t i wr => ∃ k : Nat, k ≤ ns.length ∧ i = .int .i64 k ∧ t = .string (strB (S ++ numsB (ns.take k))) ∧ Below w.heap.size w wr) (fun _ i _ => ns.length - (intOf i).toNat)
  case atStart => exact ⟨0, by omega, rfl, str_eq HE.out, Below.refl _ _⟩
  case round =>
    obtain ⟨k, hk, rfl, rfl, hb⟩ := hrel
    have hX := Lib.hid (numsB_len (fits_take HF.out k))
    have hX2 : ((S ++ numsB (ns.take k)).length : Int) ≤ 2000 := by have := hX.out; rw [List.length_append]; rw [List.length_take] at this; omega
    by_cases hlt : k < ns.length
    · obtain ⟨b, o, rfl, hB, c0⟩ := hA.at_ k hlt
      have c0 := (hb.cell (p := ⟨b, o + k, none⟩) hB).trans c0
      have hi0 : (0 : Int) ≤ (k : Int) := by omega
      have hi1 : (k : Int) < (ns.length : Int) := by omega
      have hr := HF.out ns[k] (List.getElem_mem hlt)
      have hY : ((Lib.itoa ns[k]).length : Int) ≤ 21 := by have := itoa_len hr; omega
      have TK := Lib.hid (take_in hlt)
      generalize ns[k] = n at *
      generalize numsB (ns.take k) = N at *
      generalize hXN : S ++ N = X at *
      have HXN := Lib.hid hXN
      clear hXN
      go_wp2_with (go_at_call 41; refine (iItoa_any n hr.1 hr.2 _ (tab_keep HT.out hb)).mono ?_; rintro e w3 ⟨rfl, hb3⟩)
      go_roundw
      case rel => exact ⟨k + 1, by omega, by go_num, str_eq (by rw [TK.out, row_i, ← HXN.out, List.append_assoc]), hb.andThen hb3⟩
      case measure => simp [intOf]; omega
    · have hkl : k = ns.length := by omega
      have HK := Lib.hid (show S ++ numsB (ns.take k) ++ [10] = S ++ numsB ns ++ [10] by rw [hkl, List.take_length])
      clear hkl
      generalize S ++ numsB (ns.take k) = X at *
      go_wp2
      go_ret
      exact ⟨ret_str (by rw [row_e, HK.out, ← HL.out]), hb⟩
end Go.Proofs.YtknfpigaognklaaGreatDoor
