/- A part of the proof. -/
import Derived.Test.YtomllcclallcdaaGreatDoorWr1
import Derived.Test.YtomllcclallcdaaGreatDoorWr5
import Derived.Shelf.Strings.Builder1
import Derived.Shelf.Small.Wraps
import Derived.Shelf.Strings.BuilderF
import Derived.Shelf.Strings.BuilderK
import Derived.Shelf.Strconv.Atoi
import Derived.Shelf.Strconv.Itoa0
import Derived.Shelf.Strconv.Itoa1
import Derived.Shelf.LaysM
import Derived.Shelf.Strconv.Itoa2
import Derived.Shelf.Strconv.Itoa3
import Derived.Shelf.Strconv.AtoiErrFast
import Derived.Shelf.Strconv.ParseIntEmpty
import Derived.Shelf.Strconv.AtoiFail
import Derived.Shelf.Strconv.Clone
import Derived.Shelf.Strconv.SyntaxError
import Derived.Shelf.LaysC
import Derived.Shelf.Strconv.ToError
import Derived.Shelf.Strconv.Lower
import Derived.Shelf.Strconv.ParseUint10
import Derived.Shelf.Strconv.ParseUint10Empty
import Derived.Shelf.Strconv.ParseUint10Any
import Derived.Shelf.Strconv.ParseInt10
import Derived.Shelf.Strconv.AtoiLong
import Derived.Shelf.Strconv.AtoiInnerAll
import Derived.Shelf.Strconv.RangeError
import Derived.Shelf.Strconv.ToErrorRange
import Derived.Shelf.Strconv.AtoiAll
import Derived.Shelf.Strconv.ErrVarAll
import Derived.Shelf.Strings.Search1
import Derived.Shelf.Strings.Search2
import Derived.Shelf.Strings.Search3
import Derived.Shelf.Strings.Count
import Derived.Shelf.Strings.Shaped
import Derived.Shelf.Strings.Prefix
import Derived.Shelf.Strings.Split
import Derived.Shelf.Strings.SplitShaped
import Derived.Shelf.Unicode.DecodeSlow
import Derived.Test.YtomllcclallcdaaGreatDoorProg
import Derived.Lib.SmallJoins
namespace Go.Proofs.YtomllcclallcdaaGreatDoor
section
open Go.RowKit Go.Sort
set_option maxRecDepth 100000 in
set_option maxHeartbeats 1000000 in
theorem sDec_small (u : Nat) (h : u < 10) (w : World) :
    Calls Tryz.prog 62 #[.int .i64 u] w fun e w' => e = .returned (.string (strB (Lib.decDigits u))) ∧ Below w.heap.size w w' := by
  have hi0 : (0 : Int) ≤ (u : Int) := by omega
  have hi1 : (u : Int) < 10 := by omega
  have hcv := conv1 (new_cell w (.int .u8 (48 + (u : Int))) 5)
  go_enter Tryz.func62, Tryz.ntmps62
  go_wp2
  go_ret
  exact ⟨by rw [dec_one h]; rfl, (Below.refl _ _).alloc (Nat.le_refl _) _⟩
attribute [local go_sem] strB_size
set_option maxRecDepth 100000 in
set_option maxHeartbeats 2000000 in
theorem sDec_nat (u : Nat) : ∀ (_ : u ≤ 9223372036854775807) (w : World),
    Calls Tryz.prog 62 #[.int .i64 u] w fun e w' => e = .returned (.string (strB (Lib.decDigits u))) ∧ Below w.heap.size w w' := by
  induction u using Nat.strongRecOn with
  | _ u ih =>
    intro hu w
    by_cases h : u < 10
    · exact sDec_small u h w
    · have hi1 : (10 : Int) ≤ (u : Int) := by omega
      have hi2 : (u : Int) ≤ 9223372036854775807 := by omega
      have hd : (u : Int).tdiv 10 = ((u / 10 : Nat) : Int) := by rw [Int.tdiv_eq_ediv_of_nonneg (by omega)]; simp
      have hm : (u : Int).tmod 10 = ((u % 10 : Nat) : Int) := by rw [Int.tmod_eq_emod_of_nonneg (by omega)]; simp
      have hm1 : ((u % 10 : Nat) : Int) < 10 := by omega
      have hm0 : (0 : Int) ≤ ((u % 10 : Nat) : Int) := by omega
      have hq0 : (0 : Int) ≤ ((u / 10 : Nat) : Int) := by omega
      have hq1 : ((u / 10 : Nat) : Int) ≤ 922337203685477580 := by omega
      have IH := Lib.hid (ih (u / 10) (by omega) (by omega))
      have hlen := dec_len (u := u / 10) (by omega)
      have hlen2 : ((Lib.decDigits (u / 10)).length : Int) ≤ 21 := by omega
      have DD := Lib.hid (dec_big h)
      generalize Lib.decDigits (u / 10) = D at *
      generalize u / 10 = q at *
      generalize u % 10 = r at *
      clear ih
      go_enter Tryz.func62, Tryz.ntmps62
      go_upto_region 7 with (fail)
      have bd : Below w.heap.size w w.drew := ⟨rfl, rfl, rfl, Nat.le_refl _, fun _ _ => rfl⟩
      refine region_T (.det 0 (.det 1 (.det 3 (.det 4 (.det 5 (.det 6 (.two 2 (.one 7 (.one 8 (.det 9 (.det 10 .done)))) 7 (.two 2 (.one 8 (.det 9 (.det 10 .done))) 8 (.one 2 (.det 9 (.det 10 .done)))))))))) ) (by kernel_rfl) (by kernel_rfl) rfl (by kernel_rfl) ?_
      repeat (refine wpT_det (by rfl) (by rfl) (fun K hK => ?_); go_big_quiet_op; refine hK _ ?_; clear hK K)
      refine wpT_two (by rfl) (by rfl) (by rfl) (by rfl) (fun K hK => ?_) (fun K hK => ?_)
      · go_big_op
        go_at_call 62
        refine (IH.out _).mono ?_
        rintro e w1 ⟨rfl, hb1⟩
        refine hK _ _ (regrown_of_below (bd.andThen hb1)) ?_
        clear hK K
        refine wpT_one (by rfl) (by rfl) (fun K hK => ?_)
        go_big_op
        refine hK _ _ (regrown_of_below ((bd.andThen hb1).andThen ((Below.refl _ _).alloc (Nat.le_refl _) _))) ?_
        clear hK K
        refine wpT_one (by rfl) (by rfl) (fun K hK => ?_)
        refine wp_conv1 rfl rfl (new_cell _ _ _) ?_
        refine hK _ _ (regrown_of_below ((bd.andThen hb1).andThen ((Below.refl _ _).alloc (Nat.le_refl _) _))) ?_
        clear hK K
        simp only [Act.put, List.setIfInBounds_toArray, List.set_cons_zero, List.set_cons_succ]
        repeat (refine wpT_det (by rfl) (by rfl) (fun K hK => ?_); go_big_quiet_op; refine hK _ ?_; clear hK K)
        refine wpT_nil ?_
        go_wp2
        go_ret
        exact ⟨ret_str (by rw [DD.out, strB_append]), (bd.andThen hb1).andThen ((Below.refl _ _).alloc (Nat.le_refl _) _)⟩
      · go_big_op
        refine hK _ _ (regrown_of_below (bd.andThen ((Below.refl _ _).alloc (Nat.le_refl _) _))) ?_
        clear hK K
        have bda : Below w.heap.size w (w.drew.alloc (.cells #[.int .u8 (48 + (r : Int))] 5)) := bd.andThen ((Below.refl _ _).alloc (Nat.le_refl _) _)
        refine wpT_two (by rfl) (by rfl) (by rfl) (by rfl) (fun K hK => ?_) (fun K hK => ?_)
        · go_big_op
          go_at_call 62
          refine (IH.out _).mono ?_
          rintro e w1 ⟨rfl, hb1⟩
          refine hK _ _ (regrown_of_below (bda.andThen hb1)) ?_
          clear hK K
          refine wpT_one (by rfl) (by rfl) (fun K hK => ?_)
          refine wp_conv1 rfl rfl ((hb1.cell (p := ⟨w.heap.size, 0, none⟩) (by simp)).trans (new_cell _ _ _)) ?_
          refine hK _ _ (regrown_of_below (bda.andThen hb1)) ?_
          clear hK K
          simp only [Act.put, List.setIfInBounds_toArray, List.set_cons_zero, List.set_cons_succ]
          repeat (refine wpT_det (by rfl) (by rfl) (fun K hK => ?_); go_big_quiet_op; refine hK _ ?_; clear hK K)
          refine wpT_nil ?_
          go_wp2
          go_ret
          exact ⟨ret_str (by rw [DD.out, strB_append]), bda.andThen hb1⟩
        · refine wp_conv1 rfl rfl (new_cell _ _ _) ?_
          refine hK _ _ (regrown_of_below bda) ?_
          clear hK K
          simp only [Act.put, List.setIfInBounds_toArray, List.set_cons_zero, List.set_cons_succ]
          refine wpT_one (by rfl) (by rfl) (fun K hK => ?_)
          go_big_op
          go_at_call 62
          refine (IH.out _).mono ?_
          rintro e w1 ⟨rfl, hb1⟩
          refine hK _ _ (regrown_of_below (bda.andThen hb1)) ?_
          clear hK K
          repeat (refine wpT_det (by rfl) (by rfl) (fun K hK => ?_); go_big_quiet_op; refine hK _ ?_; clear hK K)
          refine wpT_nil ?_
          go_wp2
          go_ret
          exact ⟨ret_str (by rw [DD.out, strB_append]), bda.andThen hb1⟩
set_option maxRecDepth 100000 in
set_option maxHeartbeats 1000000 in
theorem sDec_any (n : Int) (h0 : -9223372036854775808 ≤ n) (h1 : n ≤ 9223372036854775807) (w : World) :
    Calls Tryz.prog 62 #[.int .i64 n] w fun e w' => e = .returned (.string (strB (Lib.itoa n))) ∧ Below w.heap.size w w' := by
  by_cases hn : 0 ≤ n
  · obtain ⟨u, rfl⟩ := Int.eq_ofNat_of_zero_le hn
    rw [Lib.itoa_nonneg]
    exact sDec_nat u (by omega) w
  · by_cases hm : n = -9223372036854775808
    · subst hm
      have he := Lib.hid (show strB (Lib.itoa (-9223372036854775808)) = ⟨#[45, 57, 50, 50, 51, 51, 55, 50, 48, 51, 54, 56, 53, 52, 55, 55, 53, 56, 48, 56]⟩ by
        rw [show (-9223372036854775808 : Int) = -((9223372036854775808 : Nat) : Int) from rfl, Lib.itoa_neg _ (by decide), Lib.decDigits_eq, Lib.nDigits_unique 18 _ (by decide) (by decide)]
        decide +kernel)
      go_enter Tryz.func62, Tryz.ntmps62
      go_wp2
      go_ret
      exact ⟨ret_str he.out.symm, Below.refl _ _⟩
    · obtain ⟨u, rfl⟩ : ∃ u : Nat, n = -(u : Int) := ⟨n.natAbs, by omega⟩
      rw [Lib.itoa_neg u (by omega)]
      have hu0 : (1 : Int) ≤ (u : Int) := by omega
      have hu1 : (u : Int) ≤ 9223372036854775807 := by omega
      have hlen := dec_len (u := u) (by omega)
      have hlen2 : ((Lib.decDigits u).length : Int) ≤ 21 := by omega
      have IH := Lib.hid (sDec_nat u (by omega))
      have hs : (⟨#[45]⟩ : ByteArray) = strB [45] := rfl
      clear h0 h1 hn hm
      generalize Lib.decDigits u = D at *
      go_enter Tryz.func62, Tryz.ntmps62
      go_wp2_with (go_at_call 62; refine (IH.out _).mono ?_; rintro e w1 ⟨rfl, hb1⟩)
      go_ret
      exact ⟨ret_str (by first | rw [hs, strB_append]; rfl | rw [strB_append]; rfl), hb1⟩
end
end Go.Proofs.YtomllcclallcdaaGreatDoor
namespace Go.Proofs.YtomllcclallcdaaGreatDoor
section
def fits (ns : List Int) : Prop := ∀ n ∈ ns, -9223372036854775808 ≤ n ∧ n ≤ 9223372036854775807
def numsB (ns : List Int) : List UInt8 := ns.flatMap (fun n => 32 :: Lib.itoa n)
def lineB (w : List UInt8) (ns : List Int) : List UInt8 := w ++ numsB ns ++ [10]
theorem numsB_snoc (ns : List Int) (n : Int) : numsB (ns ++ [n]) = numsB ns ++ 32 :: Lib.itoa n := by simp [numsB]
theorem itoa_len {n : Int} (h : -9223372036854775808 ≤ n ∧ n ≤ 9223372036854775807) : (Lib.itoa n).length ≤ 21 := Lib.itoa_length_le n h.1 h.2
theorem numsB_len : ∀ {ns : List Int}, fits ns → (numsB ns).length ≤ 22 * ns.length
  | [], _ => by simp [numsB]
  | n :: r, h => by
    have h1 := itoa_len (h n (by simp))
    have h2 := numsB_len (ns := r) (fun m hm => h m (by simp [hm]))
    simp only [numsB, List.flatMap_cons, List.length_append, List.length_cons] at h2 ⊢
    omega
theorem lineB_len {w : List UInt8} {ns : List Int} (h : fits ns) : (lineB w ns).length ≤ w.length + 22 * ns.length + 1 := by
  have := numsB_len h
  simp only [lineB, List.length_append, List.length_cons, List.length_nil]
  omega
def catB (f : Nat → List UInt8) : Nat → List UInt8
  | 0 => []
  | n + 1 => catB f n ++ f n
theorem catB_len {f : Nat → List UInt8} {B : Nat} : ∀ n : Nat, (∀ k, k < n → (f k).length ≤ B) → (catB f n).length ≤ B * n
  | 0, _ => by simp [catB]
  | n + 1, h => by
    have h1 := catB_len n (fun k hk => h k (by omega))
    have h2 := h n (by omega)
    simp only [catB, List.length_append, Nat.mul_add]
    omega
def bitM (b : Bool) : Int := if b then 1 else 0
def cpuT (M : WorldM) (c : Nat) : List UInt8 := lineB [99, 112, 117] [bitM (cpo M c).up, (cpo M c).cur, (cpo M c).ran, (cpo M c).busy, (cpo M c).idle]
def shelfT (M : WorldM) (k c : Nat) : List UInt8 := lineB [115, 104, 101, 108, 102] [(k : Int), (c : Int), (she M k c).floor, bitM (she M k c).on, (she M k c).v, (she M k c).w, (she M k c).sum]
def pairsN (x : BandM) : Nat → List Int
  | 0 => []
  | n + 1 => pairsN x n ++ [x.locals.getD n 0, bitM (x.dry.getD n false)]
def bandN (k : Nat) (x : BandM) (n : Nat) : List Int := [(k : Int), x.quota, x.pool, x.spent] ++ pairsN x n
def bandT (k : Nat) (x : BandM) : List UInt8 := if 0 < x.quota then lineB [98, 97, 110, 100] (bandN k x x.locals.length) else []
def nameT (M : WorldM) (k : Nat) : List UInt8 := if k = 0 then [45] else (grp M k).name.data.toList
def headT (M : WorldM) (k : Nat) : List UInt8 := lineB ([103, 114, 111, 117, 112, 32] ++ nameT M k) [(k : Int), (grp M k).parent, (grp M k).weight, (grp M k).cpus, (grp M k).period, (grp M k).next, (grp M k).sum]
def groupT (M : WorldM) (k : Nat) : List UInt8 := headT M k ++ catB (shelfT M k) (grp M k).shelves.length ++ bandT k (grp M k).band
def taskT (M : WorldM) (t : Nat) : List UInt8 := lineB [116, 97, 115, 107] [(t : Int), (tsk M t).st, (tsk M t).gr, (tsk M t).cpu, (tsk M t).nice, (tsk M t).mask, (tsk M t).v, (tsk M t).sum, (tsk M t).used, (tsk M t).load]
def groupsT (M : WorldM) : Nat → List UInt8 := catB (fun k => if (grp M k).used = true then groupT M k else [])
def tasksT (M : WorldM) : Nat → List UInt8 := catB (fun t => if (tsk M t).st = 0 then [] else taskT M t)
def bodyT (M : WorldM) : List UInt8 := lineB [110, 111, 119] [M.now] ++ catB (cpuT M) M.cpus.length ++ groupsT M M.groups.length ++ tasksT M M.tasks.length
def textM (M : WorldM) : List UInt8 := if worldB M = true then bodyT M else []
structure NumOk (M : WorldM) : Prop where
  nowF : fits [M.now]
  cpuF : ∀ c, c < M.cpus.length → fits [bitM (cpo M c).up, (cpo M c).cur, (cpo M c).ran, (cpo M c).busy, (cpo M c).idle]
  grpF : ∀ k, k < 8 → (grp M k).used = true → fits [(k : Int), (grp M k).parent, (grp M k).weight, (grp M k).cpus, (grp M k).period, (grp M k).next, (grp M k).sum]
  sheF : ∀ k c : Nat, k < 8 → (grp M k).used = true → c < (grp M k).shelves.length → fits [(k : Int), (c : Int), (she M k c).floor, bitM (she M k c).on, (she M k c).v, (she M k c).w, (she M k c).sum]
  bandF : ∀ k, k < 8 → (grp M k).used = true → 0 < (grp M k).band.quota → ∀ n, n ≤ (grp M k).band.locals.length → fits (bandN k (grp M k).band n)
  tskF : ∀ t, t < M.tasks.length → (tsk M t).st ≠ 0 → fits [(t : Int), (tsk M t).st, (tsk M t).gr, (tsk M t).cpu, (tsk M t).nice, (tsk M t).mask, (tsk M t).v, (tsk M t).sum, (tsk M t).used, (tsk M t).load]
  nameF : ∀ k, k < 8 → k ≠ 0 → (grp M k).used = true → (grp M k).name.size ≤ 8
theorem bitM_bd (b : Bool) : 0 ≤ bitM b ∧ bitM b ≤ 1 := by cases b <;> simp [bitM]
theorem wof_in {n : Int} (h : wof n ≠ 0) : -10 ≤ n ∧ n ≤ 9 := by
  unfold wof at h
  split at h
  · rename_i h2; rw [inR_iff] at h2; omega
  · omega
theorem numOk_of {M : WorldM} (h : worldB M = true) (hx : NextOk M) : NumOk M := by
  have F := facts_of h
  simp only [worldB, worldH, worldL, shelvesB, cpusB, Bool.and_eq_true, beq_iff_eq, inR_iff] at h
  obtain ⟨⟨⟨⟨⟨h1, h2⟩, h3⟩, h4⟩, h5⟩, ⟨h6, h7⟩, h8, h9⟩ := h
  have hl8 := F.tree.len
  refine ⟨?_, fun c hc => ?_, fun k hk hu => ?_, fun k c hk hu hc => ?_, fun k hk hu hq => ?_, fun t ht hst => ?_, fun k hk h0 hu => ?_⟩
  · intro n hn; simp at hn; subst hn; omega
  · have q := List.all_eq_true.1 h9 c (List.mem_range.2 hc)
    have b := bitM_bd (cpo M c).up
    simp only [cpuB, cpuHead, Bool.and_eq_true, timeB, inR_iff] at q
    obtain ⟨⟨⟨q1, q2⟩, q3⟩, q4⟩ := q
    have hr : 0 ≤ (cpo M c).ran ∧ (cpo M c).ran ≤ 149 := by
      split at q4
      · simp at q4; omega
      · simp only [Bool.and_eq_true, inR_iff] at q4; omega
    intro n hn
    simp at hn
    rcases hn with rfl | rfl | rfl | rfl | rfl <;> omega
  · have q := List.all_eq_true.1 h6 k (List.mem_range.2 hk)
    rw [groupB, if_pos hu] at q
    simp only [grpU, Bool.and_eq_true, timeB, inR_iff] at q
    obtain ⟨⟨⟨⟨⟨⟨q1, q2⟩, q3⟩, q4⟩, q5⟩, q6⟩, q7⟩ := q
    have hp : -1 ≤ (grp M k).parent ∧ (grp M k).parent ≤ 8 := by
      by_cases h0 : k = 0
      · subst h0; have := F.tree.rpar; omega
      · obtain ⟨p1, p2, _⟩ := F.tree.up k hk hu h0; omega
    have hn9 := hx k (by omega)
    have hpn : 0 ≤ (grp M k).period ∧ (grp M k).period ≤ 1000 ∧ 0 ≤ (grp M k).next := by
      rw [grpQ] at q7
      split at q7
      · simp at q7; omega
      · simp only [Bool.and_eq_true, inR_iff, decide_eq_true_eq] at q7; omega
    intro n hn
    simp at hn
    rcases hn with rfl | rfl | rfl | rfl | rfl | rfl | rfl <;> omega
  · have q1 := List.all_eq_true.1 h8 k (List.mem_range.2 hk)
    have q2 := List.all_eq_true.1 q1 c (List.mem_range.2 hc)
    have b := bitM_bd (she M k c).on
    have hcc : c < M.cpus.length := by rw [F.gok.she k hk hu] at hc; exact hc
    have := F.c4
    simp only [shelfB, shelfB1, Bool.and_eq_true, timeB, inR_iff] at q2
    intro n hn
    simp at hn
    rcases hn with rfl | rfl | rfl | rfl | rfl | rfl | rfl <;> omega
  · have q := F.band k hk hu (by omega)
    simp only [bandB, bandHead, Bool.and_eq_true, inR_iff] at q
    intro n
    induction n with
    | zero =>
      intro _ m hm
      simp [bandN, pairsN] at hm
      rcases hm with rfl | rfl | rfl | rfl <;> omega
    | succ n ih =>
      intro hn m hm
      rw [bandN, pairsN, ← List.append_assoc, List.mem_append] at hm
      rcases hm with hm | hm
      · exact ih (by omega) m hm
      · have lc := lcB_bd (List.all_eq_true.1 q.1.2 n (List.mem_range.2 (by omega)))
        have b := bitM_bd ((grp M k).band.dry.getD n false)
        rw [List.mem_cons, List.mem_singleton] at hm
        rcases hm with rfl | rfl <;> omega
  · have q := List.all_eq_true.1 h7 t (List.mem_range.2 ht)
    rw [taskB, if_neg hst] at q
    simp only [taskB1, taskB2, Bool.and_eq_true, timeB, inR_iff, Bool.or_eq_true, beq_iff_eq, Bool.not_eq_true', beq_eq_false_iff_ne] at q
    obtain ⟨⟨⟨⟨⟨⟨q1, q2⟩, q3⟩, q4⟩, q5⟩, ⟨⟨⟨q6, q7⟩, q8⟩, q9⟩, q10⟩, q11⟩ := q
    have hw := wof_in q3
    obtain ⟨g, c, hg, hg8, _, hc, hcl⟩ := F.tk t (by omega) hst
    have := F.c4
    intro n hn
    simp at hn
    rcases hn with rfl | rfl | rfl | rfl | rfl | rfl | rfl | rfl | rfl | rfl <;> omega
  · simp only [treeB, Bool.and_eq_true] at h4
    have q := List.all_eq_true.1 h4.2 k (List.mem_range.2 hk)
    rw [show (k == 0) = false by simpa using h0, Bool.false_or, nodeB, hu] at q
    simp only [Bool.not_true, Bool.false_or, Bool.and_eq_true, nameB, inR_iff] at q
    omega
end
end Go.Proofs.YtomllcclallcdaaGreatDoor
namespace Go.Proofs
section
open Go.Shelf
def Tryz.lays169_ren : Go.Shelf.Ren := ⟨fun | 169 => 43 | n => n, fun | 70 => 74 | 9 => 9 | 0 => 0 | 72 => 77 | 37 => 75 | 127 => 103 | 3 => 3 | 5 => 5 | n => n, fun | n => n⟩
theorem Tryz.lays169 : Go.Proofs.Lays.n169 Tryz.prog Tryz.lays169_ren := {
  mixed := by kernel_rfl
  f169 := Tryz.func43.trans (congrArg some (by kernel_rfl))
  t0 := Tryz.underlying0
  a0 := Tryz.isAgg0
  z0 := Tryz.sizeOf0
  v0 := Tryz.zeroValue0
  t3 := Tryz.underlying3
  a3 := Tryz.isAgg3
  z3 := Tryz.sizeOf3
  v3 := Tryz.zeroValue3
  t9 := Tryz.underlying9
  a9 := Tryz.isAgg9
  z9 := Tryz.sizeOf9
  v9 := Tryz.zeroValue9
  t37 := Tryz.underlying75
  a37 := Tryz.isAgg75
  z37 := Tryz.sizeOf75
  v37 := Tryz.zeroValue75
  t70 := Tryz.underlying74
  a70 := Tryz.isAgg74
  z70 := Tryz.sizeOf74
  v70 := Tryz.zeroValue74
  t72 := Tryz.underlying77
  a72 := Tryz.isAgg77
  z72 := Tryz.sizeOf77
  v72 := Tryz.zeroValue77
  t127 := Tryz.underlying103
  a127 := Tryz.isAgg103
  z127 := Tryz.sizeOf103
  v127 := Tryz.zeroValue103 }
theorem Tryz.Builder_Extra_169 : Builder.Extra Tryz.prog Tryz.lays169_ren := {
  sizeBuilder := by kernel_rfl
  liesBuilder := by kernel_rfl
  t5 := Tryz.underlying5
  a5 := Tryz.isAgg5
  z5 := Tryz.sizeOf5
  v5 := Tryz.zeroValue5
  infoByte := by kernel_rfl
  cellsByte := by kernel_rfl
  sizeByte := by kernel_rfl
  neB5 := by decide }
open Go.RowKit in
theorem Tryz.Builder_String_any (B b : Nat) (l : List UInt8) (w : World) (h : Lib.IsBuilder 77 5 B b (Lib.byteCells l) w) (hBw : B ≤ w.heap.size) :
    Calls Tryz.prog 43 #[.pointer (some ⟨b, 0, none⟩)] w fun e w' => e = .returned (.string ⟨l.toArray⟩) ∧ Below B w w' := Any.Builder_String_any Tryz.lays169 Tryz.Builder_Extra_169 B b l w h hBw
def Tryz.lays104_ren : Go.Shelf.Ren := ⟨fun | 104 => 12 | 211 => 34 | 207 => 63 | n => n, fun | 9 => 9 | 4 => 4 | 24 => 36 | 3 => 3 | n => n, fun | n => n⟩
theorem Tryz.lays104 : Go.Proofs.Lays.n104 Tryz.prog Tryz.lays104_ren := {
  mixed := by kernel_rfl
  f104 := Tryz.func12.trans (congrArg some (by kernel_rfl))
  f207 := Tryz.func63.trans (congrArg some (by kernel_rfl))
  f211 := Tryz.func34.trans (congrArg some (by kernel_rfl))
  t3 := Tryz.underlying3
  a3 := Tryz.isAgg3
  z3 := Tryz.sizeOf3
  v3 := Tryz.zeroValue3
  t4 := Tryz.underlying4
  a4 := Tryz.isAgg4
  z4 := Tryz.sizeOf4
  v4 := Tryz.zeroValue4
  t9 := Tryz.underlying9
  a9 := Tryz.isAgg9
  z9 := Tryz.sizeOf9
  v9 := Tryz.zeroValue9
  t24 := Tryz.underlying36
  a24 := Tryz.isAgg36
  z24 := Tryz.sizeOf36
  v24 := Tryz.zeroValue36 }
open Go.RowKit in
theorem Tryz.strings_CutSuffix (s p : ByteArray) (w : World) (hs : s.size ≤ 9223372036854775807) :
    Calls Tryz.prog 12 #[.string s, .string p] w fun e w' => e = .returned (.tuple #[.string ⟨(Lib.trimSuffix s.data.toList p.data.toList).toArray⟩, .bool (Lib.hasSuffix s.data.toList p.data.toList)]) ∧ w' = w := Any.strings_CutSuffix Tryz.lays104 s p w hs
def Tryz.lays172_ren : Go.Shelf.Ren := ⟨fun | 172 => 36 | 244 => 67 | 245 => 68 | 247 => 103 | 279 => 104 | 280 => 105 | 281 => 106 | 282 => 107 | 287 => 146 | 316 => 147 | 171 => 81 | 205 => 148 | 321 => 162 | 322 => 163 | 243 => 131 | 246 => 159 | 283 => 169 | 284 => 170 | 285 => 171 | 286 => 172 | 129 => 174 | 317 => 173 | 318 => 175 | 319 => 176 | 320 => 177 | 337 => 178 | 338 => 179 | n => n, fun | 9 => 9 | 3 => 3 | 75 => 70 | 76 => 71 | 4 => 4 | 5 => 5 | 167 => 116 | 37 => 75 | 0 => 0 | 85 => 117 | 2 => 2 | 168 => 119 | 53 => 137 | 175 => 138 | 46 => 106 | 210 => 142 | 127 => 103 | 145 => 161 | 143 => 159 | 21 => 21 | 171 => 168 | 173 => 171 | 212 => 173 | 51 => 155 | 20 => 20 | 213 => 174 | 232 => 177 | 233 => 178 | 80 => 80 | n => n, fun | 15 => 1 | 16 => 2 | 17 => 5 | 18 => 6 | 19 => 7 | n => n⟩
def Tryz.laysM246_ren : Go.Shelf.Ren := ⟨fun | 246 => 159 | 283 => 169 | 284 => 170 | 285 => 171 | 286 => 172 | 129 => 174 | 317 => 173 | 318 => 175 | 319 => 176 | 320 => 177 | 337 => 178 | 338 => 179 | n => n, fun | 2 => 2 | 3 => 3 | 9 => 9 | 4 => 4 | 171 => 168 | 0 => 0 | 53 => 137 | 37 => 75 | 5 => 5 | 173 => 171 | 212 => 173 | 51 => 155 | 20 => 20 | 213 => 174 | 46 => 106 | 232 => 177 | 233 => 178 | n => n, fun | 17 => 5 | 18 => 6 | 19 => 7 | n => n⟩
def Tryz.laysM243_ren : Go.Shelf.Ren := ⟨fun | 243 => 131 | 246 => 159 | 283 => 169 | 284 => 170 | 285 => 171 | 286 => 172 | 129 => 174 | 317 => 173 | 318 => 175 | 319 => 176 | 320 => 177 | 337 => 178 | 338 => 179 | n => n, fun | 3 => 3 | 9 => 9 | 2 => 2 | 4 => 4 | 171 => 168 | 0 => 0 | 53 => 137 | 37 => 75 | 5 => 5 | 173 => 171 | 212 => 173 | 51 => 155 | 20 => 20 | 213 => 174 | 46 => 106 | 232 => 177 | 233 => 178 | n => n, fun | 17 => 5 | 18 => 6 | 19 => 7 | n => n⟩
def Tryz.laysM171_ren : Go.Shelf.Ren := ⟨fun | 171 => 81 | 243 => 131 | 246 => 159 | 283 => 169 | 284 => 170 | 285 => 171 | 286 => 172 | 129 => 174 | 317 => 173 | 318 => 175 | 319 => 176 | 320 => 177 | 337 => 178 | 338 => 179 | n => n, fun | 3 => 3 | 9 => 9 | 2 => 2 | 4 => 4 | 171 => 168 | 0 => 0 | 53 => 137 | 37 => 75 | 5 => 5 | 173 => 171 | 212 => 173 | 51 => 155 | 20 => 20 | 213 => 174 | 46 => 106 | 232 => 177 | 233 => 178 | n => n, fun | 17 => 5 | 18 => 6 | 19 => 7 | n => n⟩
theorem Tryz.laysM171 : Go.Proofs.LaysM.n171 Tryz.prog Tryz.laysM171_ren := {
  mixed := by kernel_rfl
  f129 := Tryz.func174.trans (congrArg some (by kernel_rfl))
  f171 := Tryz.func81.trans (congrArg some (by kernel_rfl))
  f243 := Tryz.func131.trans (congrArg some (by kernel_rfl))
  f246 := Tryz.func159.trans (congrArg some (by kernel_rfl))
  f283 := Tryz.func169.trans (congrArg some (by kernel_rfl))
  f284 := Tryz.func170.trans (congrArg some (by kernel_rfl))
  f285 := Tryz.func171.trans (congrArg some (by kernel_rfl))
  f286 := Tryz.func172.trans (congrArg some (by kernel_rfl))
  f317 := Tryz.func173.trans (congrArg some (by kernel_rfl))
  f318 := Tryz.func175.trans (congrArg some (by kernel_rfl))
  f319 := Tryz.func176.trans (congrArg some (by kernel_rfl))
  f320 := Tryz.func177.trans (congrArg some (by kernel_rfl))
  f337 := Tryz.func178.trans (congrArg some (by kernel_rfl))
  f338 := Tryz.func179.trans (congrArg some (by kernel_rfl))
  t0 := Tryz.underlying0
  a0 := Tryz.isAgg0
  z0 := Tryz.sizeOf0
  v0 := Tryz.zeroValue0
  t2 := Tryz.underlying2
  a2 := Tryz.isAgg2
  z2 := Tryz.sizeOf2
  v2 := Tryz.zeroValue2
  t3 := Tryz.underlying3
  a3 := Tryz.isAgg3
  z3 := Tryz.sizeOf3
  v3 := Tryz.zeroValue3
  t4 := Tryz.underlying4
  a4 := Tryz.isAgg4
  z4 := Tryz.sizeOf4
  v4 := Tryz.zeroValue4
  t5 := Tryz.underlying5
  a5 := Tryz.isAgg5
  z5 := Tryz.sizeOf5
  v5 := Tryz.zeroValue5
  t9 := Tryz.underlying9
  a9 := Tryz.isAgg9
  z9 := Tryz.sizeOf9
  v9 := Tryz.zeroValue9
  t20 := Tryz.underlying20
  a20 := Tryz.isAgg20
  z20 := Tryz.sizeOf20
  v20 := Tryz.zeroValue20
  t37 := Tryz.underlying75
  a37 := Tryz.isAgg75
  z37 := Tryz.sizeOf75
  v37 := Tryz.zeroValue75
  t46 := Tryz.underlying106
  a46 := Tryz.isAgg106
  z46 := Tryz.sizeOf106
  v46 := Tryz.zeroValue106
  t51 := Tryz.underlying155
  a51 := Tryz.isAgg155
  z51 := Tryz.sizeOf155
  v51 := Tryz.zeroValue155
  t53 := Tryz.underlying137
  a53 := Tryz.isAgg137
  z53 := Tryz.sizeOf137
  v53 := Tryz.zeroValue137
  t171 := Tryz.underlying168
  a171 := Tryz.isAgg168
  z171 := Tryz.sizeOf168
  v171 := Tryz.zeroValue168
  t173 := Tryz.underlying171
  a173 := Tryz.isAgg171
  z173 := Tryz.sizeOf171
  v173 := Tryz.zeroValue171
  t212 := Tryz.underlying173
  a212 := Tryz.isAgg173
  z212 := Tryz.sizeOf173
  v212 := Tryz.zeroValue173
  t213 := Tryz.underlying174
  a213 := Tryz.isAgg174
  z213 := Tryz.sizeOf174
  t232 := Tryz.underlying177
  a232 := Tryz.isAgg177
  z232 := Tryz.sizeOf177
  v232 := Tryz.zeroValue177
  t233 := Tryz.underlying178
  a233 := Tryz.isAgg178
  z233 := Tryz.sizeOf178
  v233 := Tryz.zeroValue178
  g17 := by kernel_rfl
  g18 := by kernel_rfl
  g19 := by kernel_rfl
  i0 := by kernel_rfl
  i2 := by kernel_rfl
  i3 := by kernel_rfl
  i4 := by kernel_rfl
  i5 := by kernel_rfl
  i9 := by kernel_rfl
  i20 := by kernel_rfl
  i37 := by kernel_rfl
  i46 := by kernel_rfl
  i51 := by kernel_rfl
  i53 := by kernel_rfl
  i171 := by kernel_rfl
  i173 := by kernel_rfl
  i212 := by kernel_rfl
  i232 := by kernel_rfl
  i233 := by kernel_rfl
  m17 := by kernel_rfl
  m18 := by kernel_rfl
  m19 := by kernel_rfl }
open Go.RowKit Go.Sort Go.Lib in
theorem Tryz.strconv_Itoa (n : Int) (h0 : -9223372036854775808 ≤ n) (h1 : n ≤ 9223372036854775807) (w : World) (htab : Lib.TabIs Tryz.prog w "internal/strconv.uint64pow10" .u64 Lib.pow10Tab) :
    Calls Tryz.prog 81 #[.int .i64 n] w fun e w' => e = .returned (.string ⟨(Lib.itoa n).toArray⟩) ∧ ∃ k os, w' = grow (w.drewN k) os := Any.strconv_Itoa Tryz.laysM171 n h0 h1 w htab
def Tryz.laysC172_ren : Go.Shelf.Ren := ⟨fun | 172 => 36 | 244 => 67 | 245 => 68 | 247 => 103 | 279 => 104 | 280 => 105 | 281 => 106 | 282 => 107 | 287 => 146 | 316 => 147 | 171 => 81 | 205 => 148 | 321 => 162 | 322 => 163 | 243 => 131 | 246 => 159 | 283 => 169 | 284 => 170 | 285 => 171 | 286 => 172 | 129 => 174 | 317 => 173 | 318 => 175 | 319 => 176 | 320 => 177 | 337 => 178 | 338 => 179 | n => n, fun | 9 => 9 | 3 => 3 | 75 => 70 | 76 => 71 | 4 => 4 | 5 => 5 | 167 => 116 | 37 => 75 | 0 => 0 | 85 => 117 | 2 => 2 | 168 => 119 | 53 => 137 | 175 => 138 | 46 => 106 | 210 => 142 | 127 => 103 | 145 => 161 | 143 => 159 | 21 => 21 | 171 => 168 | 173 => 171 | 212 => 173 | 51 => 155 | 20 => 20 | 213 => 174 | 232 => 177 | 233 => 178 | 80 => 80 | n => n, fun | 15 => 1 | 16 => 2 | 17 => 5 | 18 => 6 | 19 => 7 | n => n⟩
theorem Tryz.laysC172 : Go.Proofs.LaysC.n172 Tryz.prog Tryz.laysC172_ren := {
  mixed := by kernel_rfl
  f129 := Tryz.func174.trans (congrArg some (by kernel_rfl))
  f171 := Tryz.func81.trans (congrArg some (by kernel_rfl))
  f172 := Tryz.func36.trans (congrArg some (by kernel_rfl))
  f205 := Tryz.func148.trans (congrArg some (by kernel_rfl))
  f243 := Tryz.func131.trans (congrArg some (by kernel_rfl))
  f244 := Tryz.func67.trans (congrArg some (by kernel_rfl))
  f245 := Tryz.func68.trans (congrArg some (by kernel_rfl))
  f246 := Tryz.func159.trans (congrArg some (by kernel_rfl))
  f247 := Tryz.func103.trans (congrArg some (by kernel_rfl))
  f279 := Tryz.func104.trans (congrArg some (by kernel_rfl))
  f280 := Tryz.func105.trans (congrArg some (by kernel_rfl))
  f281 := Tryz.func106.trans (congrArg some (by kernel_rfl))
  f282 := Tryz.func107.trans (congrArg some (by kernel_rfl))
  f283 := Tryz.func169.trans (congrArg some (by kernel_rfl))
  f284 := Tryz.func170.trans (congrArg some (by kernel_rfl))
  f285 := Tryz.func171.trans (congrArg some (by kernel_rfl))
  f286 := Tryz.func172.trans (congrArg some (by kernel_rfl))
  f287 := Tryz.func146.trans (congrArg some (by kernel_rfl))
  f316 := Tryz.func147.trans (congrArg some (by kernel_rfl))
  f317 := Tryz.func173.trans (congrArg some (by kernel_rfl))
  f318 := Tryz.func175.trans (congrArg some (by kernel_rfl))
  f319 := Tryz.func176.trans (congrArg some (by kernel_rfl))
  f320 := Tryz.func177.trans (congrArg some (by kernel_rfl))
  f321 := Tryz.func162.trans (congrArg some (by kernel_rfl))
  f322 := Tryz.func163.trans (congrArg some (by kernel_rfl))
  f337 := Tryz.func178.trans (congrArg some (by kernel_rfl))
  f338 := Tryz.func179.trans (congrArg some (by kernel_rfl))
  t0 := Tryz.underlying0
  a0 := Tryz.isAgg0
  z0 := Tryz.sizeOf0
  v0 := Tryz.zeroValue0
  t2 := Tryz.underlying2
  a2 := Tryz.isAgg2
  z2 := Tryz.sizeOf2
  v2 := Tryz.zeroValue2
  t3 := Tryz.underlying3
  a3 := Tryz.isAgg3
  z3 := Tryz.sizeOf3
  v3 := Tryz.zeroValue3
  t4 := Tryz.underlying4
  a4 := Tryz.isAgg4
  z4 := Tryz.sizeOf4
  v4 := Tryz.zeroValue4
  t5 := Tryz.underlying5
  a5 := Tryz.isAgg5
  z5 := Tryz.sizeOf5
  v5 := Tryz.zeroValue5
  t9 := Tryz.underlying9
  a9 := Tryz.isAgg9
  z9 := Tryz.sizeOf9
  v9 := Tryz.zeroValue9
  t20 := Tryz.underlying20
  a20 := Tryz.isAgg20
  z20 := Tryz.sizeOf20
  v20 := Tryz.zeroValue20
  t21 := Tryz.underlying21
  a21 := Tryz.isAgg21
  z21 := Tryz.sizeOf21
  v21 := Tryz.zeroValue21
  t37 := Tryz.underlying75
  a37 := Tryz.isAgg75
  z37 := Tryz.sizeOf75
  v37 := Tryz.zeroValue75
  t46 := Tryz.underlying106
  a46 := Tryz.isAgg106
  z46 := Tryz.sizeOf106
  v46 := Tryz.zeroValue106
  t51 := Tryz.underlying155
  a51 := Tryz.isAgg155
  z51 := Tryz.sizeOf155
  v51 := Tryz.zeroValue155
  t53 := Tryz.underlying137
  a53 := Tryz.isAgg137
  z53 := Tryz.sizeOf137
  v53 := Tryz.zeroValue137
  t75 := Tryz.underlying70
  a75 := Tryz.isAgg70
  z75 := Tryz.sizeOf70
  v75 := Tryz.zeroValue70
  t76 := Tryz.underlying71
  a76 := Tryz.isAgg71
  z76 := Tryz.sizeOf71
  v76 := Tryz.zeroValue71
  t85 := Tryz.underlying117
  a85 := Tryz.isAgg117
  z85 := Tryz.sizeOf117
  v85 := Tryz.zeroValue117
  t127 := Tryz.underlying103
  a127 := Tryz.isAgg103
  z127 := Tryz.sizeOf103
  v127 := Tryz.zeroValue103
  t143 := Tryz.underlying159
  a143 := Tryz.isAgg159
  z143 := Tryz.sizeOf159
  v143 := Tryz.zeroValue159
  t145 := Tryz.underlying161
  a145 := Tryz.isAgg161
  z145 := Tryz.sizeOf161
  v145 := Tryz.zeroValue161
  t167 := Tryz.underlying116
  a167 := Tryz.isAgg116
  z167 := Tryz.sizeOf116
  v167 := Tryz.zeroValue116
  t168 := Tryz.underlying119
  a168 := Tryz.isAgg119
  z168 := Tryz.sizeOf119
  v168 := Tryz.zeroValue119
  t171 := Tryz.underlying168
  a171 := Tryz.isAgg168
  z171 := Tryz.sizeOf168
  v171 := Tryz.zeroValue168
  t173 := Tryz.underlying171
  a173 := Tryz.isAgg171
  z173 := Tryz.sizeOf171
  v173 := Tryz.zeroValue171
  t175 := Tryz.underlying138
  a175 := Tryz.isAgg138
  z175 := Tryz.sizeOf138
  v175 := Tryz.zeroValue138
  t210 := Tryz.underlying142
  a210 := Tryz.isAgg142
  z210 := Tryz.sizeOf142
  v210 := Tryz.zeroValue142
  t212 := Tryz.underlying173
  a212 := Tryz.isAgg173
  z212 := Tryz.sizeOf173
  v212 := Tryz.zeroValue173
  t213 := Tryz.underlying174
  a213 := Tryz.isAgg174
  z213 := Tryz.sizeOf174
  t232 := Tryz.underlying177
  a232 := Tryz.isAgg177
  z232 := Tryz.sizeOf177
  v232 := Tryz.zeroValue177
  t233 := Tryz.underlying178
  a233 := Tryz.isAgg178
  z233 := Tryz.sizeOf178
  v233 := Tryz.zeroValue178
  g15 := by kernel_rfl
  g16 := by kernel_rfl
  g17 := by kernel_rfl
  g18 := by kernel_rfl
  g19 := by kernel_rfl
  t80 := Tryz.underlying80
  a80 := Tryz.isAgg80
  z80 := Tryz.sizeOf80
  v80 := Tryz.zeroValue80
  i0 := by kernel_rfl
  i2 := by kernel_rfl
  i3 := by kernel_rfl
  i4 := by kernel_rfl
  i5 := by kernel_rfl
  i9 := by kernel_rfl
  i20 := by kernel_rfl
  i21 := by kernel_rfl
  i37 := by kernel_rfl
  i46 := by kernel_rfl
  i51 := by kernel_rfl
  i53 := by kernel_rfl
  i75 := by kernel_rfl
  i76 := by kernel_rfl
  i80 := by kernel_rfl
  i85 := by kernel_rfl
  i127 := by kernel_rfl
  i143 := by kernel_rfl
  i145 := by kernel_rfl
  i167 := by kernel_rfl
  i168 := by kernel_rfl
  i171 := by kernel_rfl
  i173 := by kernel_rfl
  i175 := by kernel_rfl
  i210 := by kernel_rfl
  i212 := by kernel_rfl
  i232 := by kernel_rfl
  i233 := by kernel_rfl
  m15 := by kernel_rfl
  m16 := by kernel_rfl
  m17 := by kernel_rfl
  m18 := by kernel_rfl
  m19 := by kernel_rfl
  c0 := by kernel_rfl
  c2 := by kernel_rfl
  c3 := by kernel_rfl
  c4 := by kernel_rfl
  c5 := by kernel_rfl
  c9 := by kernel_rfl
  c20 := by kernel_rfl
  c21 := by kernel_rfl
  c37 := by kernel_rfl
  c46 := by kernel_rfl
  c51 := by kernel_rfl
  c53 := by kernel_rfl
  c75 := by kernel_rfl
  c76 := by kernel_rfl
  c80 := by kernel_rfl
  c85 := by kernel_rfl
  c127 := by kernel_rfl
  c143 := by kernel_rfl
  c145 := by kernel_rfl
  c167 := by kernel_rfl
  c168 := by kernel_rfl
  c171 := by kernel_rfl
  c173 := by kernel_rfl
  c175 := by kernel_rfl
  c210 := by kernel_rfl
  c212 := by kernel_rfl
  c213 := by kernel_rfl
  c232 := by kernel_rfl
  c233 := by kernel_rfl }
open Go.RowKit in
theorem Tryz.strconv_Atoi_ok (s : ByteArray) (hmax : s.size ≤ 9223372036854775806) (v : Int) (h : Lib.atoiAll s.data.toList = .ok v) (w : World) :
    Calls Tryz.prog 36 #[.string s] w fun e w' => e = .returned (.tuple #[.int .i64 v, .nilIface]) ∧ (w' = w ∨ ∃ t, w' = Lib.bytesWorld w 5 t) := Any.strconv_Atoi_ok Tryz.laysC172 s hmax v h w
open Go.RowKit in
theorem Tryz.strconv_Atoi_syntax (s : ByteArray) (hlim : s.size ≤ 281474976710656) (h : ∀ v, Lib.atoiAll s.data.toList ≠ .ok v) (h2 : Lib.atoiAll s.data.toList ≠ .range) (ev : Value) (w : World) (hv : w.cell? ⟨1, 0, none⟩ = some ev) (hev : ev = .nilIface ∨ ∃ te pe, ev = .iface te pe) :
    Calls Tryz.prog 36 #[.string s] w fun e w' => ∃ N, e = .returned (.tuple #[.int .i64 (0), .iface 119 (.pointer (some ⟨N, 0, none⟩))]) ∧ w.heap.size ≤ N ∧ w'.heap[N]? = some (.cells #[.string ⟨#[65, 116, 111, 105]⟩, .string s, ev] 142 (0, 0)) ∧ Below w.heap.size w w' := Any.strconv_Atoi_syntax Tryz.laysC172 s hlim (by cases e : Lib.atoiAll s.data.toList with | ok v => exact absurd e (h v) | range => exact absurd e h2 | _ => rfl) ev w hv hev
open Go.RowKit in
theorem Tryz.strconv_Atoi_range (s : ByteArray) (hlim : s.size ≤ 281474976710656) (h : Lib.atoiAll s.data.toList = .range) (ev : Value) (w : World) (hv : w.cell? ⟨2, 0, none⟩ = some ev) (hev : ev = .nilIface ∨ ∃ te pe, ev = .iface te pe) :
    Calls Tryz.prog 36 #[.string s] w fun e w' => ∃ N, e = .returned (.tuple #[.int .i64 (Lib.atoiSat s.data.toList), .iface 119 (.pointer (some ⟨N, 0, none⟩))]) ∧ w.heap.size ≤ N ∧ w'.heap[N]? = some (.cells #[.string ⟨#[65, 116, 111, 105]⟩, .string s, ev] 142 (0, 0)) ∧ Below w.heap.size w w' := Any.strconv_Atoi_range Tryz.laysC172 s hlim h ev w hv hev
def Tryz.lays221_ren : Go.Shelf.Ren := ⟨fun | 221 => 35 | 268 => 64 | 138 => 65 | 143 => 66 | 195 => 99 | 197 => 100 | 218 => 101 | 219 => 102 | 260 => 141 | 217 => 142 | 225 => 143 | 224 => 144 | 267 => 145 | 266 => 160 | 314 => 161 | n => n, fun | 9 => 9 | 3 => 3 | 31 => 32 | 4 => 4 | 0 => 0 | 105 => 113 | 21 => 21 | 5 => 5 | 46 => 106 | 119 => 151 | 139 => 154 | 138 => 153 | 146 => 156 | 51 => 155 | n => n, fun | 1 => 0 | 3 => 3 | 4 => 4 | n => n⟩
def Tryz.lays146_ren : Go.Shelf.Ren := ⟨fun | 146 => 13 | 221 => 35 | 268 => 64 | 138 => 65 | 143 => 66 | 195 => 99 | 197 => 100 | 218 => 101 | 219 => 102 | 260 => 141 | 217 => 142 | 225 => 143 | 224 => 144 | 267 => 145 | 266 => 160 | 314 => 161 | n => n, fun | 9 => 9 | 31 => 32 | 3 => 3 | 4 => 4 | 0 => 0 | 105 => 113 | 21 => 21 | 5 => 5 | 46 => 106 | 119 => 151 | 139 => 154 | 138 => 153 | 146 => 156 | 51 => 155 | n => n, fun | 1 => 0 | 3 => 3 | 4 => 4 | n => n⟩
theorem Tryz.lays146 : Go.Proofs.Lays.n146 Tryz.prog Tryz.lays146_ren := {
  mixed := by kernel_rfl
  f138 := Tryz.func65.trans (congrArg some (by kernel_rfl))
  f143 := Tryz.func66.trans (congrArg some (by kernel_rfl))
  f146 := Tryz.func13.trans (congrArg some (by kernel_rfl))
  f195 := Tryz.func99.trans (congrArg some (by kernel_rfl))
  f197 := Tryz.func100.trans (congrArg some (by kernel_rfl))
  f217 := Tryz.func142.trans (congrArg some (by kernel_rfl))
  f218 := Tryz.func101.trans (congrArg some (by kernel_rfl))
  f219 := Tryz.func102.trans (congrArg some (by kernel_rfl))
  f221 := Tryz.func35.trans (congrArg some (by kernel_rfl))
  f224 := Tryz.func144.trans (congrArg some (by kernel_rfl))
  f225 := Tryz.func143.trans (congrArg some (by kernel_rfl))
  f260 := Tryz.func141.trans (congrArg some (by kernel_rfl))
  f266 := Tryz.func160.trans (congrArg some (by kernel_rfl))
  f267 := Tryz.func145.trans (congrArg some (by kernel_rfl))
  f268 := Tryz.func64.trans (congrArg some (by kernel_rfl))
  f314 := Tryz.func161.trans (congrArg some (by kernel_rfl))
  t0 := Tryz.underlying0
  a0 := Tryz.isAgg0
  z0 := Tryz.sizeOf0
  v0 := Tryz.zeroValue0
  t3 := Tryz.underlying3
  a3 := Tryz.isAgg3
  z3 := Tryz.sizeOf3
  v3 := Tryz.zeroValue3
  t4 := Tryz.underlying4
  a4 := Tryz.isAgg4
  z4 := Tryz.sizeOf4
  v4 := Tryz.zeroValue4
  t5 := Tryz.underlying5
  a5 := Tryz.isAgg5
  z5 := Tryz.sizeOf5
  v5 := Tryz.zeroValue5
  t9 := Tryz.underlying9
  a9 := Tryz.isAgg9
  z9 := Tryz.sizeOf9
  v9 := Tryz.zeroValue9
  t21 := Tryz.underlying21
  a21 := Tryz.isAgg21
  z21 := Tryz.sizeOf21
  v21 := Tryz.zeroValue21
  t31 := Tryz.underlying32
  a31 := Tryz.isAgg32
  z31 := Tryz.sizeOf32
  v31 := Tryz.zeroValue32
  t46 := Tryz.underlying106
  a46 := Tryz.isAgg106
  z46 := Tryz.sizeOf106
  v46 := Tryz.zeroValue106
  t51 := Tryz.underlying155
  a51 := Tryz.isAgg155
  z51 := Tryz.sizeOf155
  v51 := Tryz.zeroValue155
  t105 := Tryz.underlying113
  a105 := Tryz.isAgg113
  z105 := Tryz.sizeOf113
  v105 := Tryz.zeroValue113
  t119 := Tryz.underlying151
  a119 := Tryz.isAgg151
  z119 := Tryz.sizeOf151
  t138 := Tryz.underlying153
  a138 := Tryz.isAgg153
  z138 := Tryz.sizeOf153
  v138 := Tryz.zeroValue153
  t139 := Tryz.underlying154
  a139 := Tryz.isAgg154
  z139 := Tryz.sizeOf154
  v139 := Tryz.zeroValue154
  t146 := Tryz.underlying156
  a146 := Tryz.isAgg156
  z146 := Tryz.sizeOf156
  v146 := Tryz.zeroValue156
  g1 := by kernel_rfl
  g3 := by kernel_rfl
  g4 := by kernel_rfl }
open Go.RowKit Go.Lib in
theorem Tryz.strings_Split (s sep : ByteArray) (m : Int) (w : World) (hs : s.size < 4294967281) (hm : w.cell? ⟨0, 0, none⟩ = some (.int .i64 m)) (h1 : 1 ≤ sep.size) :
    Calls Tryz.prog 13 #[.string s, .string sep] w fun e w' =>
      e = .returned (.slice (some ⟨w.heap.size, 0, none⟩) (Lib.countB s sep + 1) (Lib.countB s sep + 1)) ∧ w' = w.alloc (.cells ((Lib.splitB sep 0 (Lib.countB s sep) s).map Value.string).toArray 9) := Any.strings_Split Tryz.lays146 (by kernel_rfl) s sep m w hs hm h1
end
end Go.Proofs
namespace Go.Proofs.YtomllcclallcdaaGreatDoor
section
open Go.RowKit Go.Sort
theorem sizeBu : (Tryz.prog.info? 77).map (·.size) = some 2 := by kernel_rfl
theorem liesBu : liesAt Tryz.prog Tryz.prog.depth 77 (2 / Tryz.prog.cellsOf 77) 0 77 1 = true := by kernel_rfl
theorem infoBu : (Tryz.prog.info? 5).map (fun i => (i.zero, i.size, i.bytes)) = some (some (.int .u8 0), 1, 1) := by kernel_rfl
set_option maxHeartbeats 1000000 in
set_option maxRecDepth 100000 in
theorem bCheck_used (b : Nat) (w : World) (h0 : w.cell? ⟨b, 0, none⟩ = some (.pointer (some ⟨b, 0, none⟩))) :
    Calls Tryz.prog 80 #[.pointer (some ⟨b, 0, none⟩)] w fun e w' => e = .returned (.tuple #[]) ∧ w' = w := by
  obtain ⟨j, hj, _⟩ := Option.map_eq_some_iff.1 sizeBu
  go_enter Tryz.func80, Tryz.ntmps80
  go_wp2
  rw [Lib.run_neq_ptr_same w _ Tryz.underlying74 hj]
  go_wp2
  go_end0
  exact ⟨rfl, rfl⟩
set_option maxHeartbeats 1000000 in
set_option maxRecDepth 100000 in
theorem bCheck_fresh (b : Nat) (w : World) (h0 : w.cell? ⟨b, 0, none⟩ = some (.pointer none)) (hsh : w.shape? b = some (77, 2)) (hfz : w.frozen? ⟨b, 0, none⟩ = false) :
    Calls Tryz.prog 80 #[.pointer (some ⟨b, 0, none⟩)] w fun e w' => e = .returned (.tuple #[]) ∧ w' = w.setCell ⟨b, 0, none⟩ (.pointer (some ⟨b, 0, none⟩)) := by
  obtain ⟨j, hj, hjs⟩ := Option.map_eq_some_iff.1 sizeBu
  go_enter Tryz.func80, Tryz.ntmps80
  go_wp2
  rw [Lib.run_to_unsafe w ⟨b, 0, none⟩ Tryz.underlying74 Tryz.underlying132 hj (by rw [hjs]; decide) hsh (Nat.zero_lt_succ 1)]
  simp only [Result.andThen]
  rw [Oper.upon_value]
  go_wp2
  rw [run_callFunc_extern Tryz.func130 (by kernel_rfl) (by kernel_rfl) (by kernel_rfl) (e := Extern.AbiNoEscape.same) (by kernel_rfl)]
  rw [Lib.run_noEscape]
  simp only [Result.andThen]
  rw [Oper.upon_value]
  go_wp2
  rw [Lib.run_from_unsafe w ⟨b, 0, none⟩ Tryz.underlying132 Tryz.underlying74 hj hsh liesBu]
  simp only [Result.andThen]
  rw [Oper.upon_value]
  go_wp2
  go_end0
  exact ⟨rfl, rfl⟩
theorem bCheck_any (B b : Nat) (bs : List Value) (w : World) (h : Lib.IsBuilder 77 5 B b bs w) :
    Calls Tryz.prog 80 #[.pointer (some ⟨b, 0, none⟩)] w fun e w' => e = .returned (.tuple #[]) ∧ (Lib.BuilderAt 77 5 B b (.pointer (some ⟨b, 0, none⟩)) bs w' ∧ Below B w w') := by
  rcases h with h | h
  · refine (bCheck_fresh b w h.cell0 h.shape h.frozen0).mono ?_
    rintro e w' ⟨rfl, rfl⟩
    exact ⟨rfl, h.used _, (Below.refl B w).setCell (p := ⟨b, 0, none⟩) h.1 _⟩
  · refine (bCheck_used b w h.cell0).mono ?_
    rintro e w' ⟨rfl, rfl⟩
    exact ⟨rfl, h, Below.refl B _⟩
set_option maxHeartbeats 2000000 in
set_option maxRecDepth 100000 in
theorem bWrite_any (B b : Nat) (bs : List Value) (s : ByteArray) (w : World) (h : Lib.IsBuilder 77 5 B b bs w) (hlen : bs.length + s.size ≤ 140737488355328) (hBw : B ≤ w.heap.size) :
    Calls Tryz.prog 39 #[.pointer (some ⟨b, 0, none⟩), .string s] w fun e w' => e = .returned (.tuple #[.int .i64 s.size, .nilIface]) ∧ (Lib.BuilderAt 77 5 B b (.pointer (some ⟨b, 0, none⟩)) (bs ++ Lib.strCells s) w' ∧ Below B w w') := by
  obtain ⟨i0, hi, hz0, hz1, hz2⟩ := info_parts infoBu
  go_enter Tryz.func39, Tryz.ntmps39
  go_upto_region 2 with (go_at_call 80; refine (bCheck_any B b bs _ h).mono ?_; rintro e w1 ⟨rfl, h1, hb1⟩)
  obtain ⟨hB, v, hbk, hown, hne⟩ := h1
  have c0 : w1.cell? ⟨b, 0, none⟩ = some (.pointer (some ⟨b, 0, none⟩)) := by rw [Lib.cell_of_heap hbk]; rfl
  have c1 : w1.cell? ⟨b, 1, none⟩ = some v := by rw [Lib.cell_of_heap hbk]; rfl
  go_wp2_with (at_builtin; refine Lib.wpList_append_own_string _ rfl _ _ 75 9 rfl B 5 i0 Tryz.underlying75 Tryz.underlying9 hi hz0 hz1 hz2 _ _ _ rfl hown s rfl ?c3 ?c4 ?c5 ?_)
  case c3 => unfold maxLen; omega
  case c4 => omega
  case c5 => have := hb1.size; omega
  intro v' w2 hown' hgrow _
  have hlt : b < w1.heap.size := by
    rcases Nat.lt_or_ge b w1.heap.size with h' | h'
    · exact h'
    · simp [Array.getElem?_eq_none h'] at hbk
  have hb2 : w2.heap[b]? = some (.cells #[.pointer (some ⟨b, 0, none⟩), v] 77 (0, 0)) := by
    rw [hgrow.block b hlt (fun e => hne e.symm)]
    exact hbk
  have d0 : w2.cell? ⟨b, 0, none⟩ = some (.pointer (some ⟨b, 0, none⟩)) := by rw [Lib.cell_of_heap hb2]; rfl
  have d1 : w2.cell? ⟨b, 1, none⟩ = some v := by rw [Lib.cell_of_heap hb2]; rfl
  have f1 : w2.frozen? ⟨b, 1, none⟩ = false := Lib.frozen_of_heap hb2 1
  obtain ⟨ao, n', cap, rfl⟩ : ∃ ao n' cap, v' = .slice ao n' cap := by
    rcases hown'.2 with ⟨hv, _⟩ | ⟨g, cap, cur, hv, _⟩
    · exact ⟨_, _, _, hv⟩
    · exact ⟨_, _, _, hv⟩
  go_wp2
  go_ret2
  refine ⟨rfl, ?_, ?_⟩
  · exact Lib.BuilderAt.put (T := 77) (e := 5) hB hb2 (bs' := bs ++ Lib.strCells s) (by simpa [Lib.strCells_length] using hown') (by decide)
  · exact (hb1.grown hgrow (by have := hb1.size; omega) (fun k hk => (hown.lt k hk).1)).setCell (p := ⟨b, 1, none⟩) hB _
end
end Go.Proofs.YtomllcclallcdaaGreatDoor
namespace Go.Proofs.YtomllcclallcdaaGreatDoor
section
open Go.RowKit Go.Sort
attribute [local go_sem] strB_size
theorem strB_data (s : ByteArray) : strB s.data.toList = s := rfl
theorem row_s (X Y : List UInt8) : strB X ++ (⟨#[32]⟩ : ByteArray) ++ strB Y = strB (X ++ 32 :: Y) := by
  rw [show (⟨#[32]⟩ : ByteArray) = strB [32] from rfl, strB_append, strB_append]; simp
theorem row_i (X Y : List UInt8) : strB X ++ ((⟨#[32]⟩ : ByteArray) ++ strB Y) = strB (X ++ 32 :: Y) := by
  rw [show (⟨#[32]⟩ : ByteArray) = strB [32] from rfl, strB_append, strB_append]; simp
theorem row_e (X : List UInt8) : strB X ++ (⟨#[10]⟩ : ByteArray) = strB (X ++ [10]) := by
  rw [show (⟨#[10]⟩ : ByteArray) = strB [10] from rfl, strB_append]
theorem take_in {ns : List Int} {k : Nat} (h : k < ns.length) : numsB (ns.take (k + 1)) = numsB (ns.take k) ++ 32 :: Lib.itoa ns[k] := by
  rw [List.take_succ_eq_append_getElem h, numsB_snoc]
theorem fits_take {ns : List Int} (h : fits ns) (k : Nat) : fits (ns.take k) := fun n hn => h n (List.mem_of_mem_take hn)
set_option maxRecDepth 100000 in
set_option maxHeartbeats 2000000 in
theorem sRow_any (s : ByteArray) (A : Option Addr) (cap : Nat) (ns : List Int) (w : World) (hA : IntS w A ns) (hs : s.size ≤ 1000) (hn : ns.length ≤ 20) (hf : fits ns) :
    Calls Tryz.prog 31 #[.string s, .slice A ns.length cap] w fun e w' => e = .returned (.string (strB (lineB s.data.toList ns))) ∧ Below w.heap.size w w' := by
  have HF := Lib.hid hf
  have hsz : s.data.toList.length ≤ 1000 := by rw [Array.length_toList]; exact hs
  have HE := Lib.hid (show s = strB (s.data.toList ++ numsB (ns.take 0)) by simp [numsB, strB_data])
  have HL := Lib.hid (show lineB s.data.toList ns = s.data.toList ++ numsB ns ++ [10] from rfl)
  generalize s.data.toList = S at *
  go_enter Tryz.func31, Tryz.ntmps31
  go_wp2
  go_loopw [5, 6] (fun t i wr => ∃ k : Nat, k ≤ ns.length ∧ i = .int .i64 k ∧ t = .string (strB (S ++ numsB (ns.take k))) ∧ Below w.heap.size w wr) (fun _ i _ => ns.length - (intOf i).toNat)
  case atStart => exact ⟨0, by omega, rfl, str_eq HE.out, Below.refl _ _⟩
  case round =>
    obtain ⟨k, hk, rfl, rfl, hb⟩ := hrel
    have hX := Lib.hid (numsB_len (fits_take HF.out k))
    have hX2 : ((S ++ numsB (ns.take k)).length : Int) ≤ 2000 := by have := hX.out; rw [List.length_append]; rw [List.length_take] at this; omega
    by_cases hlt : k < ns.length
    · obtain ⟨b, o, rfl, hB, c0⟩ := hA.at_ k hlt
      have c0 := (hb.cell (p := ⟨b, o + k, none⟩) hB).trans c0
      have hi0 : (0 : Int) ≤ (k : Int) := by omega
      have hi1 : (k : Int) < (ns.length : Int) := by omega
      have hr := HF.out ns[k] (List.getElem_mem hlt)
      have hY : ((Lib.itoa ns[k]).length : Int) ≤ 21 := by have := itoa_len hr; omega
      have TK := Lib.hid (take_in hlt)
      generalize ns[k] = n at *
      generalize numsB (ns.take k) = N at *
      generalize hXN : S ++ N = X at *
      have HXN := Lib.hid hXN
      clear hXN
      go_wp2_with (go_at_call 62; refine (sDec_any n hr.1 hr.2 _).mono ?_; rintro e w3 ⟨rfl, hb3⟩)
      go_roundw
      case rel => exact ⟨k + 1, by omega, by go_num, str_eq (by rw [TK.out, row_s, ← HXN.out, List.append_assoc]), hb.andThen hb3⟩
      case measure => simp [intOf]; omega
    · have hkl : k = ns.length := by omega
      have HK := Lib.hid (show S ++ numsB (ns.take k) ++ [10] = S ++ numsB ns ++ [10] by rw [hkl, List.take_length])
      clear hkl
      generalize S ++ numsB (ns.take k) = X at *
      go_wp2
      go_ret
      exact ⟨ret_str (by rw [row_e, HK.out, ← HL.out]), hb⟩
theorem iItoa_any (n : Int) (h0 : -9223372036854775808 ≤ n) (h1 : n ≤ 9223372036854775807) (w : World) (htab : Lib.TabIs Tryz.prog w "internal/strconv.uint64pow10" .u64 Lib.pow10Tab) :
    Calls Tryz.prog 81 #[.int .i64 n] w fun e w' => e = .returned (.string (strB (Lib.itoa n))) ∧ Below w.heap.size w w' := by
  refine (Tryz.strconv_Itoa n h0 h1 w htab).mono ?_
  rintro e w' ⟨rfl, k, os, rfl⟩
  refine ⟨rfl, ?_⟩
  exact ⟨by simp [grow, World.drewN], by simp [grow, World.drewN], by simp [grow, World.drewN], by simp [grow, World.drewN], fun j hj => by simp [grow, World.drewN, Array.getElem?_append, hj]⟩
theorem powAt : (Tryz.prog.globalNamed "internal/strconv.uint64pow10").isSome = true := by kernel_rfl
theorem tab_keep {w w' : World} (h : Lib.TabIs Tryz.prog w "internal/strconv.uint64pow10" .u64 Lib.pow10Tab) (hb : Below w.heap.size w w') : Lib.TabIs Tryz.prog w' "internal/strconv.uint64pow10" .u64 Lib.pow10Tab := by
  obtain ⟨g, hg⟩ := Option.isSome_iff_exists.1 powAt
  exact Go.Joins.tab_stays hg h hb (Nat.le_refl _)
set_option maxRecDepth 100000 in
set_option maxHeartbeats 2000000 in
theorem iRow_any (s : ByteArray) (A : Option Addr) (cap : Nat) (ns : List Int) (w : World) (hA : IntS w A ns) (hs : s.size ≤ 1000) (hn : ns.length ≤ 20) (hf : fits ns) (htab : Lib.TabIs Tryz.prog w "internal/strconv.uint64pow10" .u64 Lib.pow10Tab) :
    Calls Tryz.prog 40 #[.string s, .slice A ns.length cap] w fun e w' => e = .returned (.string (strB (lineB s.data.toList ns))) ∧ Below w.heap.size w w' := by
  have HF := Lib.hid hf
  have HT := Lib.hid htab
  clear htab
  have hsz : s.data.toList.length ≤ 1000 := by rw [Array.length_toList]; exact hs
  have HE := Lib.hid (show s = strB (s.data.toList ++ numsB (ns.take 0)) by simp [numsB, strB_data])
  have HL := Lib.hid (show lineB s.data.toList ns = s.data.toList ++ numsB ns ++ [10] from rfl)
  generalize s.data.toList = S at *
  go_enter Tryz.func40, Tryz.ntmps40
  go_wp2
  go_loopw [5, 11] (fun t i wr => ∃ k : Nat, k ≤ ns.length ∧ i = .int .i64 k ∧ t = .string (strB (S ++ numsB (ns.take k))) ∧ Below w.heap.size w wr) (fun _ i _ => ns.length - (intOf i).toNat)
  case atStart => exact ⟨0, by omega, rfl, str_eq HE.out, Below.refl _ _⟩
  case round =>
    obtain ⟨k, hk, rfl, rfl, hb⟩ := hrel
    have hX := Lib.hid (numsB_len (fits_take HF.out k))
    have hX2 : ((S ++ numsB (ns.take k)).length : Int) ≤ 2000 := by have := hX.out; rw [List.length_append]; rw [List.length_take] at this; omega
    by_cases hlt : k < ns.length
    · obtain ⟨b, o, rfl, hB, c0⟩ := hA.at_ k hlt
      have c0 := (hb.cell (p := ⟨b, o + k, none⟩) hB).trans c0
      have hi0 : (0 : Int) ≤ (k : Int) := by omega
      have hi1 : (k : Int) < (ns.length : Int) := by omega
      have hr := HF.out ns[k] (List.getElem_mem hlt)
      have hY : ((Lib.itoa ns[k]).length : Int) ≤ 21 := by have := itoa_len hr; omega
      have TK := Lib.hid (take_in hlt)
      generalize ns[k] = n at *
      generalize numsB (ns.take k) = N at *
      generalize hXN : S ++ N = X at *
      have HXN := Lib.hid hXN
      clear hXN
      go_wp2_with (go_at_call 81; refine (iItoa_any n hr.1 hr.2 _ (tab_keep HT.out hb)).mono ?_; rintro e w3 ⟨rfl, hb3⟩)
      go_roundw
      case rel => exact ⟨k + 1, by omega, by go_num, str_eq (by rw [TK.out, row_i, ← HXN.out, List.append_assoc]), hb.andThen hb3⟩
      case measure => simp [intOf]; omega
    · have hkl : k = ns.length := by omega
      have HK := Lib.hid (show S ++ numsB (ns.take k) ++ [10] = S ++ numsB ns ++ [10] by rw [hkl, List.take_length])
      clear hkl
      generalize S ++ numsB (ns.take k) = X at *
      go_wp2
      go_ret
      exact ⟨ret_str (by rw [row_e, HK.out, ← HL.out]), hb⟩
end
end Go.Proofs.YtomllcclallcdaaGreatDoor
namespace Go.Proofs.YtomllcclallcdaaGreatDoor
section
open Go.RowKit
structure Keep (S : Nat → Prop) (w w' : World) : Prop where
  os : w'.os = w.os
  tape : w'.tape = w.tape
  output : w'.output = w.output
  size : w.heap.size ≤ w'.heap.size
  block : ∀ k, k < w.heap.size → ¬ S k → w'.heap[k]? = w.heap[k]?
theorem Keep.refl (S : Nat → Prop) (w : World) : Keep S w w := ⟨rfl, rfl, rfl, Nat.le_refl _, fun _ _ _ => rfl⟩
theorem Keep.trans {S : Nat → Prop} {a b c : World} (h : Keep S a b) (k : Keep S b c) : Keep S a c :=
  ⟨k.os.trans h.os, k.tape.trans h.tape, k.output.trans h.output, Nat.le_trans h.size k.size, fun i hi hs => (k.block i (Nat.lt_of_lt_of_le hi h.size) hs).trans (h.block i hi hs)⟩
theorem Keep.mono {S S' : Nat → Prop} {a b : World} (h : Keep S a b) (hS : ∀ k, k < a.heap.size → S k → S' k) : Keep S' a b :=
  ⟨h.os, h.tape, h.output, h.size, fun i hi hs => h.block i hi (fun x => hs (hS i hi x))⟩
theorem Keep.then_ {S S' : Nat → Prop} {a b c : World} (h : Keep S a b) (k : Keep S' b c) (hS : ∀ i, i < a.heap.size → S' i → S i) : Keep S a c :=
  ⟨k.os.trans h.os, k.tape.trans h.tape, k.output.trans h.output, Nat.le_trans h.size k.size, fun i hi hs => (k.block i (Nat.lt_of_lt_of_le hi h.size) (fun x => hs (hS i hi x))).trans (h.block i hi hs)⟩
theorem Keep.of_below {S : Nat → Prop} {a b : World} (h : Below a.heap.size a b) : Keep S a b := ⟨h.os, h.tape, h.output, h.size, fun i hi _ => h.block i hi⟩
theorem Keep.below {S : Nat → Prop} {a b : World} {B : Nat} (h : Keep S a b) (hB : B ≤ a.heap.size) (hS : ∀ k, S k → B ≤ k) : Below B a b :=
  ⟨h.os, h.tape, h.output, h.size, fun i hi => h.block i (Nat.lt_of_lt_of_le hi hB) (fun x => by have := hS i x; omega)⟩
theorem Keep.set {S : Nat → Prop} (w : World) (p : Addr) (u : Value) (hp : S p.block) : Keep S w (w.setCell p u) :=
  ⟨rfl, rfl, rfl, by simp [World.setCell], fun k _ hs => Below.heap_setCell _ _ _ _ (fun e => hs (e ▸ hp))⟩
theorem Keep.blk {S : Nat → Prop} {w w' : World} {g : Nat} {t : TypeId} {cs : Array Value} (h : Keep S w w') (hb : Blk w g t cs) (hg : ¬ S g) : Blk w' g t cs := (h.block g hb.lt hg).trans hb
def RowR (w : World) (B : Nat) (A : Option Addr) (T : TypeId) (n len : Nat) (f : Nat → Nat → Value) : Prop :=
  (A = none ∧ len = 0) ∨ ∃ g C, A = some ⟨g, 0, none⟩ ∧ B ≤ g ∧ Blk w g T C ∧ ∀ k i, k < len → i < n → C[k * n + i]? = some (f k i)
section
variable {w w' : World} {B : Nat} {A : Option Addr} {T : TypeId} {n len : Nat} {f f' : Nat → Nat → Value}
theorem RowR.mk_ {g : Nat} {C : Array Value} (hB : B ≤ g) (hb : Blk w g T C) (h : ∀ k i, k < len → i < n → C[k * n + i]? = some (f k i)) : RowR w B (some ⟨g, 0, none⟩) T n len f := .inr ⟨g, C, rfl, hB, hb, h⟩
theorem RowR.nil : RowR w B none T n 0 f := .inl ⟨rfl, rfl⟩
theorem RowR.congr (h : RowR w B A T n len f) (hf : ∀ k i, k < len → i < n → f k i = f' k i) : RowR w B A T n len f' := by
  rcases h with h | ⟨g, C, hA, hB, hb, hc⟩
  · exact .inl h
  · exact .inr ⟨g, C, hA, hB, hb, fun k i hk hi => by rw [← hf k i hk hi]; exact hc k i hk hi⟩
theorem RowR.mono {B' : Nat} (h : RowR w B A T n len f) (hB : B' ≤ B) : RowR w B' A T n len f := by
  rcases h with h | ⟨g, C, hA, hB', hb, hc⟩
  · exact .inl h
  · exact .inr ⟨g, C, hA, Nat.le_trans hB hB', hb, hc⟩
theorem RowR.lt (h : RowR w B A T n len f) {a : Addr} (ha : A = some a) : B ≤ a.block ∧ a.block < w.heap.size := by
  rcases h with ⟨h, _⟩ | ⟨g, C, hA, hB, hb, hc⟩
  · rw [h] at ha; cases ha
  · rw [hA] at ha; cases ha; exact ⟨hB, hb.lt⟩
theorem RowR.form (h : RowR w B A T n len f) {a : Addr} (ha : A = some a) : a = ⟨a.block, 0, none⟩ := by
  rcases h with ⟨h, _⟩ | ⟨g, C, hA, hB, hb, hc⟩
  · rw [h] at ha; cases ha
  · rw [hA] at ha; cases ha; rfl
theorem RowR.keep {S : Nat → Prop} (h : RowR w B A T n len f) (hk : Keep S w w') (hS : ∀ a, A = some a → ¬ S a.block) : RowR w' B A T n len f := by
  rcases h with h | ⟨g, C, hA, hB, hb, hc⟩
  · exact .inl h
  · exact .inr ⟨g, C, hA, hB, hk.blk hb (hS _ hA), hc⟩
theorem RowR.below (h : RowR w B A T n len f) (hb : Below w.heap.size w w') : RowR w' B A T n len f := by
  rcases h with h | ⟨g, C, hA, hB, hbk, hc⟩
  · exact .inl h
  · exact .inr ⟨g, C, hA, hB, (hb.block g hbk.lt).trans hbk, hc⟩
theorem RowR.ne {B' n' len' : Nat} {A' : Option Addr} {T' : TypeId} {f2 : Nat → Nat → Value} (h : RowR w B A T n len f) (h' : RowR w B' A' T' n' len' f2) (hT : T ≠ T') {a a' : Addr} (ha : A = some a) (ha' : A' = some a') : a.block ≠ a'.block := by
  rcases h with ⟨h, _⟩ | ⟨g, C, hA, hB, hb, hc⟩
  · rw [h] at ha; cases ha
  rcases h' with ⟨h', _⟩ | ⟨g', C', hA', hB', hb', hc'⟩
  · rw [h'] at ha'; cases ha'
  rw [hA] at ha; rw [hA'] at ha'
  cases ha; cases ha'
  intro e
  have e' : g = g' := e
  subst e'
  unfold Blk at hb hb'
  rw [hb] at hb'
  simp only [Option.some.injEq, Obj.cells.injEq] at hb'
  exact hT hb'.2.1
theorem RowR.cell (h : RowR w B A T n len f) {k i : Nat} (hk : k < len) (hi : i < n) : ∃ g, A = some ⟨g, 0, none⟩ ∧ g < w.heap.size ∧ B ≤ g ∧ w.cell? ⟨g, k * n + i, none⟩ = some (f k i) ∧ w.frozen? ⟨g, k * n + i, none⟩ = false := by
  rcases h with ⟨_, h⟩ | ⟨g, C, hA, hB, hb, hc⟩
  · omega
  · exact ⟨g, hA, hb.lt, hB, by rw [hb.cell]; exact hc k i hk hi, hb.frozen _⟩
theorem RowR.set (h : RowR w B A T n len f) {g k i : Nat} (hA : A = some ⟨g, 0, none⟩) (hk : k < len) (hi : i < n) (u : Value) :
    RowR (w.setCell ⟨g, k * n + i, none⟩ u) B A T n len (fun k' i' => if k' = k ∧ i' = i then u else f k' i') := by
  rcases h with ⟨h, _⟩ | ⟨g', C, hA', hB, hb, hc⟩
  · rw [h] at hA; cases hA
  · rw [hA] at hA'
    cases hA'
    refine .inr ⟨g, _, hA, hB, hb.set_ _ _, fun k' i' hk' hi' => ?_⟩
    have hs : k * n + i < C.size := by
      rcases Nat.lt_or_ge (k * n + i) C.size with h | h
      · exact h
      · have := hc k i hk hi; rw [Array.getElem?_eq_none h] at this; cases this
    rw [Array.getElem?_setIfInBounds]
    by_cases e : k' = k ∧ i' = i
    · obtain ⟨rfl, rfl⟩ := e
      simp [hs]
    · show _ = some (if k' = k ∧ i' = i then u else f k' i')
      rw [if_neg e, if_neg ?_]
      · exact hc k' i' hk' hi'
      · intro e2
        apply e
        have h1 : (k * n + i) / n = k := by rw [Nat.mul_comm, Nat.mul_add_div (by omega), Nat.div_eq_of_lt hi, Nat.add_zero]
        have h2 : (k' * n + i') / n = k' := by rw [Nat.mul_comm, Nat.mul_add_div (by omega), Nat.div_eq_of_lt hi', Nat.add_zero]
        have h3 : k' = k := by rw [← h1, ← h2, e2]
        subst h3
        exact ⟨rfl, by omega⟩
end
def cpuF (x : CpuM) : Nat → Value
  | 0 => .bool x.up | 1 => .int .i64 x.cur | 2 => .int .i64 x.ran | 3 => .int .i64 x.busy | _ => .int .i64 x.idle
def taskF (x : TaskM) : Nat → Value
  | 0 => .int .i64 x.st | 1 => .int .i64 x.gr | 2 => .int .i64 x.cpu | 3 => .int .i64 x.nice | 4 => .int .i64 x.mask | 5 => .int .i64 x.v | 6 => .int .i64 x.sum | 7 => .int .i64 x.used | _ => .int .i64 x.load
def shelfF (x : ShelfM) : Nat → Value
  | 0 => .int .i64 x.floor | 1 => .bool x.on | 2 => .int .i64 x.v | 3 => .int .i64 x.w | _ => .int .i64 x.sum
def groupF (x : GroupM) (h : GH) : Nat → Value
  | 0 => .bool x.used | 1 => .int .i64 x.parent | 2 => .string x.name | 3 => .int .i64 x.weight | 4 => .int .i64 x.cpus | 5 => .int .i64 x.period | 6 => .int .i64 x.next | 7 => .int .i64 x.sum
  | 8 => .int .i64 x.band.quota | 9 => .int .i64 x.band.pool | 10 => .int .i64 x.band.spent | 11 => .slice h.la x.band.locals.length h.lc | 12 => .slice h.da x.band.dry.length h.dc | _ => .slice h.sa x.shelves.length h.sc
abbrev CpuR (w : World) (B : Nat) (A : Option Addr) (L : List CpuM) : Prop := RowR w B A 49 5 L.length fun k => cpuF (L.getD k cpu0)
abbrev TaskR (w : World) (B : Nat) (A : Option Addr) (L : List TaskM) : Prop := RowR w B A 62 9 L.length fun k => taskF (L.getD k task0)
abbrev ShelfR (w : World) (B : Nat) (A : Option Addr) (L : List ShelfM) : Prop := RowR w B A 59 5 L.length fun k => shelfF (L.getD k shelf0)
abbrev IntR (w : World) (B : Nat) (A : Option Addr) (L : List Int) : Prop := RowR w B A 3 1 L.length fun k _ => .int .i64 (L.getD k 0)
abbrev BoolR (w : World) (B : Nat) (A : Option Addr) (L : List Bool) : Prop := RowR w B A 4 1 L.length fun k _ => .bool (L.getD k false)
abbrev GroupR (w : World) (B : Nat) (A : Option Addr) (H : Nat → GH) (L : List GroupM) : Prop := RowR w B A 56 14 L.length fun k => groupF (L.getD k group0) (H k)
def Sep (f : Nat → Option Addr) (n : Nat) : Prop := ∀ j k a, j < n → k < n → j ≠ k → f j = some a → f k ≠ some a
structure Own (w : World) (B : Nat) (ca ta ga : Option Addr) (gh : Nat → GH) (M : WorldM) : Prop where
  cpu : CpuR w B ca M.cpus
  task : TaskR w B ta M.tasks
  grps : GroupR w B ga gh M.groups
  loc : ∀ k, k < M.groups.length → IntR w B (gh k).la (grp M k).band.locals
  dry : ∀ k, k < M.groups.length → BoolR w B (gh k).da (grp M k).band.dry
  she : ∀ k, k < M.groups.length → ShelfR w B (gh k).sa (grp M k).shelves
  sepL : Sep (fun k => (gh k).la) M.groups.length
  sepD : Sep (fun k => (gh k).da) M.groups.length
  sepS : Sep (fun k => (gh k).sa) M.groups.length
def Has (ca ta ga : Option Addr) (gh : Nat → GH) (n g : Nat) : Prop :=
  ca = some ⟨g, 0, none⟩ ∨ ta = some ⟨g, 0, none⟩ ∨ ga = some ⟨g, 0, none⟩ ∨ ∃ k, k < n ∧ ((gh k).la = some ⟨g, 0, none⟩ ∨ (gh k).da = some ⟨g, 0, none⟩ ∨ (gh k).sa = some ⟨g, 0, none⟩)
theorem CpuS.own {w : World} {B : Nat} {A : Option Addr} {L : List CpuM} (h : CpuR w B A L) : CpuS w A L := ⟨fun k hk => by
  obtain ⟨g, rfl, hg, _, h0, _⟩ := h.cell hk (i := 0) (by omega)
  obtain ⟨_, e, _, _, h1, _⟩ := h.cell hk (i := 1) (by omega); cases e
  obtain ⟨_, e, _, _, h2, _⟩ := h.cell hk (i := 2) (by omega); cases e
  obtain ⟨_, e, _, _, h3, _⟩ := h.cell hk (i := 3) (by omega); cases e
  obtain ⟨_, e, _, _, h4, _⟩ := h.cell hk (i := 4) (by omega); cases e
  rw [show L.getD k cpu0 = L[k] by simp [hk]] at h0 h1 h2 h3 h4
  exact ⟨g, 0, rfl, hg, by rw [Nat.zero_add]; exact h0, by rw [Nat.zero_add]; exact h1, by rw [Nat.zero_add]; exact h2, by rw [Nat.zero_add]; exact h3, by rw [Nat.zero_add]; exact h4⟩⟩
theorem TaskS.own {w : World} {B : Nat} {A : Option Addr} {L : List TaskM} (h : TaskR w B A L) : TaskS w A L := ⟨fun k hk => by
  obtain ⟨g, rfl, hg, _, h0, _⟩ := h.cell hk (i := 0) (by omega)
  have c : ∀ i, i < 9 → w.cell? ⟨g, k * 9 + i, none⟩ = some (taskF L[k] i) := fun i hi => by
    obtain ⟨_, e, _, _, h1, _⟩ := h.cell hk (i := i) hi; cases e
    rw [show L.getD k task0 = L[k] by simp [hk]] at h1
    exact h1
  exact ⟨g, 0, rfl, hg, by rw [Nat.zero_add]; exact c 0 (by omega), by rw [Nat.zero_add]; exact c 1 (by omega), by rw [Nat.zero_add]; exact c 2 (by omega), by rw [Nat.zero_add]; exact c 3 (by omega), by rw [Nat.zero_add]; exact c 4 (by omega), by rw [Nat.zero_add]; exact c 5 (by omega), by rw [Nat.zero_add]; exact c 6 (by omega), by rw [Nat.zero_add]; exact c 7 (by omega), by rw [Nat.zero_add]; exact c 8 (by omega)⟩⟩
theorem ShelfS.own {w : World} {B : Nat} {A : Option Addr} {L : List ShelfM} (h : ShelfR w B A L) : ShelfS w A L := ⟨fun k hk => by
  obtain ⟨g, rfl, hg, _, h0, _⟩ := h.cell hk (i := 0) (by omega)
  have c : ∀ i, i < 5 → w.cell? ⟨g, k * 5 + i, none⟩ = some (shelfF L[k] i) := fun i hi => by
    obtain ⟨_, e, _, _, h1, _⟩ := h.cell hk (i := i) hi; cases e
    rw [show L.getD k shelf0 = L[k] by simp [hk]] at h1
    exact h1
  exact ⟨g, 0, rfl, hg, by rw [Nat.zero_add]; exact c 0 (by omega), by rw [Nat.zero_add]; exact c 1 (by omega), by rw [Nat.zero_add]; exact c 2 (by omega), by rw [Nat.zero_add]; exact c 3 (by omega), by rw [Nat.zero_add]; exact c 4 (by omega)⟩⟩
theorem IntS.own_ {w : World} {B : Nat} {A : Option Addr} {L : List Int} (h : IntR w B A L) : IntS w A L := ⟨fun k hk => by
  obtain ⟨g, rfl, hg, _, h0, _⟩ := h.cell hk (i := 0) (by omega)
  rw [show L.getD k 0 = L[k] by simp [hk]] at h0
  exact ⟨g, 0, rfl, hg, by rw [Nat.zero_add]; rw [Nat.mul_one, Nat.add_zero] at h0; exact h0⟩⟩
theorem BoolS.own {w : World} {B : Nat} {A : Option Addr} {L : List Bool} (h : BoolR w B A L) : BoolS w A L := ⟨fun k hk => by
  obtain ⟨g, rfl, hg, _, h0, _⟩ := h.cell hk (i := 0) (by omega)
  rw [show L.getD k false = L[k] by simp [hk]] at h0
  exact ⟨g, 0, rfl, hg, by rw [Nat.zero_add]; rw [Nat.mul_one, Nat.add_zero] at h0; exact h0⟩⟩
section
variable {w w' : World} {B : Nat} {ca ta ga : Option Addr} {gh : Nat → GH} {M : WorldM}
theorem Own.wa (h : Own w B ca ta ga gh M) : WA w ca ta ga gh M :=
  ⟨CpuS.own h.cpu, TaskS.own h.task, ⟨fun k hk => by
    obtain ⟨g, rfl, hg, _, h0, _⟩ := h.grps.cell hk (i := 0) (by omega)
    have c : ∀ i, i < 14 → w.cell? ⟨g, k * 14 + i, none⟩ = some (groupF M.groups[k] (gh k) i) := fun i hi => by
      obtain ⟨_, e, _, _, h1, _⟩ := h.grps.cell hk (i := i) hi; cases e
      rw [show M.groups.getD k group0 = M.groups[k] by simp [hk]] at h1
      exact h1
    exact ⟨g, 0, rfl, hg, by rw [Nat.zero_add]; exact c 0 (by omega), by rw [Nat.zero_add]; exact c 1 (by omega), by rw [Nat.zero_add]; exact c 2 (by omega), by rw [Nat.zero_add]; exact c 3 (by omega), by rw [Nat.zero_add]; exact c 4 (by omega), by rw [Nat.zero_add]; exact c 5 (by omega), by rw [Nat.zero_add]; exact c 6 (by omega), by rw [Nat.zero_add]; exact c 7 (by omega), by rw [Nat.zero_add]; exact c 8 (by omega), by rw [Nat.zero_add]; exact c 9 (by omega), by rw [Nat.zero_add]; exact c 10 (by omega), by rw [Nat.zero_add]; exact c 11 (by omega), by rw [Nat.zero_add]; exact c 12 (by omega), by rw [Nat.zero_add]; exact c 13 (by omega)⟩,
    fun k hk => by rw [grp_eq hk]; exact IntS.own_ (h.loc k hk), fun k hk => by rw [grp_eq hk]; exact BoolS.own (h.dry k hk), fun k hk => by rw [grp_eq hk]; exact ShelfS.own (h.she k hk)⟩⟩
theorem Own.keep {S : Nat → Prop} (h : Own w B ca ta ga gh M) (hk : Keep S w w') (hS : ∀ g, Has ca ta ga gh M.groups.length g → ¬ S g) : Own w' B ca ta ga gh M :=
  have go : ∀ {T n len f} {A : Option Addr}, RowR w B A T n len f → (∀ g, A = some ⟨g, 0, none⟩ → Has ca ta ga gh M.groups.length g) → RowR w' B A T n len f := fun hr hh => hr.keep hk fun a ha => by
    have := hr.form ha
    exact hS _ (hh _ (by rw [ha, ← this]))
  ⟨go h.cpu fun g e => .inl e, go h.task fun g e => .inr (.inl e), go h.grps fun g e => .inr (.inr (.inl e)),
   fun k hk' => go (h.loc k hk') fun g e => .inr (.inr (.inr ⟨k, hk', .inl e⟩)), fun k hk' => go (h.dry k hk') fun g e => .inr (.inr (.inr ⟨k, hk', .inr (.inl e)⟩)), fun k hk' => go (h.she k hk') fun g e => .inr (.inr (.inr ⟨k, hk', .inr (.inr e)⟩)), h.sepL, h.sepD, h.sepS⟩
theorem Own.below (h : Own w B ca ta ga gh M) (hb : Below w.heap.size w w') : Own w' B ca ta ga gh M :=
  ⟨h.cpu.below hb, h.task.below hb, h.grps.below hb, fun k hk => (h.loc k hk).below hb, fun k hk => (h.dry k hk).below hb, fun k hk => (h.she k hk).below hb, h.sepL, h.sepD, h.sepS⟩
theorem Own.mono {B' : Nat} (h : Own w B ca ta ga gh M) (hB : B' ≤ B) : Own w B' ca ta ga gh M :=
  ⟨h.cpu.mono hB, h.task.mono hB, h.grps.mono hB, fun k hk => (h.loc k hk).mono hB, fun k hk => (h.dry k hk).mono hB, fun k hk => (h.she k hk).mono hB, h.sepL, h.sepD, h.sepS⟩
theorem Own.has (h : Own w B ca ta ga gh M) {g : Nat} (hg : Has ca ta ga gh M.groups.length g) : B ≤ g ∧ g < w.heap.size := by
  rcases hg with hg | hg | hg | ⟨k, hk, hg | hg | hg⟩
  · exact h.cpu.lt hg
  · exact h.task.lt hg
  · exact h.grps.lt hg
  · exact (h.loc k hk).lt hg
  · exact (h.dry k hk).lt hg
  · exact (h.she k hk).lt hg
end
end
end Go.Proofs.YtomllcclallcdaaGreatDoor
namespace Go.Proofs.YtomllcclallcdaaGreatDoor
section
open Go.RowKit
def m3 (k : Int) : Bool := k % 3 == 0
def markCpu (k : Int) : CpuM := ⟨m3 k, k + 1, k + 2, k + 3, k + 4⟩
def markCpuL (n : Nat) (k : Int) : List CpuM := (List.range n).map fun j => markCpu (k + ((5 * j : Nat) : Int))
@[simp] theorem markCpuL_length (n : Nat) (k : Int) : (markCpuL n k).length = n := by simp [markCpuL]
theorem markCpuL_get {n : Nat} {k : Int} {j : Nat} (h : j < (markCpuL n k).length) : (markCpuL n k)[j] = markCpu (k + ((5 * j : Nat) : Int)) := by simp [markCpuL]
theorem markCpuL_getD {n : Nat} {k : Int} {j : Nat} (h : j < n) : (markCpuL n k).getD j cpu0 = markCpu (k + ((5 * j : Nat) : Int)) := by
  rw [List.getD_eq_getElem?_getD, List.getElem?_eq_getElem (by simpa using h)]; exact markCpuL_get _
set_option maxRecDepth 100000 in
set_option maxHeartbeats 1000000 in
theorem markCpuS_any (A : Option Addr) (cap B : Nat) (L : List CpuM) (K : Int) (w : World) (hK : 0 ≤ K ∧ K ≤ 17592186044416) (hl : L.length ≤ 1048576) (hs : CpuR w B A L) :
    Calls Tryz.prog 19 #[.slice A L.length cap, .int .i64 K] w fun e w' => e = .returned (.int .i64 (K + ((5 * L.length : Nat) : Int))) ∧ Keep (fun g => A = some ⟨g, 0, none⟩) w w' ∧ CpuR w' B A (markCpuL L.length K) := by
  obtain ⟨hK0, hK1⟩ := hK
  go_enter Tryz.func19, Tryz.ntmps19
  go_wp2
  go_loopw [1, 5] (fun c i wr => ∃ k : Nat, k ≤ L.length ∧ i = .int .i64 k ∧ c = .int .i64 (K + ((5 * k : Nat) : Int)) ∧ Keep (fun g => A = some ⟨g, 0, none⟩) w wr ∧ RowR wr B A 49 5 L.length fun j => cpuF (if j < k then markCpu (K + ((5 * j : Nat) : Int)) else L.getD j cpu0)) (fun _ i _ => L.length - (intOf i).toNat)
  case atStart => exact ⟨0, Nat.zero_le _, rfl, by simp, Keep.refl _ _, hs.congr fun j i _ _ => by simp⟩
  case round =>
    obtain ⟨k, hk, rfl, rfl, hkeep, hrow⟩ := hrel
    by_cases hlt : k < L.length
    · have HK := Lib.hid hkeep
      have HR := Lib.hid hrow
      obtain ⟨g, hA, hg, hB, v0, f0⟩ := hrow.cell hlt (i := 0) (by omega)
      obtain ⟨_, e, _, _, v1, f1⟩ := hrow.cell hlt (i := 1) (by omega); cases hA.symm.trans e
      obtain ⟨_, e, _, _, v2, f2⟩ := hrow.cell hlt (i := 2) (by omega); cases hA.symm.trans e
      obtain ⟨_, e, _, _, v3, f3⟩ := hrow.cell hlt (i := 3) (by omega); cases hA.symm.trans e
      obtain ⟨_, e, _, _, v4, f4⟩ := hrow.cell hlt (i := 4) (by omega); cases hA.symm.trans e
      have HA := Lib.hid hA
      clear hkeep hrow hs
      subst hA
      have b0 : (0 : Int) ≤ K + ((5 * k : Nat) : Int) := by omega
      have b1 : K + ((5 * k : Nat) : Int) ≤ 17592186044416 + 9437184 := by omega
      generalize hq : K + ((5 * k : Nat) : Int) = q at *
      have HQ := Lib.hid hq
      clear hq
      simp only [Nat.add_zero] at v0 f0
      go_wp2
      go_roundw
      case rel => exact ⟨k + 1, by omega, by go_num, by rw [← HQ.out]; go_num, (((((HK.out.trans (Keep.set _ _ _ HA.out)).trans (Keep.set _ _ _ HA.out)).trans (Keep.set _ _ _ HA.out)).trans (Keep.set _ _ _ HA.out)).trans (Keep.set _ _ _ HA.out)), ((((((HR.out.set HA.out hlt (i := 0) (by omega) _).set HA.out hlt (i := 1) (by omega) _).set HA.out hlt (i := 2) (by omega) _).set HA.out hlt (i := 3) (by omega) _).set HA.out hlt (i := 4) (by omega) _).congr fun j i hj hi => by
        have := HQ.out
        by_cases e : j = k
        · subst e
          subst this
          rcases i with _ | _ | _ | _ | _ | i
          all_goals first | (exfalso; omega) | (simp [cpuF, markCpu, m3]; done) | (simp [cpuF, markCpu, m3]; omega)
        · have : (j < k + 1) ↔ (j < k) := by omega
          simp [e, this])⟩
      case measure => simp [intOf]; omega
    · go_wp2
      go_ret
      obtain rfl : k = L.length := by omega
      exact ⟨rfl, hkeep, by
        show RowR _ _ _ _ 5 (markCpuL L.length K).length _
        rw [markCpuL_length]
        exact hrow.congr fun j i hj hi => by rw [if_pos hj, markCpuL_getD hj]⟩
set_option maxRecDepth 100000 in
set_option maxHeartbeats 1000000 in
theorem heldCpuS_any (A : Option Addr) (cap n : Nat) (K : Int) (w : World) (hK : 0 ≤ K ∧ K ≤ 17592186044416) (hl : n ≤ 1048576) (hs : CpuS w A (markCpuL n K)) :
    Calls Tryz.prog 22 #[.slice A n cap, .int .i64 K] w fun e w' => e = .returned (.int .i64 (K + ((5 * n : Nat) : Int))) ∧ w = w' := by
  obtain ⟨hK0, hK1⟩ := hK
  go_enter Tryz.func22, Tryz.ntmps22
  go_wp2
  go_loopw [1, 5] (fun c i wr => ∃ k : Nat, k ≤ n ∧ i = .int .i64 k ∧ c = .int .i64 (K + ((5 * k : Nat) : Int)) ∧ w = wr) (fun _ i _ => n - (intOf i).toNat)
  case atStart => exact ⟨0, Nat.zero_le _, rfl, by simp, rfl⟩
  case round =>
    obtain ⟨k, hk, rfl, rfl, rfl⟩ := hrel
    by_cases hlt : k < n
    · obtain ⟨b, o, rfl, hB, v0, v1, v2, v3, v4⟩ := hs.at_ k (by simpa using hlt)
      rw [markCpuL_get] at v0 v1 v2 v3 v4
      have b0 : (0 : Int) ≤ K + ((5 * k : Nat) : Int) := by omega
      have b1 : K + ((5 * k : Nat) : Int) ≤ 17592186044416 + 9437184 := by omega
      generalize hq : K + ((5 * k : Nat) : Int) = q at *
      have HQ := Lib.hid hq
      clear hq
      simp only [markCpu, m3] at v0 v1 v2 v3 v4
      go_wp2
      go_roundw
      case rel => exact ⟨k + 1, by omega, by go_num, by rw [← HQ.out]; go_num, by first | rfl | trivial⟩
      case measure => simp [intOf]; omega
    · go_wp2
      go_ret
      obtain rfl : k = n := by omega
      first | exact ⟨rfl, rfl⟩ | exact ⟨rfl, trivial⟩
def markTask (k : Int) : TaskM := ⟨k, k + 1, k + 2, k + 3, k + 4, k + 5, k + 6, k + 7, k + 8⟩
def markTaskL (n : Nat) (k : Int) : List TaskM := (List.range n).map fun j => markTask (k + ((9 * j : Nat) : Int))
@[simp] theorem markTaskL_length (n : Nat) (k : Int) : (markTaskL n k).length = n := by simp [markTaskL]
theorem markTaskL_get {n : Nat} {k : Int} {j : Nat} (h : j < (markTaskL n k).length) : (markTaskL n k)[j] = markTask (k + ((9 * j : Nat) : Int)) := by simp [markTaskL]
theorem markTaskL_getD {n : Nat} {k : Int} {j : Nat} (h : j < n) : (markTaskL n k).getD j task0 = markTask (k + ((9 * j : Nat) : Int)) := by
  rw [List.getD_eq_getElem?_getD, List.getElem?_eq_getElem (by simpa using h)]; exact markTaskL_get _
set_option maxRecDepth 100000 in
set_option maxHeartbeats 1000000 in
theorem markTaskS_any (A : Option Addr) (cap B : Nat) (L : List TaskM) (K : Int) (w : World) (hK : 0 ≤ K ∧ K ≤ 17592186044416) (hl : L.length ≤ 1048576) (hs : TaskR w B A L) :
    Calls Tryz.prog 20 #[.slice A L.length cap, .int .i64 K] w fun e w' => e = .returned (.int .i64 (K + ((9 * L.length : Nat) : Int))) ∧ Keep (fun g => A = some ⟨g, 0, none⟩) w w' ∧ TaskR w' B A (markTaskL L.length K) := by
  obtain ⟨hK0, hK1⟩ := hK
  go_enter Tryz.func20, Tryz.ntmps20
  go_wp2
  go_loopw [1, 5] (fun c i wr => ∃ k : Nat, k ≤ L.length ∧ i = .int .i64 k ∧ c = .int .i64 (K + ((9 * k : Nat) : Int)) ∧ Keep (fun g => A = some ⟨g, 0, none⟩) w wr ∧ RowR wr B A 62 9 L.length fun j => taskF (if j < k then markTask (K + ((9 * j : Nat) : Int)) else L.getD j task0)) (fun _ i _ => L.length - (intOf i).toNat)
  case atStart => exact ⟨0, Nat.zero_le _, rfl, by simp, Keep.refl _ _, hs.congr fun j i _ _ => by simp⟩
  case round =>
    obtain ⟨k, hk, rfl, rfl, hkeep, hrow⟩ := hrel
    by_cases hlt : k < L.length
    · have HK := Lib.hid hkeep
      have HR := Lib.hid hrow
      obtain ⟨g, hA, hg, hB, v0, f0⟩ := hrow.cell hlt (i := 0) (by omega)
      obtain ⟨_, e, _, _, v1, f1⟩ := hrow.cell hlt (i := 1) (by omega); cases hA.symm.trans e
      obtain ⟨_, e, _, _, v2, f2⟩ := hrow.cell hlt (i := 2) (by omega); cases hA.symm.trans e
      obtain ⟨_, e, _, _, v3, f3⟩ := hrow.cell hlt (i := 3) (by omega); cases hA.symm.trans e
      obtain ⟨_, e, _, _, v4, f4⟩ := hrow.cell hlt (i := 4) (by omega); cases hA.symm.trans e
      obtain ⟨_, e, _, _, v5, f5⟩ := hrow.cell hlt (i := 5) (by omega); cases hA.symm.trans e
      obtain ⟨_, e, _, _, v6, f6⟩ := hrow.cell hlt (i := 6) (by omega); cases hA.symm.trans e
      obtain ⟨_, e, _, _, v7, f7⟩ := hrow.cell hlt (i := 7) (by omega); cases hA.symm.trans e
      obtain ⟨_, e, _, _, v8, f8⟩ := hrow.cell hlt (i := 8) (by omega); cases hA.symm.trans e
      have HA := Lib.hid hA
      clear hkeep hrow hs
      subst hA
      have b0 : (0 : Int) ≤ K + ((9 * k : Nat) : Int) := by omega
      have b1 : K + ((9 * k : Nat) : Int) ≤ 17592186044416 + 9437184 := by omega
      generalize hq : K + ((9 * k : Nat) : Int) = q at *
      have HQ := Lib.hid hq
      clear hq
      simp only [Nat.add_zero] at v0 f0
      go_wp2
      go_roundw
      case rel => exact ⟨k + 1, by omega, by go_num, by rw [← HQ.out]; go_num, (((((((((HK.out.trans (Keep.set _ _ _ HA.out)).trans (Keep.set _ _ _ HA.out)).trans (Keep.set _ _ _ HA.out)).trans (Keep.set _ _ _ HA.out)).trans (Keep.set _ _ _ HA.out)).trans (Keep.set _ _ _ HA.out)).trans (Keep.set _ _ _ HA.out)).trans (Keep.set _ _ _ HA.out)).trans (Keep.set _ _ _ HA.out)), ((((((((((HR.out.set HA.out hlt (i := 0) (by omega) _).set HA.out hlt (i := 1) (by omega) _).set HA.out hlt (i := 2) (by omega) _).set HA.out hlt (i := 3) (by omega) _).set HA.out hlt (i := 4) (by omega) _).set HA.out hlt (i := 5) (by omega) _).set HA.out hlt (i := 6) (by omega) _).set HA.out hlt (i := 7) (by omega) _).set HA.out hlt (i := 8) (by omega) _).congr fun j i hj hi => by
        have := HQ.out
        by_cases e : j = k
        · subst e
          subst this
          rcases i with _ | _ | _ | _ | _ | _ | _ | _ | _ | i
          all_goals first | (exfalso; omega) | (simp [taskF, markTask]; done) | (simp [taskF, markTask]; omega)
        · have : (j < k + 1) ↔ (j < k) := by omega
          simp [e, this])⟩
      case measure => simp [intOf]; omega
    · go_wp2
      go_ret
      obtain rfl : k = L.length := by omega
      exact ⟨rfl, hkeep, by
        show RowR _ _ _ _ 9 (markTaskL L.length K).length _
        rw [markTaskL_length]
        exact hrow.congr fun j i hj hi => by rw [if_pos hj, markTaskL_getD hj]⟩
set_option maxRecDepth 100000 in
set_option maxHeartbeats 1000000 in
theorem heldTaskS_any (A : Option Addr) (cap n : Nat) (K : Int) (w : World) (hK : 0 ≤ K ∧ K ≤ 17592186044416) (hl : n ≤ 1048576) (hs : TaskS w A (markTaskL n K)) :
    Calls Tryz.prog 23 #[.slice A n cap, .int .i64 K] w fun e w' => e = .returned (.int .i64 (K + ((9 * n : Nat) : Int))) ∧ w = w' := by
  obtain ⟨hK0, hK1⟩ := hK
  go_enter Tryz.func23, Tryz.ntmps23
  go_wp2
  go_loopw [1, 5] (fun c i wr => ∃ k : Nat, k ≤ n ∧ i = .int .i64 k ∧ c = .int .i64 (K + ((9 * k : Nat) : Int)) ∧ w = wr) (fun _ i _ => n - (intOf i).toNat)
  case atStart => exact ⟨0, Nat.zero_le _, rfl, by simp, rfl⟩
  case round =>
    obtain ⟨k, hk, rfl, rfl, rfl⟩ := hrel
    by_cases hlt : k < n
    · obtain ⟨b, o, rfl, hB, v0, v1, v2, v3, v4, v5, v6, v7, v8⟩ := hs.at_ k (by simpa using hlt)
      rw [markTaskL_get] at v0 v1 v2 v3 v4 v5 v6 v7 v8
      have b0 : (0 : Int) ≤ K + ((9 * k : Nat) : Int) := by omega
      have b1 : K + ((9 * k : Nat) : Int) ≤ 17592186044416 + 9437184 := by omega
      generalize hq : K + ((9 * k : Nat) : Int) = q at *
      have HQ := Lib.hid hq
      clear hq
      simp only [markTask] at v0 v1 v2 v3 v4 v5 v6 v7 v8
      go_wp2
      go_roundw
      case rel => exact ⟨k + 1, by omega, by go_num, by rw [← HQ.out]; go_num, by first | rfl | trivial⟩
      case measure => simp [intOf]; omega
    · go_wp2
      go_ret
      obtain rfl : k = n := by omega
      first | exact ⟨rfl, rfl⟩ | exact ⟨rfl, trivial⟩
def markShelf (k : Int) : ShelfM := ⟨k, m3 (k + 1), k + 2, k + 3, k + 4⟩
def markShelfL (n : Nat) (k : Int) : List ShelfM := (List.range n).map fun j => markShelf (k + ((5 * j : Nat) : Int))
@[simp] theorem markShelfL_length (n : Nat) (k : Int) : (markShelfL n k).length = n := by simp [markShelfL]
theorem markShelfL_get {n : Nat} {k : Int} {j : Nat} (h : j < (markShelfL n k).length) : (markShelfL n k)[j] = markShelf (k + ((5 * j : Nat) : Int)) := by simp [markShelfL]
theorem markShelfL_getD {n : Nat} {k : Int} {j : Nat} (h : j < n) : (markShelfL n k).getD j shelf0 = markShelf (k + ((5 * j : Nat) : Int)) := by
  rw [List.getD_eq_getElem?_getD, List.getElem?_eq_getElem (by simpa using h)]; exact markShelfL_get _
set_option maxRecDepth 100000 in
set_option maxHeartbeats 1000000 in
theorem markShelfS_any (A : Option Addr) (cap B : Nat) (L : List ShelfM) (K : Int) (w : World) (hK : 0 ≤ K ∧ K ≤ 17592186044416) (hl : L.length ≤ 1048576) (hs : ShelfR w B A L) :
    Calls Tryz.prog 50 #[.slice A L.length cap, .int .i64 K] w fun e w' => e = .returned (.int .i64 (K + ((5 * L.length : Nat) : Int))) ∧ Keep (fun g => A = some ⟨g, 0, none⟩) w w' ∧ ShelfR w' B A (markShelfL L.length K) := by
  obtain ⟨hK0, hK1⟩ := hK
  go_enter Tryz.func50, Tryz.ntmps50
  go_wp2
  go_loopw [1, 5] (fun c i wr => ∃ k : Nat, k ≤ L.length ∧ i = .int .i64 k ∧ c = .int .i64 (K + ((5 * k : Nat) : Int)) ∧ Keep (fun g => A = some ⟨g, 0, none⟩) w wr ∧ RowR wr B A 59 5 L.length fun j => shelfF (if j < k then markShelf (K + ((5 * j : Nat) : Int)) else L.getD j shelf0)) (fun _ i _ => L.length - (intOf i).toNat)
  case atStart => exact ⟨0, Nat.zero_le _, rfl, by simp, Keep.refl _ _, hs.congr fun j i _ _ => by simp⟩
  case round =>
    obtain ⟨k, hk, rfl, rfl, hkeep, hrow⟩ := hrel
    by_cases hlt : k < L.length
    · have HK := Lib.hid hkeep
      have HR := Lib.hid hrow
      obtain ⟨g, hA, hg, hB, v0, f0⟩ := hrow.cell hlt (i := 0) (by omega)
      obtain ⟨_, e, _, _, v1, f1⟩ := hrow.cell hlt (i := 1) (by omega); cases hA.symm.trans e
      obtain ⟨_, e, _, _, v2, f2⟩ := hrow.cell hlt (i := 2) (by omega); cases hA.symm.trans e
      obtain ⟨_, e, _, _, v3, f3⟩ := hrow.cell hlt (i := 3) (by omega); cases hA.symm.trans e
      obtain ⟨_, e, _, _, v4, f4⟩ := hrow.cell hlt (i := 4) (by omega); cases hA.symm.trans e
      have HA := Lib.hid hA
      clear hkeep hrow hs
      subst hA
      have b0 : (0 : Int) ≤ K + ((5 * k : Nat) : Int) := by omega
      have b1 : K + ((5 * k : Nat) : Int) ≤ 17592186044416 + 9437184 := by omega
      generalize hq : K + ((5 * k : Nat) : Int) = q at *
      have HQ := Lib.hid hq
      clear hq
      simp only [Nat.add_zero] at v0 f0
      go_wp2
      go_roundw
      case rel => exact ⟨k + 1, by omega, by go_num, by rw [← HQ.out]; go_num, (((((HK.out.trans (Keep.set _ _ _ HA.out)).trans (Keep.set _ _ _ HA.out)).trans (Keep.set _ _ _ HA.out)).trans (Keep.set _ _ _ HA.out)).trans (Keep.set _ _ _ HA.out)), ((((((HR.out.set HA.out hlt (i := 0) (by omega) _).set HA.out hlt (i := 1) (by omega) _).set HA.out hlt (i := 2) (by omega) _).set HA.out hlt (i := 3) (by omega) _).set HA.out hlt (i := 4) (by omega) _).congr fun j i hj hi => by
        have := HQ.out
        by_cases e : j = k
        · subst e
          subst this
          rcases i with _ | _ | _ | _ | _ | i
          all_goals first | (exfalso; omega) | (simp [shelfF, markShelf, m3]; done) | (simp [shelfF, markShelf, m3]; omega)
        · have : (j < k + 1) ↔ (j < k) := by omega
          simp [e, this])⟩
      case measure => simp [intOf]; omega
    · go_wp2
      go_ret
      obtain rfl : k = L.length := by omega
      exact ⟨rfl, hkeep, by
        show RowR _ _ _ _ 5 (markShelfL L.length K).length _
        rw [markShelfL_length]
        exact hrow.congr fun j i hj hi => by rw [if_pos hj, markShelfL_getD hj]⟩
set_option maxRecDepth 100000 in
set_option maxHeartbeats 1000000 in
theorem heldShelfS_any (A : Option Addr) (cap n : Nat) (K : Int) (w : World) (hK : 0 ≤ K ∧ K ≤ 17592186044416) (hl : n ≤ 1048576) (hs : ShelfS w A (markShelfL n K)) :
    Calls Tryz.prog 53 #[.slice A n cap, .int .i64 K] w fun e w' => e = .returned (.int .i64 (K + ((5 * n : Nat) : Int))) ∧ w = w' := by
  obtain ⟨hK0, hK1⟩ := hK
  go_enter Tryz.func53, Tryz.ntmps53
  go_wp2
  go_loopw [1, 5] (fun c i wr => ∃ k : Nat, k ≤ n ∧ i = .int .i64 k ∧ c = .int .i64 (K + ((5 * k : Nat) : Int)) ∧ w = wr) (fun _ i _ => n - (intOf i).toNat)
  case atStart => exact ⟨0, Nat.zero_le _, rfl, by simp, rfl⟩
  case round =>
    obtain ⟨k, hk, rfl, rfl, rfl⟩ := hrel
    by_cases hlt : k < n
    · obtain ⟨b, o, rfl, hB, v0, v1, v2, v3, v4⟩ := hs.at_ k (by simpa using hlt)
      rw [markShelfL_get] at v0 v1 v2 v3 v4
      have b0 : (0 : Int) ≤ K + ((5 * k : Nat) : Int) := by omega
      have b1 : K + ((5 * k : Nat) : Int) ≤ 17592186044416 + 9437184 := by omega
      generalize hq : K + ((5 * k : Nat) : Int) = q at *
      have HQ := Lib.hid hq
      clear hq
      simp only [markShelf, m3] at v0 v1 v2 v3 v4
      go_wp2
      go_roundw
      case rel => exact ⟨k + 1, by omega, by go_num, by rw [← HQ.out]; go_num, by first | rfl | trivial⟩
      case measure => simp [intOf]; omega
    · go_wp2
      go_ret
      obtain rfl : k = n := by omega
      first | exact ⟨rfl, rfl⟩ | exact ⟨rfl, trivial⟩
def markIntL (n : Nat) (k : Int) : List Int := (List.range n).map fun j => k + (j : Nat)
@[simp] theorem markIntL_length (n : Nat) (k : Int) : (markIntL n k).length = n := by simp [markIntL]
theorem markIntL_get {n : Nat} {k : Int} {j : Nat} (h : j < (markIntL n k).length) : (markIntL n k)[j] = k + (j : Nat) := by simp [markIntL]
theorem markIntL_getD {n : Nat} {k : Int} {j : Nat} (h : j < n) : (markIntL n k).getD j 0 = k + (j : Nat) := by
  rw [List.getD_eq_getElem?_getD, List.getElem?_eq_getElem (by simpa using h)]; exact markIntL_get _
set_option maxRecDepth 100000 in
set_option maxHeartbeats 1000000 in
theorem markIntS_any (A : Option Addr) (cap B : Nat) (L : List Int) (K : Int) (w : World) (hK : 0 ≤ K ∧ K ≤ 17592186044416) (hl : L.length ≤ 1048576) (hs : IntR w B A L) :
    Calls Tryz.prog 48 #[.slice A L.length cap, .int .i64 K] w fun e w' => e = .returned (.int .i64 (K + (L.length : Int))) ∧ Keep (fun g => A = some ⟨g, 0, none⟩) w w' ∧ IntR w' B A (markIntL L.length K) := by
  obtain ⟨hK0, hK1⟩ := hK
  go_enter Tryz.func48, Tryz.ntmps48
  go_wp2
  go_loopw [1, 5] (fun c i wr => ∃ k : Nat, k ≤ L.length ∧ i = .int .i64 k ∧ c = .int .i64 (K + (k : Int)) ∧ Keep (fun g => A = some ⟨g, 0, none⟩) w wr ∧ RowR wr B A 3 1 L.length fun j _ => .int .i64 (if j < k then K + (j : Int) else L.getD j 0)) (fun _ i _ => L.length - (intOf i).toNat)
  case atStart => exact ⟨0, Nat.zero_le _, rfl, by simp, Keep.refl _ _, hs.congr fun j i _ _ => by simp⟩
  case round =>
    obtain ⟨k, hk, rfl, rfl, hkeep, hrow⟩ := hrel
    by_cases hlt : k < L.length
    · have HK := Lib.hid hkeep
      have HR := Lib.hid hrow
      obtain ⟨g, hA, hg, hB, v0, f0⟩ := hrow.cell hlt (i := 0) (by omega)
      have HA := Lib.hid hA
      clear hkeep hrow hs
      subst hA
      have b0 : (0 : Int) ≤ K + (k : Int) := by omega
      have b1 : K + (k : Int) ≤ 17592186044416 + 9437184 := by omega
      generalize hq : K + (k : Int) = q at *
      have HQ := Lib.hid hq
      clear hq
      simp only [Nat.add_zero, Nat.mul_one] at v0 f0
      go_wp2
      go_roundw
      case rel => exact ⟨k + 1, by omega, by go_num, by rw [← HQ.out]; go_num, HK.out.trans (Keep.set _ _ _ HA.out), by
        have := HR.out.set HA.out hlt (i := 0) (by omega) (.int .i64 (q))
        simp only [Nat.add_zero, Nat.mul_one] at this
        refine this.congr fun j i hj hi => ?_
        have hQ := HQ.out
        by_cases e : j = k
        · subst e
          subst hQ
          obtain rfl : i = 0 := by omega
          simp
        · have : (j < k + 1) ↔ (j < k) := by omega
          simp [e, this]⟩
      case measure => simp [intOf]; omega
    · go_wp2
      go_ret
      obtain rfl : k = L.length := by omega
      exact ⟨rfl, hkeep, by
        show RowR _ _ _ _ 1 (markIntL L.length K).length _
        rw [markIntL_length]
        exact hrow.congr fun j i hj hi => by rw [if_pos hj, markIntL_getD hj]⟩
set_option maxRecDepth 100000 in
set_option maxHeartbeats 1000000 in
theorem heldIntS_any (A : Option Addr) (cap n : Nat) (K : Int) (w : World) (hK : 0 ≤ K ∧ K ≤ 17592186044416) (hl : n ≤ 1048576) (hs : IntS w A (markIntL n K)) :
    Calls Tryz.prog 51 #[.slice A n cap, .int .i64 K] w fun e w' => e = .returned (.int .i64 (K + (n : Int))) ∧ w = w' := by
  obtain ⟨hK0, hK1⟩ := hK
  go_enter Tryz.func51, Tryz.ntmps51
  go_wp2
  go_loopw [1, 5] (fun c i wr => ∃ k : Nat, k ≤ n ∧ i = .int .i64 k ∧ c = .int .i64 (K + (k : Int)) ∧ w = wr) (fun _ i _ => n - (intOf i).toNat)
  case atStart => exact ⟨0, Nat.zero_le _, rfl, by simp, rfl⟩
  case round =>
    obtain ⟨k, hk, rfl, rfl, rfl⟩ := hrel
    by_cases hlt : k < n
    · obtain ⟨b, o, rfl, hB, v0⟩ := hs.at_ k (by simpa using hlt)
      rw [markIntL_get] at v0
      have b0 : (0 : Int) ≤ K + (k : Int) := by omega
      have b1 : K + (k : Int) ≤ 17592186044416 + 9437184 := by omega
      generalize hq : K + (k : Int) = q at *
      have HQ := Lib.hid hq
      clear hq
      skip
      go_wp2
      go_roundw
      case rel => exact ⟨k + 1, by omega, by go_num, by rw [← HQ.out]; go_num, by first | rfl | trivial⟩
      case measure => simp [intOf]; omega
    · go_wp2
      go_ret
      obtain rfl : k = n := by omega
      first | exact ⟨rfl, rfl⟩ | exact ⟨rfl, trivial⟩
def markBoolL (n : Nat) (k : Int) : List Bool := (List.range n).map fun j => m3 (k + (j : Nat))
@[simp] theorem markBoolL_length (n : Nat) (k : Int) : (markBoolL n k).length = n := by simp [markBoolL]
theorem markBoolL_get {n : Nat} {k : Int} {j : Nat} (h : j < (markBoolL n k).length) : (markBoolL n k)[j] = m3 (k + (j : Nat)) := by simp [markBoolL]
theorem markBoolL_getD {n : Nat} {k : Int} {j : Nat} (h : j < n) : (markBoolL n k).getD j false = m3 (k + (j : Nat)) := by
  rw [List.getD_eq_getElem?_getD, List.getElem?_eq_getElem (by simpa using h)]; exact markBoolL_get _
set_option maxRecDepth 100000 in
set_option maxHeartbeats 1000000 in
theorem markBoolS_any (A : Option Addr) (cap B : Nat) (L : List Bool) (K : Int) (w : World) (hK : 0 ≤ K ∧ K ≤ 17592186044416) (hl : L.length ≤ 1048576) (hs : BoolR w B A L) :
    Calls Tryz.prog 49 #[.slice A L.length cap, .int .i64 K] w fun e w' => e = .returned (.int .i64 (K + (L.length : Int))) ∧ Keep (fun g => A = some ⟨g, 0, none⟩) w w' ∧ BoolR w' B A (markBoolL L.length K) := by
  obtain ⟨hK0, hK1⟩ := hK
  go_enter Tryz.func49, Tryz.ntmps49
  go_wp2
  go_loopw [1, 5] (fun c i wr => ∃ k : Nat, k ≤ L.length ∧ i = .int .i64 k ∧ c = .int .i64 (K + (k : Int)) ∧ Keep (fun g => A = some ⟨g, 0, none⟩) w wr ∧ RowR wr B A 4 1 L.length fun j _ => .bool (if j < k then m3 (K + (j : Int)) else L.getD j false)) (fun _ i _ => L.length - (intOf i).toNat)
  case atStart => exact ⟨0, Nat.zero_le _, rfl, by simp, Keep.refl _ _, hs.congr fun j i _ _ => by simp⟩
  case round =>
    obtain ⟨k, hk, rfl, rfl, hkeep, hrow⟩ := hrel
    by_cases hlt : k < L.length
    · have HK := Lib.hid hkeep
      have HR := Lib.hid hrow
      obtain ⟨g, hA, hg, hB, v0, f0⟩ := hrow.cell hlt (i := 0) (by omega)
      have HA := Lib.hid hA
      clear hkeep hrow hs
      subst hA
      have b0 : (0 : Int) ≤ K + (k : Int) := by omega
      have b1 : K + (k : Int) ≤ 17592186044416 + 9437184 := by omega
      generalize hq : K + (k : Int) = q at *
      have HQ := Lib.hid hq
      clear hq
      simp only [Nat.add_zero, Nat.mul_one] at v0 f0
      go_wp2
      go_roundw
      case rel => exact ⟨k + 1, by omega, by go_num, by rw [← HQ.out]; go_num, HK.out.trans (Keep.set _ _ _ HA.out), by
        have := HR.out.set HA.out hlt (i := 0) (by omega) (.bool (m3 (q)))
        simp only [Nat.add_zero, Nat.mul_one] at this
        refine this.congr fun j i hj hi => ?_
        have hQ := HQ.out
        by_cases e : j = k
        · subst e
          subst hQ
          obtain rfl : i = 0 := by omega
          simp
        · have : (j < k + 1) ↔ (j < k) := by omega
          simp [e, this]⟩
      case measure => simp [intOf]; omega
    · go_wp2
      go_ret
      obtain rfl : k = L.length := by omega
      exact ⟨rfl, hkeep, by
        show RowR _ _ _ _ 1 (markBoolL L.length K).length _
        rw [markBoolL_length]
        exact hrow.congr fun j i hj hi => by rw [if_pos hj, markBoolL_getD hj]⟩
set_option maxRecDepth 100000 in
set_option maxHeartbeats 1000000 in
theorem heldBoolS_any (A : Option Addr) (cap n : Nat) (K : Int) (w : World) (hK : 0 ≤ K ∧ K ≤ 17592186044416) (hl : n ≤ 1048576) (hs : BoolS w A (markBoolL n K)) :
    Calls Tryz.prog 52 #[.slice A n cap, .int .i64 K] w fun e w' => e = .returned (.int .i64 (K + (n : Int))) ∧ w = w' := by
  obtain ⟨hK0, hK1⟩ := hK
  go_enter Tryz.func52, Tryz.ntmps52
  go_wp2
  go_loopw [1, 5] (fun c i wr => ∃ k : Nat, k ≤ n ∧ i = .int .i64 k ∧ c = .int .i64 (K + (k : Int)) ∧ w = wr) (fun _ i _ => n - (intOf i).toNat)
  case atStart => exact ⟨0, Nat.zero_le _, rfl, by simp, rfl⟩
  case round =>
    obtain ⟨k, hk, rfl, rfl, rfl⟩ := hrel
    by_cases hlt : k < n
    · obtain ⟨b, o, rfl, hB, v0⟩ := hs.at_ k (by simpa using hlt)
      rw [markBoolL_get] at v0
      have b0 : (0 : Int) ≤ K + (k : Int) := by omega
      have b1 : K + (k : Int) ≤ 17592186044416 + 9437184 := by omega
      generalize hq : K + (k : Int) = q at *
      have HQ := Lib.hid hq
      clear hq
      simp only [m3] at v0
      go_wp2
      go_roundw
      case rel => exact ⟨k + 1, by omega, by go_num, by rw [← HQ.out]; go_num, by first | rfl | trivial⟩
      case measure => simp [intOf]; omega
    · go_wp2
      go_ret
      obtain rfl : k = n := by omega
      first | exact ⟨rfl, rfl⟩ | exact ⟨rfl, trivial⟩
def markLoop : Nat → Nat → List UInt8 → List UInt8
  | 0, _, o => o
  | f + 1, n, o => if n = 0 then o else markLoop f (n / 10) (dgt (n % 10) :: o)
def markM (k : Int) : ByteArray := strB (109 :: markLoop 60 k.toNat [])
theorem markLoop_zero (f : Nat) (o : List UInt8) : markLoop f 0 o = o := by cases f <;> rfl
theorem markLoop_step {f n : Nat} {o : List UInt8} (h : n ≠ 0) : markLoop (f + 1) n o = markLoop f (n / 10) (dgt (n % 10) :: o) := by rw [markLoop, if_neg h]
set_option maxRecDepth 100000 in
set_option maxHeartbeats 1000000 in
theorem markText_any (k : Int) (w : World) (h0 : 1 ≤ k) (h1 : k ≤ 35184372088832) :
    Calls Tryz.prog 47 #[.int .i64 k] w fun e w' => e = .returned (.string (markM k)) ∧ Below w.heap.size w w' := by
  go_enter Tryz.func47, Tryz.ntmps47
  go_wp2
  go_loopw [0, 3] (fun n o wr => ∃ (f m : Nat) (l : List UInt8), n = .int .i64 m ∧ o = .string (strB l) ∧ m < 2 ^ f ∧ l.length + m ≤ 35184372088832 ∧ markLoop f m l = markLoop 60 k.toNat [] ∧ Below w.heap.size w wr) (fun n _ _ => (intOf n).toNat)
  case atStart => exact ⟨60, k.toNat, [], by rw [Int.toNat_of_nonneg (by omega)], rfl, by omega, by simp; omega, rfl, Below.refl _ _⟩
  case round =>
    obtain ⟨f, m, l, rfl, rfl, hm, hlen, hml, hb⟩ := hrel
    by_cases hlt : m = 0
    · subst hlt
      rw [markLoop_zero] at hml
      have HE := Lib.hid (show (⟨#[109]⟩ : ByteArray) ++ strB l = markM k by rw [hml, show (⟨#[109]⟩ : ByteArray) = strB [109] from rfl, strB_append]; rfl)
      have hsz : (strB l).size ≤ 35184372088832 := by rw [strB_size]; omega
      clear hml hlen hm h0 h1
      go_wp2
      go_ret
      exact ⟨ret_str HE.out, hb⟩
    · have hf0 : f ≠ 0 := fun e => by subst e; simp at hm; omega
      obtain ⟨f, rfl⟩ : ∃ f', f = f' + 1 := ⟨f - 1, by omega⟩
      rw [markLoop_step hlt] at hml
      have HM := Lib.hid hml
      have HL := Lib.hid hlen
      have HF := Lib.hid hm
      have hi0 : (1 : Int) ≤ (m : Int) := by omega
      have hi1 : (m : Int) ≤ 35184372088832 := by omega
      have hd : (m : Int).tdiv 10 = ((m / 10 : Nat) : Int) := by rw [Int.tdiv_eq_ediv_of_nonneg (by omega)]; simp
      have hmd : (m : Int).tmod 10 = ((m % 10 : Nat) : Int) := by rw [Int.tmod_eq_emod_of_nonneg (by omega)]; simp
      have hm1 : ((m % 10 : Nat) : Int) < 10 := by omega
      have hm0 : (0 : Int) ≤ ((m % 10 : Nat) : Int) := by omega
      have hsz : (strB l).size ≤ 35184372088832 := by rw [strB_size]; omega
      have hs1 : (strB [dgt (m % 10)]).size = 1 := by rw [strB_size]; rfl
      have hcv := conv1 (new_cell wr (.int .u8 (48 + ((m % 10 : Nat) : Int))) 5)
      rw [show ((m % 10 : Nat) : Int) = (m : Int) % 10 by simp] at hcv
      clear hml hlen hm h0 h1 hm0 hm1 hd hmd
      have HD := Lib.hid (show strB [dgt (m % 10)] ++ strB l = strB (dgt (m % 10) :: l) by rw [strB_append]; rfl)
      go_wp2
      go_roundw
      case rel => exact ⟨f, m / 10, dgt (m % 10) :: l, by first | rfl | (rw [hd]), by first | (rw [HD.out]) | (simp [HD.out]), by have := HF.out; rw [Nat.pow_succ] at this; omega, by have := HL.out; simp only [List.length_cons]; omega, HM.out, hb.alloc (by have := hb.size; omega) _⟩
      case measure => simp [intOf]; omega
end
end Go.Proofs.YtomllcclallcdaaGreatDoor
