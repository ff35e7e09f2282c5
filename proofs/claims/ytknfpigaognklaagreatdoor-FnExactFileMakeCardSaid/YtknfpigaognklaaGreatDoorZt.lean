/- Of the texts on writing worlds: what the files of groups lean on. -/
import Derived.Test.YtknfpigaognklaaGreatDoorRg
import Derived.Lib.ItoaNum
import Derived.Lib.ItoaMem
import Derived.Lib.ItoaLen
import Derived.Laws.Concat
import Derived.Laws.BytesArg
import Derived.Deep.Cut
import Derived.Test.YtknfpigaognklaaGreatDoorPf
import Derived.Shelf.Strings.Builder1
import Derived.Lib.SmallJoins
import Derived.Test.YtknfpigaognklaaGreatDoorI12
import Derived.Test.YtknfpigaognklaaGreatDoorS9
import Derived.Test.YtknfpigaognklaaGreatDoorOw
import Derived.Test.YtknfpigaognklaaGreatDoorLx
import Derived.Test.YtknfpigaognklaaGreatDoorZr
import Derived.Laws.OwnMore
namespace Go.Proofs.YtknfpigaognklaaGreatDoor
open Go.RowKit Go.Sort
/-- a tree of orders: a plain operation; one that makes memory or calls and is the only one that may come up; two of that kind that may come up -/
inductive Sk where
  | done : Sk
  | det (i : Nat) (t : Sk) : Sk
  | one (i : Nat) (t : Sk) : Sk
  | two (i : Nat) (ti : Sk) (j : Nat) (tj : Sk) : Sk
def Sk.len : Sk → Nat
  | .done => 0
  | .det _ t => t.len + 1
  | .one _ t => t.len + 1
  | .two _ ti _ _ => ti.len + 1
section
variable {P : Program} {l : List Oper} {C : World → Prop} {md : Region.Mode}
end
end Go.Proofs.YtknfpigaognklaaGreatDoor
namespace Go.Proofs.YtknfpigaognklaaGreatDoor
open Go.RowKit Go.Sort
/-- a digit -/
def dgt (d : Nat) : UInt8 := UInt8.ofNat (48 + d)
/-- a text -/
def strB (l : List UInt8) : ByteArray := ⟨l.toArray⟩
theorem strB_append (a b : List UInt8) : strB a ++ strB b = strB (a ++ b) := ByteArray.mk_append_mk a b
theorem strB_size (a : List UInt8) : (strB a).size = a.length := by simp [strB, ByteArray.size]
theorem conv1 {w : World} {g : Nat} {d : Nat} (hc : w.cell? ⟨g, 0, none⟩ = some (.int .u8 (48 + (d : Int)))) : (convert 63 9 (.slice (some ⟨g, 0, none⟩) 1 1)).run Tryz.prog w = .ok (.string (strB [dgt d])) w := by
  have := run_convert_bytes_arg (P := Tryz.prog) w 63 5 Tryz.underlying63 Tryz.underlying5 g 0 1 1 [48 + (d : Int)] rfl (fun i hi => by
    obtain rfl : i = 0 := by omega
    exact hc) 9 Tryz.underlying9
  rw [this]
  have e : (48 + (d : Int)).toNat = 48 + d := by omega
  simp only [strOfNums, List.map_cons, List.map_nil, e]
  rfl
theorem new_cell (w : World) (v : Value) (t : TypeId) : (w.alloc (.cells #[v] t)).cell? ⟨w.heap.size, 0, none⟩ = some v := by simp [World.cell?_alloc_at]
theorem ret_str {a b : ByteArray} (h : a = b) : Ending.returned (.string a) = .returned (.string b) := by rw [h]
theorem str_eq {a b : ByteArray} (h : a = b) : Value.string a = .string b := by rw [h]
attribute [local go_sem] strB_size
end Go.Proofs.YtknfpigaognklaaGreatDoor
namespace Go.Proofs.YtknfpigaognklaaGreatDoor
def fits (ns : List Int) : Prop := ∀ n ∈ ns, -9223372036854775808 ≤ n ∧ n ≤ 9223372036854775807
def bitM (b : Bool) : Int := if b then 1 else 0
def pairsN (x : BandM) : Nat → List Int
  | 0 => []
  | n + 1 => pairsN x n ++ [x.locals.getD n 0, bitM (x.dry.getD n false)]
def bandN (k : Nat) (x : BandM) (n : Nat) : List Int := [(k : Int), x.quota, x.pool, x.spent] ++ pairsN x n
/-- all that is written is a machine's number -/
structure NumOk (M : WorldM) : Prop where
  nowF : fits [M.now]
  cpuF : ∀ c, c < M.cpus.length → fits [bitM (cpo M c).up, (cpo M c).cur, (cpo M c).ran, (cpo M c).busy, (cpo M c).idle]
  grpF : ∀ k, k < 8 → (grp M k).used = true → fits [(k : Int), (grp M k).parent, (grp M k).weight, (grp M k).cpus, (grp M k).period, (grp M k).next, (grp M k).sum]
  sheF : ∀ k c : Nat, k < 8 → (grp M k).used = true → c < (grp M k).shelves.length → fits [(k : Int), (c : Int), (she M k c).floor, bitM (she M k c).on, (she M k c).v, (she M k c).w, (she M k c).sum]
  bandF : ∀ k, k < 8 → (grp M k).used = true → 0 < (grp M k).band.quota → ∀ n, n ≤ (grp M k).band.locals.length → fits (bandN k (grp M k).band n)
  tskF : ∀ t, t < M.tasks.length → (tsk M t).st ≠ 0 → fits [(t : Int), (tsk M t).st, (tsk M t).gr, (tsk M t).cpu, (tsk M t).nice, (tsk M t).mask, (tsk M t).v, (tsk M t).sum, (tsk M t).used, (tsk M t).load]
  nameF : ∀ k, k < 8 → k ≠ 0 → (grp M k).used = true → (grp M k).name.size ≤ 8
theorem bitM_bd (b : Bool) : 0 ≤ bitM b ∧ bitM b ≤ 1 := by cases b <;> simp [bitM]
theorem wof_in {n : Int} (h : wof n ≠ 0) : -10 ≤ n ∧ n ≤ 9 := by
  unfold wof at h
  split at h
  · rename_i h2; rw [inR_iff] at h2; omega
  · omega
theorem numOk_of {M : WorldM} (h : worldB M = true) (hx : NextOk M) : NumOk M := by
  have F := facts_of h
  simp only [worldB, worldH, worldL, shelvesB, cpusB, Bool.and_eq_true, beq_iff_eq, inR_iff] at h
  obtain ⟨⟨⟨⟨⟨h1, h2⟩, h3⟩, h4⟩, h5⟩, ⟨h6, h7⟩, h8, h9⟩ := h
  have hl8 := F.tree.len
  refine ⟨?_, fun c hc => ?_, fun k hk hu => ?_, fun k c hk hu hc => ?_, fun k hk hu hq => ?_, fun t ht hst => ?_, fun k hk h0 hu => ?_⟩
  · intro n hn; simp at hn; subst hn; omega
  · have q := List.all_eq_true.1 h9 c (List.mem_range.2 hc)
    have b := bitM_bd (cpo M c).up
    simp only [cpuB, cpuHead, Bool.and_eq_true, timeB, inR_iff] at q
    obtain ⟨⟨⟨q1, q2⟩, q3⟩, q4⟩ := q
    have hr : 0 ≤ (cpo M c).ran ∧ (cpo M c).ran ≤ 149 := by
      split at q4
      · simp at q4; omega
      · simp only [Bool.and_eq_true, inR_iff] at q4; omega
    intro n hn
    simp at hn
    rcases hn with rfl | rfl | rfl | rfl | rfl <;> omega
  · have q := List.all_eq_true.1 h6 k (List.mem_range.2 hk)
    rw [groupB, if_pos hu] at q
    simp only [grpU, Bool.and_eq_true, timeB, inR_iff] at q
    obtain ⟨⟨⟨⟨⟨⟨q1, q2⟩, q3⟩, q4⟩, q5⟩, q6⟩, q7⟩ := q
    have hp : -1 ≤ (grp M k).parent ∧ (grp M k).parent ≤ 8 := by
      by_cases h0 : k = 0
      · subst h0; have := F.tree.rpar; omega
      · obtain ⟨p1, p2, _⟩ := F.tree.up k hk hu h0; omega
    have hn9 := hx k (by omega)
    have hpn : 0 ≤ (grp M k).period ∧ (grp M k).period ≤ 1000 ∧ 0 ≤ (grp M k).next := by
      rw [grpQ] at q7
      split at q7
      · simp at q7; omega
      · simp only [Bool.and_eq_true, inR_iff, decide_eq_true_eq] at q7; omega
    intro n hn
    simp at hn
    rcases hn with rfl | rfl | rfl | rfl | rfl | rfl | rfl <;> omega
  · have q1 := List.all_eq_true.1 h8 k (List.mem_range.2 hk)
    have q2 := List.all_eq_true.1 q1 c (List.mem_range.2 hc)
    have b := bitM_bd (she M k c).on
    have hcc : c < M.cpus.length := by rw [F.gok.she k hk hu] at hc; exact hc
    have := F.c4
    simp only [shelfB, shelfB1, Bool.and_eq_true, timeB, inR_iff] at q2
    intro n hn
    simp at hn
    rcases hn with rfl | rfl | rfl | rfl | rfl | rfl | rfl <;> omega
  · have q := F.band k hk hu (by omega)
    simp only [bandB, bandHead, Bool.and_eq_true, inR_iff] at q
    intro n
    induction n with
    | zero =>
      intro _ m hm
      simp [bandN, pairsN] at hm
      rcases hm with rfl | rfl | rfl | rfl <;> omega
    | succ n ih =>
      intro hn m hm
      rw [bandN, pairsN, ← List.append_assoc, List.mem_append] at hm
      rcases hm with hm | hm
      · exact ih (by omega) m hm
      · have lc := lcB_bd (List.all_eq_true.1 q.1.2 n (List.mem_range.2 (by omega)))
        have b := bitM_bd ((grp M k).band.dry.getD n false)
        rw [List.mem_cons, List.mem_singleton] at hm
        rcases hm with rfl | rfl <;> omega
  · have q := List.all_eq_true.1 h7 t (List.mem_range.2 ht)
    rw [taskB, if_neg hst] at q
    simp only [taskB1, taskB2, Bool.and_eq_true, timeB, inR_iff, Bool.or_eq_true, beq_iff_eq, Bool.not_eq_true', beq_eq_false_iff_ne] at q
    obtain ⟨⟨⟨⟨⟨⟨q1, q2⟩, q3⟩, q4⟩, q5⟩, ⟨⟨⟨q6, q7⟩, q8⟩, q9⟩, q10⟩, q11⟩ := q
    have hw := wof_in q3
    obtain ⟨g, c, hg, hg8, _, hc, hcl⟩ := F.tk t (by omega) hst
    have := F.c4
    intro n hn
    simp at hn
    rcases hn with rfl | rfl | rfl | rfl | rfl | rfl | rfl | rfl | rfl | rfl <;> omega
  · simp only [treeB, Bool.and_eq_true] at h4
    have q := List.all_eq_true.1 h4.2 k (List.mem_range.2 hk)
    rw [show (k == 0) = false by simpa using h0, Bool.false_or, nodeB, hu] at q
    simp only [Bool.not_true, Bool.false_or, Bool.and_eq_true, nameB, inR_iff] at q
    omega
end Go.Proofs.YtknfpigaognklaaGreatDoor
namespace Go.Proofs.YtknfpigaognklaaGreatDoor
open Go.RowKit Go.Sort
attribute [local go_sem] strB_size
theorem strB_data (s : ByteArray) : strB s.data.toList = s := rfl
end Go.Proofs.YtknfpigaognklaaGreatDoor
namespace Go.Proofs.YtknfpigaognklaaGreatDoor
open Go.RowKit Go.Sort
theorem fitG_of {M : WorldM} (h : WFit M) : FitG M := by
  obtain ⟨h1, h2, h3, h4⟩ := h
  refine ⟨h1, h2, h3, fun k hk => ?_, fun k hk => ?_, fun k hk => ?_, fun k hk => ?_⟩
  all_goals have := h4 k hk
  all_goals rw [grp_eq hk] at this
  · exact this.2.1.1
  · exact this.2.1.2
  · exact this.2.2
  · exact this.1
theorem nextOk_of {M : WorldM} (h : ∀ k (hk : k < M.groups.length), M.groups[k].next ≤ 9223372036854775807) : NextOk M := by
  intro k _
  by_cases hk : k < M.groups.length
  · rw [← grp_eq hk]; exact h k hk
  · rw [grp, List.getD_eq_getElem?_getD, List.getElem?_eq_none (by omega)]; decide
end Go.Proofs.YtknfpigaognklaaGreatDoor
namespace Go.Proofs.YtknfpigaognklaaGreatDoor
open Go.RowKit Go.Sort
attribute [local go_sem] strB_size
/-- a row of its own, read as numbers -/
theorem IntS.own {w : World} {base : Nat} {e : TypeId} {a : Option Addr} {n cap : Nat} {L : List Int} (h : w.ownsRow base e 1 (.slice a n cap) n (L.map (Value.int .i64))) : IntS w a L := by
  refine ⟨fun k hk => ?_⟩
  have hn : n = L.length := by have := h.1; simp at this; omega
  rcases h.2 with ⟨_, h0⟩ | ⟨g, cap', cur, h1, _, hg, _⟩
  · omega
  · injection h1 with h1 _ _
    subst h1
    refine ⟨g, 0, rfl, (Array.getElem?_eq_some_iff.1 hg).1, ?_⟩
    have := h.cells (g := g) rfl k (.int .i64 L[k]) (by rw [List.getElem?_map, List.getElem?_eq_getElem hk]; rfl)
    rw [← this]
    congr 1
    unfold Addr.add
    simp
end Go.Proofs.YtknfpigaognklaaGreatDoor
namespace Go.Proofs.YtknfpigaognklaaGreatDoor
/-- names along a way up, the root's first -/
def pathR (M : WorldM) : List Nat → List UInt8
  | [] => []
  | g :: r => if g = 0 then [] else pathR M r ++ 47 :: (grp M g).name.data.toList
def pathB (M : WorldM) (g : Nat) : List UInt8 := if g = 0 then [47] else pathR M (ch M g)
theorem pathR_zero (M : WorldM) : pathR M (ch M 0) = [] := by rw [ch_zero]; rfl
theorem pathR_step {M : WorldM} (h : Tree M) {g : Nat} (hg : g < 8) (hu : (grp M g).used = true) (h0 : g ≠ 0) : pathR M (ch M g) = pathR M (ch M (par M g)) ++ 47 :: (grp M g).name.data.toList := by
  rw [h.ch_step hg hu h0, pathR, if_neg h0]
theorem pathR_len {M : WorldM} (h : Tree M) (NO : NumOk M) : ∀ (n g : Nat), dp M g = n → g < 8 → (grp M g).used = true → (pathR M (ch M g)).length ≤ 9 * n
  | n, g, hn, hg, hu => by
    by_cases h0 : g = 0
    · subst h0; rw [pathR_zero]; simp
    · obtain ⟨h1, h2, h3, h4⟩ := h.up g hg hu h0
      have ih := pathR_len h NO (n - 1) (par M g) (by omega) h2 h3
      have hs := NO.nameF g hg h0 hu
      have hs2 : (grp M g).name.data.toList.length ≤ 8 := by rw [Array.length_toList]; exact hs
      rw [pathR_step h hg hu h0, List.length_append, List.length_cons]
      omega
  termination_by n => n
  decreasing_by omega
theorem pathR_len40 {M : WorldM} (h : Tree M) (NO : NumOk M) {g : Nat} (hg : g < 8) (hu : (grp M g).used = true) : (pathR M (ch M g)).length ≤ 40 := by
  have := pathR_len h NO (dp M g) g rfl hg hu
  have := h.dp3 g hg hu
  omega
end Go.Proofs.YtknfpigaognklaaGreatDoor
namespace Go.Proofs.YtknfpigaognklaaGreatDoor
open Go.RowKit Go.Sort
attribute [local go_sem] strB_size
set_option maxRecDepth 100000 in
set_option maxHeartbeats 2000000 in
theorem sPath_any (ca ta ga : Option Addr) (gc : Nat) (gh : Nat → GH) (M : WorldM) (hT : Tree M) (NO : NumOk M) : ∀ (n g : Nat) (_ : dp M g = n) (_ : g < 8) (_ : (grp M g).used = true) (w : World) (_ : WA w ca ta ga gh M),
    Calls Tryz.prog 158 #[.slice ga M.groups.length gc, .int .i64 g] w fun e w' => e = .returned (.string (strB (pathR M (ch M g)))) ∧ Below w.heap.size w w' := by
  intro n
  induction n using Nat.strongRecOn with
  | _ n ih =>
    intro g hn hg hu w hs
    by_cases h0 : g = 0
    · subst h0
      rw [pathR_zero]
      go_enter Tryz.func158, Tryz.ntmps158
      go_wp2
      go_ret
      exact ⟨ret_str rfl, Below.refl _ _⟩
    · obtain ⟨p1, p2, p3, p4⟩ := hT.up g hg hu h0
      have IH := Lib.hid (ih (dp M (par M g)) (by omega) (par M g) rfl p2 p3)
      have hlg : g < M.groups.length := by have := hT.len; omega
      have HL := Lib.hid (pathR_len40 hT NO p2 p3)
      have hL1 : ((pathR M (ch M (par M g))).length : Int) ≤ 40 := by have := HL.out; omega
      have hns : (grp M g).name.size ≤ 8 := NO.nameF g hg h0 hu
      have PS := Lib.hid (pathR_step hT hg hu h0)
      have hne : ((g : Int) == 0) = false := by simpa using h0
      have HS := Lib.hid hs
      obtain ⟨b, o, rfl, hB, c0, c1, c2, _⟩ := hs.group_ hlg
      rw [p1] at c1
      have hi0 : (0 : Int) ≤ (g : Int) := by omega
      have hi1 : (g : Int) < (M.groups.length : Int) := by omega
      have q1 := fun d os => cell_regrown c1 d os
      have q2 := fun d os => cell_regrown c2 d os
      clear ih c0 c1 c2 hn p1 p4 h0 hu hB hs
      generalize pathR M (ch M (par M g)) = X at *
      go_enter Tryz.func158, Tryz.ntmps158
      go_upto_region 3 with (fail)
      refine wp_region_quiet_below (by kernel_rfl) (by kernel_rfl) ?_
      repeat (go_big_quiet_step ((go_at_call 158; exact Calls.regrown_of (IH.out _ (HS.out.keep (below_regrown _ _ _))))))
      refine wpQuiet_nil ?_
      intro _ hw'
      obtain ⟨⟨dq, osq⟩, hw''⟩ := hw'
      subst hw''
      go_wp2
      go_ret
      exact ⟨ret_str (by rw [PS.out, show (⟨#[47]⟩ : ByteArray) = strB [47] from rfl, ← strB_data (grp M g).name, strB_append, strB_append]; simp [strB_data]), below_regrown _ _ _⟩
set_option maxRecDepth 100000 in
set_option maxHeartbeats 2000000 in
theorem sTreePath_any (ca ta ga : Option Addr) (gc : Nat) (gh : Nat → GH) (M : WorldM) (w : World) (hs : WA w ca ta ga gh M) (hT : Tree M) (hB : treeB M = true) (NO : NumOk M) (hgm : M.groups.length ≤ 1048576) (hnm : ∀ k, k < M.groups.length → (grp M k).name.size ≤ 1048576) (g : Nat) (hg : g < 8) (hu : (grp M g).used = true) :
    Calls Tryz.prog 83 #[.slice ga M.groups.length gc, .int .i64 g] w fun e w' => e = .returned (.string (strB (pathB M g))) ∧ Below w.heap.size w w' := by
  have HB := Lib.hid hB
  have HNM := Lib.hid hnm
  have HU := Lib.hid (show usedI M g = true by have := hT.len; simp only [usedI, Int.toNat_natCast, hu, Bool.and_true, Bool.and_eq_true, decide_eq_true_eq]; omega)
  clear hnm hB
  by_cases h0 : g = 0
  · subst h0
    have HU0 := Lib.hid (show usedI M 0 = true from HU.out)
    go_enter Tryz.func83, Tryz.ntmps83
    go_wp2_with (first | (go_at_call 65; refine (sTreeOk_any ca ta ga gc gh M _ hs hgm HNM.out).mono ?_; rintro e w2 ⟨rfl, hb2⟩; rw [HB.out]) | (go_at_call 108; refine (sl6Used_any ca ta ga gc gh M _ (hs.keep hb2) _).mono ?_; rintro e w' ⟨rfl, rfl⟩; rw [HU0.out]))
    go_ret
    exact ⟨ret_str rfl, hb2⟩
  · have hne : ((g : Int) == 0) = false := by simpa using h0
    have PB := Lib.hid (show pathB M g = pathR M (ch M g) by rw [pathB, if_neg h0])
    go_enter Tryz.func83, Tryz.ntmps83
    go_wp2_with (first | (go_at_call 65; refine (sTreeOk_any ca ta ga gc gh M _ hs hgm HNM.out).mono ?_; rintro e w2 ⟨rfl, hb2⟩; rw [HB.out]) | (go_at_call 108; refine (sl6Used_any ca ta ga gc gh M _ (hs.keep hb2) _).mono ?_; rintro e w' ⟨rfl, rfl⟩; rw [HU.out]) | (go_at_call 158; refine (sPath_any ca ta ga gc gh M hT NO _ g rfl hg hu _ (hs.keep hb2)).mono ?_; rintro e w3 ⟨rfl, hb3⟩))
    go_ret
    exact ⟨ret_str (by rw [PB.out]), hb2.andThen hb3⟩
theorem treeB_of {M : WorldM} (h : worldB M = true) : treeB M = true := by
  simp only [worldB, worldH, Bool.and_eq_true] at h
  exact h.1.1.2
end Go.Proofs.YtknfpigaognklaaGreatDoor
namespace Go.Proofs.YtknfpigaognklaaGreatDoor
open Go.RowKit Go.Sort
attribute [local go_sem] strB_size
def strN : Value → Nat | .string b => b.size | _ => 0
theorem path_join (M : WorldM) (h : Nat) (X : List UInt8) : (⟨#[47]⟩ : ByteArray) ++ (grp M h).name ++ strB X = strB (47 :: (grp M h).name.data.toList ++ X) := by
  rw [show (⟨#[47]⟩ : ByteArray) = strB [47] from rfl, ← strB_data (grp M h).name, strB_append, strB_append]
  simp [strB_data]
set_option maxRecDepth 100000 in
set_option maxHeartbeats 1000000 in
theorem iPath_any (M : WorldM) (hT : Tree M) (NO : NumOk M) (nb : Nat → Nat) (g : Nat) (hg : g < 8) (hu : (grp M g).used = true) (w : World) (hN : NodesAt w M nb) :
    Calls Tryz.prog 87 #[.pointer (some ⟨nb g, 0, none⟩)] w fun e w' => e = .returned (.string (strB (pathB M g))) ∧ w = w' := by
  have HN := Lib.hid hN
  have HT := Lib.hid hT
  have HNO := Lib.hid NO
  have HP := Lib.hid (pathR_len40 hT NO hg hu)
  have c0 := hN.slot g hg hu
  by_cases h0 : g = 0
  · have PB := Lib.hid (show pathB M g = [47] by rw [pathB, if_pos h0])
    have hz : ((g : Int) == 0) = true := by simp [h0]
    clear hN hT NO h0 hu
    go_enter Tryz.func87, Tryz.ntmps87
    go_wp2
    go_ret
    exact ⟨ret_str (by rw [PB.out]; rfl), rfl⟩
  · have PB := Lib.hid (show pathB M g = pathR M (ch M g) by rw [pathB, if_neg h0])
    have hz : ((g : Int) == 0) = false := by simp [h0]
    clear hN hT NO
    go_enter Tryz.func87, Tryz.ntmps87
    go_wp2
    clear c0 hz
    go_loop [0, 3] (fun n s => ∃ (h : Nat) (X : List UInt8), h < 8 ∧ (grp M h).used = true ∧ n = .pointer (some ⟨nb h, 0, none⟩) ∧ s = .string (strB X) ∧ pathR M (ch M g) = pathR M (ch M h) ++ X) (fun _ s => 100 - strN s)
    case atStart => exact ⟨g, [], hg, hu, rfl, rfl, by simp⟩
    case round =>
      obtain ⟨h, X, hh, huh, rfl, rfl, hd⟩ := hrel
      have HD := Lib.hid hd
      have HX := Lib.hid (show X.length ≤ 40 by have := HP.out; rw [hd, List.length_append] at this; omega)
      clear hd
      have c0 := HN.out.slot h hh huh
      have c1 := HN.out.name h hh huh
      have hX : (X.length : Int) ≤ 40 := by have := HX.out; omega
      by_cases h1 : h = 0
      · have hz : ((h : Int) != 0) = false := by simp [h1]
        have HE := Lib.hid (show X = pathB M g by rw [PB.out, HD.out, h1, pathR_zero]; rfl)
        clear h1 huh
        go_wp2
        go_ret
        exact ⟨ret_str (by rw [HE.out]), rfl⟩
      · have hz : ((h : Int) != 0) = true := by simp [h1]
        obtain ⟨c2, hp, hpu⟩ := HN.out.up h hh h1 huh
        have HS := Lib.hid (pathR_step HT.out hh huh h1)
        have HPU := Lib.hid hpu
        have hns : ((grp M h).name.size : Int) ≤ 8 := by have := HNO.out.nameF h hh h1 huh; omega
        clear huh h1 hpu
        go_wp2
        go_round
        case rel => exact ⟨par M h, 47 :: (grp M h).name.data.toList ++ X, hp, HPU.out, rfl, str_eq (path_join M h X), by rw [HD.out, HS.out, List.append_assoc]⟩
        case measure =>
          have := HX.out
          rw [path_join]
          simp only [strN, strB_size, List.length_append, List.length_cons]
          omega
end Go.Proofs.YtknfpigaognklaaGreatDoor
namespace Go.Proofs.YtknfpigaognklaaGreatDoor
open Go.RowKit Go.Sort
attribute [local go_sem] strB_size
/-- no block but the builder's own and rows of bytes is changed -/
def KeepsBut (b : Nat) (w w' : World) : Prop := ∀ k T cs, k ≠ b → T ≠ 5 → Blk w k T cs → Blk w' k T cs
theorem KeepsBut.refl (b : Nat) (w : World) : KeepsBut b w w := fun _ _ _ _ _ h => h
theorem KeepsBut.trans {b : Nat} {u v w : World} (h1 : KeepsBut b u v) (h2 : KeepsBut b v w) : KeepsBut b u w := fun k T cs a c h => h2 k T cs a c (h1 k T cs a c h)
theorem KeepsBut.set (b : Nat) (w : World) (i : Nat) (u : Value) : KeepsBut b w (w.setCell ⟨b, i, none⟩ u) := fun _ _ _ a _ h => h.far a u
end Go.Proofs.YtknfpigaognklaaGreatDoor
