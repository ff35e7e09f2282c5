/- Nodes of a tree as they are built: what holds round by round. -/
import Derived.Test.YtknfpigaognklaaGreatDoorMp
import Derived.Test.YtknfpigaognklaaGreatDoorI10
namespace Go.Proofs.YtknfpigaognklaaGreatDoor
open Go.RowKit
/-- the pointers to the nodes, so far -/
def arrN (M : WorldM) (nb : Nat → Nat) (k : Nat) : Array Value := ((List.range 8).map fun i => if i < k ∧ (grp M i).used = true then Value.pointer (some ⟨nb i, 0, none⟩) else .pointer none).toArray
theorem arrN_size (M : WorldM) (nb : Nat → Nat) (k : Nat) : (arrN M nb k).size = 8 := by simp [arrN]
theorem arrN_at (M : WorldM) (nb : Nat → Nat) (k i : Nat) (h : i < 8) : (arrN M nb k)[i]? = some (if i < k ∧ (grp M i).used = true then Value.pointer (some ⟨nb i, 0, none⟩) else .pointer none) := by
  simp [arrN, h]
theorem arrN_zero (M : WorldM) (nb : Nat → Nat) : arrN M nb 0 = #[.pointer none, .pointer none, .pointer none, .pointer none, .pointer none, .pointer none, .pointer none, .pointer none] := by
  simp [arrN, List.range_succ]
theorem arrN_skip (M : WorldM) (nb : Nat → Nat) (k : Nat) (hu : (grp M k).used = false) : arrN M nb (k + 1) = arrN M nb k := by
  apply Array.ext_getElem?
  intro i
  by_cases hi : i < 8
  · rw [arrN_at M nb _ i hi, arrN_at M nb _ i hi]
    by_cases hik : i = k
    · subst hik; simp [hu]
    · by_cases h : i < k
      · simp [h, show i < k + 1 by omega]
      · simp [h, show ¬ i < k + 1 by omega]
  · rw [Array.getElem?_eq_none (by rw [arrN_size]; omega), Array.getElem?_eq_none (by rw [arrN_size]; omega)]
theorem arrN_put (M : WorldM) (nb : Nat → Nat) (k n : Nat) (hk : k < 8) (hu : (grp M k).used = true) : (arrN M nb k).setIfInBounds k (.pointer (some ⟨n, 0, none⟩)) = arrN M (fun i => if i = k then n else nb i) (k + 1) := by
  apply Array.ext_getElem?
  intro i
  by_cases hi : i < 8
  · rw [arrN_at M _ _ i hi]
    by_cases hik : i = k
    · subst hik; simp [arrN_size, hi, hu]
    · rw [Array.getElem?_setIfInBounds_ne (Ne.symm hik), arrN_at M _ _ i hi]
      by_cases h : i < k
      · simp [h, show i < k + 1 by omega, hik]
      · simp [h, show ¬ i < k + 1 by omega]
  · rw [Array.getElem?_eq_none (by simp [arrN_size]; omega), Array.getElem?_eq_none (by rw [arrN_size]; omega)]
structure Nd1 (w wr : World) (M : WorldM) (a k : Nat) (nb : Nat → Nat) : Prop where
  blk : Blk wr a 116 (arrN M nb k)
  node : ∀ i, i < k → (grp M i).used = true → Blk wr (nb i) 165 #[.int .i64 i, .string (grp M i).name, .pointer none] ∧ a < nb i
  lt : ∀ i j, i < j → j < k → (grp M i).used = true → (grp M j).used = true → nb i < nb j
  bel : Below w.heap.size w wr
  ha : w.heap.size ≤ a
theorem Nd1.skip {w wr : World} {M : WorldM} {a k : Nat} {nb : Nat → Nat} (h : Nd1 w wr M a k nb) (hu : (grp M k).used = false) : Nd1 w wr M a (k + 1) nb :=
  ⟨by rw [arrN_skip M nb k hu]; exact h.blk, fun i hi hui => h.node i (by rcases Nat.lt_or_ge i k with h' | h'; exact h'; exact absurd hui (by rw [show i = k by omega, hu]; decide)) hui,
   fun i j hij hj hi' hj' => h.lt i j hij (by rcases Nat.lt_or_ge j k with h' | h'; exact h'; exact absurd hj' (by rw [show j = k by omega, hu]; decide)) hi' hj', h.bel, h.ha⟩
theorem Nd1.put {w wr : World} {M : WorldM} {a k : Nat} {nb : Nat → Nat} (h : Nd1 w wr M a k nb) (hk : k < 8) (hu : (grp M k).used = true) :
    Nd1 w ((wr.alloc (.cells #[.int .i64 k, .string (grp M k).name, .pointer none] 165)).setCell ⟨a, k, none⟩ (.pointer (some ⟨wr.heap.size, 0, none⟩))) M a (k + 1) (fun i => if i = k then wr.heap.size else nb i) := by
  have hal := h.blk.lt
  refine ⟨?_, ?_, ?_, ?_, h.ha⟩
  · rw [← arrN_put M nb k wr.heap.size hk hu]
    exact (h.blk.alloc _).set_ k _
  · intro i hi hui
    by_cases hik : i = k
    · subst hik
      simp only [if_true]
      exact ⟨(Blk.new wr _ _).far (by show wr.heap.size ≠ a; omega) _, hal⟩
    · simp only [if_neg hik]
      obtain ⟨h1, h2⟩ := h.node i (by omega) hui
      exact ⟨(h1.alloc _).far (by show nb i ≠ a; omega) _, h2⟩
  · intro i j hij hj hui huj
    have hik : i ≠ k := by omega
    simp only [if_neg hik]
    by_cases hjk : j = k
    · simp only [if_pos hjk]; exact (h.node i (by omega) hui).1.lt
    · simp only [if_neg hjk]; exact h.lt i j hij (by omega) hui huj
  · exact (h.bel.alloc h.bel.size _).setCell h.ha _
/-- parents and names of the groups in use before one -/
def keysTo (M : WorldM) (g : Nat) : List (Int × ByteArray) := ((List.range g).filter fun h => h != 0 && (grp M h).used).map fun h => ((grp M h).parent, (grp M h).name)
theorem keysTo_one (M : WorldM) : keysTo M 1 = [] := rfl
theorem keysTo_skip (M : WorldM) (g : Nat) (hu : (grp M g).used = false) : keysTo M (g + 1) = keysTo M g := by
  simp [keysTo, List.range_succ, List.filter_append, hu]
theorem keysTo_put (M : WorldM) (g : Nat) (h0 : g ≠ 0) (hu : (grp M g).used = true) : keysTo M (g + 1) = keysTo M g ++ [((grp M g).parent, (grp M g).name)] := by
  simp [keysTo, List.range_succ, List.filter_append, hu, h0]
def upv (M : WorldM) (nb : Nat → Nat) (g i : Nat) : Value := if 1 ≤ i ∧ i < g then .pointer (some ⟨nb (par M i), 0, none⟩) else .pointer none
structure Nd2 (w wr : World) (M : WorldM) (a r g : Nat) (nb : Nat → Nat) : Prop where
  blk : Blk wr a 116 (arrN M nb 8)
  node : ∀ i, i < 8 → (grp M i).used = true → Blk wr (nb i) 165 #[.int .i64 i, .string (grp M i).name, upv M nb g i] ∧ a < nb i ∧ nb i < r
  lt : ∀ i j, i < j → j < 8 → (grp M i).used = true → (grp M j).used = true → nb i < nb j
  bel : Below w.heap.size w wr
  ha : w.heap.size ≤ a
  har : a < r
  map : KvAt wr r (keysTo M g)
theorem Nd1.on {w wr : World} {M : WorldM} {a : Nat} {nb : Nat → Nat} (h : Nd1 w wr M a 8 nb) : Nd2 w (wr.alloc (.map #[] 0)) M a wr.heap.size 1 nb := by
  refine ⟨h.blk.alloc _, fun i hi hu => ?_, h.lt, h.bel.alloc h.bel.size _, h.ha, h.blk.lt, ?_⟩
  · obtain ⟨h1, h2⟩ := h.node i hi hu
    have : upv M nb 1 i = .pointer none := by rw [upv, if_neg (by omega)]
    rw [this]
    exact ⟨h1.alloc _, h2, h1.lt⟩
  · exact ⟨#[], 0, by show (wr.heap.push _)[wr.heap.size]? = _; simp, by rw [keysTo_one]; rfl⟩
theorem upv_skip (M : WorldM) (nb : Nat → Nat) (g i : Nat) (h : i ≠ g) : upv M nb (g + 1) i = upv M nb g i := by
  unfold upv
  by_cases hi : 1 ≤ i ∧ i < g
  · rw [if_pos hi, if_pos (by omega)]
  · rw [if_neg hi, if_neg (by omega)]
theorem Nd2.below {w wr w1 : World} {M : WorldM} {a r g : Nat} {nb : Nat → Nat} (h : Nd2 w wr M a r g nb) (hb : Below wr.heap.size wr w1) : Nd2 w w1 M a r g nb :=
  ⟨h.blk.below hb h.blk.lt, fun i hi hu => ⟨(h.node i hi hu).1.below hb (h.node i hi hu).1.lt, (h.node i hi hu).2⟩, h.lt, h.bel.andThen hb, h.ha, h.har, h.map.below hb h.map.lt⟩
theorem Nd2.skip {w wr : World} {M : WorldM} {a r g : Nat} {nb : Nat → Nat} (h : Nd2 w wr M a r g nb) (hu : (grp M g).used = false) : Nd2 w wr M a r (g + 1) nb :=
  ⟨h.blk, fun i hi hui => by
    have hig : i ≠ g := fun e => by rw [e, hu] at hui; cases hui
    rw [upv_skip M nb g i hig]; exact h.node i hi hui, h.lt, h.bel, h.ha, h.har, by rw [keysTo_skip M g hu]; exact h.map⟩
/-- the link to the parent is laid -/
theorem Nd2.link {w wr : World} {M : WorldM} {a r g : Nat} {nb : Nat → Nat} (h : Nd2 w wr M a r g nb) (h1 : 1 ≤ g) (hg : g < 8) (hu : (grp M g).used = true) :
    let W := wr.setCell ⟨nb g, 2, none⟩ (.pointer (some ⟨nb (par M g), 0, none⟩))
    (∀ i, i < 8 → (grp M i).used = true → Blk W (nb i) 165 #[.int .i64 i, .string (grp M i).name, upv M nb (g + 1) i] ∧ a < nb i ∧ nb i < r) ∧ Blk W a 116 (arrN M nb 8) ∧ KvAt W r (keysTo M g) ∧ Below w.heap.size w W := by
  obtain ⟨g1, g2, g3⟩ := h.node g hg hu
  refine ⟨fun i hi hui => ?_, h.blk.far (by show a ≠ nb g; omega) _, h.map.but (But.set_ _ _ _ _) (by omega), h.bel.setCell (by have := h.ha; show w.heap.size ≤ nb g; omega) _⟩
  obtain ⟨i1, i2, i3⟩ := h.node i hi hui
  by_cases hig : i = g
  · subst hig
    have e : upv M nb (i + 1) i = .pointer (some ⟨nb (par M i), 0, none⟩) := by rw [upv, if_pos (by omega)]
    rw [e]
    refine ⟨?_, i2, i3⟩
    have := i1.set_ 2 (.pointer (some ⟨nb (par M i), 0, none⟩))
    simpa using this
  · rw [upv_skip M nb g i hig]
    refine ⟨i1.far ?_ _, i2, i3⟩
    show nb i ≠ nb g
    rcases Nat.lt_or_ge i g with h' | h'
    · have := h.lt i g h' hg hui hu; omega
    · have := h.lt g i (by omega) hi hu hui; omega
theorem Nd2.at_ {w wr : World} {M : WorldM} {a r : Nat} {nb : Nat → Nat} (h : Nd2 w wr M a r 8 nb) (h0 : (grp M 0).used = true) (hp : ∀ g, 1 ≤ g → g < 8 → (grp M g).used = true → par M g < 8 ∧ (grp M (par M g)).used = true) : NodesAt wr M nb := by
  refine ⟨fun g hg hu => ?_, fun g hg hu => ?_, ?_, fun g hg h1 hu => ?_⟩
  · rw [(h.node g hg hu).1.cell]; rfl
  · rw [(h.node g hg hu).1.cell]; rfl
  · rw [(h.node 0 (by decide) h0).1.cell]; rfl
  · refine ⟨?_, hp g (by omega) hg hu⟩
    rw [(h.node g hg hu).1.cell]
    have e : upv M nb 8 g = .pointer (some ⟨nb (par M g), 0, none⟩) := by rw [upv, if_pos (by omega)]
    rw [e]; rfl
structure Nd3 (w wr : World) (M : WorldM) (a r g : Nat) (nb : Nat → Nat) : Prop where
  blk : Blk wr a 116 (arrN M nb 8)
  node : ∀ i, i < 8 → (grp M i).used = true → Blk wr (nb i) 165 #[.int .i64 i, .string (grp M i).name, upv M nb (g + 1) i] ∧ a < nb i ∧ nb i < r
  lt : ∀ i j, i < j → j < 8 → (grp M i).used = true → (grp M j).used = true → nb i < nb j
  bel : Below w.heap.size w wr
  ha : w.heap.size ≤ a
  har : a < r
  map : KvAt wr r (keysTo M g)
theorem Nd2.link3 {w wr : World} {M : WorldM} {a r g q : Nat} {nb : Nat → Nat} (h : Nd2 w wr M a r g nb) (h1 : 1 ≤ g) (hg : g < 8) (hu : (grp M g).used = true) (hq : par M g = q) :
    Nd3 w (wr.setCell ⟨nb g, 2, none⟩ (.pointer (some ⟨nb q, 0, none⟩))).drew M a r g nb := by
  subst hq
  obtain ⟨l1, l2, l3, l4⟩ := h.link h1 hg hu
  exact ⟨l2, l1, h.lt, l4.drew, h.ha, h.har, ⟨l3.at_⟩⟩
theorem Nd3.below {w wr w1 : World} {M : WorldM} {a r g : Nat} {nb : Nat → Nat} (h : Nd3 w wr M a r g nb) (hb : Below wr.heap.size wr w1) : Nd3 w w1 M a r g nb :=
  ⟨h.blk.below hb h.blk.lt, fun i hi hu => ⟨(h.node i hi hu).1.below hb (h.node i hi hu).1.lt, (h.node i hi hu).2⟩, h.lt, h.bel.andThen hb, h.ha, h.har, h.map.below hb h.map.lt⟩
theorem Nd3.done {w wr w1 : World} {M : WorldM} {a r g : Nat} {nb : Nat → Nat} (h : Nd3 w wr M a r g nb) (hb : But r wr w1) (h0 : g ≠ 0) (hu : (grp M g).used = true)
    (hm : KvAt w1 r (keysTo M g ++ [((grp M g).parent, (grp M g).name)])) : Nd2 w w1 M a r (g + 1) nb :=
  ⟨hb.blk h.blk (by have := h.har; omega), fun i hi hui => ⟨hb.blk (h.node i hi hui).1 (by have := (h.node i hi hui).2.2; omega), (h.node i hi hui).2⟩, h.lt,
   h.bel.trans (hb.below (by have := h.ha; have := h.har; omega)), h.ha, h.har, by rw [keysTo_put M g h0 hu]; exact hm⟩
end Go.Proofs.YtknfpigaognklaaGreatDoor
