/- A region that draws its order: the first n operations may come in any order (loads, and calls that lay memory, no matter how many), the rest waits for them: walked once. How long a task waits at most: sums over the others of a queue, level by level. No program in sight. How long a task waits at most: the reference. How long a task waits at most: the program. Laws that compare what is told of a world: they hold, whatever comes in. No condition. -/
import Derived.Test.YtccjanpdgdonmaaGreatZr
import Derived.Test.YtccjanpdgdonmaaGreatZm
import Derived.Test.YtccjanpdgdonmaaGreatZu
import Derived.Test.YtccjanpdgdonmaaGreatZx
import Derived.Test.YtccjanpdgdonmaaGreatFw
namespace Go.Proofs.YtccjanpdgdonmaaGreat
open Go.RowKit Go.Sort
section
variable {P : Program} {ops : Array Oper} {md : Region.Mode} {C : World → Prop}
/-- f operations more of the first n, in any order; behind them L -/
def anyQ (P : Program) (md : Region.Mode) (ops : Array Oper) (C : World → Prop) (n : Nat) (L : Array Bool → Act → Prop) : Nat → Array Bool → Act → Prop
  | 0, listed, a => L listed a
  | f + 1, listed, a => Region.ready md ops listed ≠ [] ∧ ∀ i ∈ Region.ready md ops listed, i < n ∧ qOp P ops C i (anyQ P md ops C n L f (listed.setIfInBounds i true)) a
theorem any_of_Q {n g : Nat} {L : Array Bool → Act → Prop} {Q' : Exit → Act → World → Prop} (hL : ∀ listed a w, C w → L listed a → wpAny P md ops Q' g listed a w) :
    ∀ (f : Nat) (listed : Array Bool) (a : Act) (w : World), C w → anyQ P md ops C n L f listed a → wpAny P md ops Q' (f + g) listed a w
  | 0, listed, a, w, hw, h => by rw [Nat.zero_add]; exact hL _ _ _ hw h
  | f + 1, listed, a, w, hw, h => by
    rw [show f + 1 + g = (f + g) + 1 by omega]
    exact ⟨fun h0 => absurd h0 h.1, fun i hi => wpOp_of_qOp hw (fun a' w' hw' h' => any_of_Q hL f _ a' w' hw' h') (h.2 i hi).2⟩
theorem anyQ_first {n i : Nat} {oi : Oper} {v : Value} {L : Array Bool → Act → Prop} (hi : ops[i]? = some oi) (hsel : ∀ (j : Nat) (o : Oper) cs b, ops[j]? = some o → o.op ≠ .select cs b)
    (hs : Region.sinkB md ops n = true) (hc : Region.chainB md ops n = true) (hn : n < ops.size) (hin : i < n) (hdone : ∀ listed a, L listed a → ∀ j ∈ Region.ready md ops listed, n ≤ j) :
    ∀ (f : Nat) (listed : Array Bool) (a : Act), HeadInv md ops n listed →
      (∀ j oj, ops[j]? = some oj → j ≠ i → listed.getD j true = false → (∀ e ∈ oj.after, Region.binds md e = true → e.on ≠ i) → oi.apart ops oj = true) →
      i ∈ Region.ready md ops listed → YieldsIn P ops C oi v a → anyQ P md ops C n L f (listed.setIfInBounds i true) (a.put oi.dst v) → anyQ P md ops C n L (f + 1) listed a
  | f, listed, a, inv, hfree, hr, hy, H => by
    have hun := (mem_ready.1 hr).1
    refine ⟨fun h => (by rw [h] at hr; cases hr), fun j hj => ?_⟩
    have hjn : j < n := by
      rcases Nat.lt_or_ge j n with h | h
      · exact h
      · exact absurd hj (tail_waits hs hc hn inv _ i rfl hin hun j h)
    refine ⟨hjn, ?_⟩
    by_cases hji : j = i
    · subst hji; exact hy.qOp hi H
    · match f, H with
      | 0, H =>
        have := hdone _ _ H j (ready_mono hj hji)
        omega
      | f + 1, H =>
        have h1 := (H.2 j (ready_mono hj hji)).2
        obtain ⟨hjun, oj, hoj, hall⟩ := mem_ready.1 hj
        have hnot : ∀ e ∈ oj.after, Region.binds md e = true → e.on ≠ i := fun e he hb heq => by
          have h1 := hall e he hb
          rw [heq, getD_both hun] at h1
          cases h1
        have h2 := qOp_put hoj (hfree j oj hoj hji hjun hnot) (fun cs b => hsel i oi cs b hi) (fun cs b => hsel j oj cs b hoj) hy h1
        refine qOp_mono (fun a' h3 => anyQ_first hi hsel hs hc hn hin hdone f (listed.setIfInBounds j true) a' (inv.set hj hjn) (fun k ok hk hki hun hno => ?_) (ready_mono hr (Ne.symm hji)) h3.1 ?_) h2
        · refine hfree k ok hk hki ?_ hno
          by_cases hjk : j = k
          · subst hjk; exact hjun
          · rw [getD_set_ne true hjk] at hun; exact hun
        · rw [Array.setIfInBounds_comm _ _ hji]
          exact h3.2
theorem anyQ_lex {n g : Nat} {Lq : Act → Prop} (hsel : Region.noSelect ops = true) (hs : Region.sinkB md ops n = true) (hc : Region.chainB md ops n = true) (hn : n < ops.size) :
    ∀ (l : List Oper) (k : Nat) (listed : Array Bool) (a : Act), (∀ j, j < l.length → l[j]? = ops[k + j]?) → k + l.length = n → HeadInv md ops n listed →
    Region.lexHead md ops g l.length k listed = true → wpQuiet P ops C Lq l a → anyQ P md ops C n (fun listed' a' => Region.seqB md ops g n listed' = true ∧ Lq a') l.length listed a
  | [], k, listed, a, _, hk, _, hB, h => by
    have : k = n := by simpa using hk
    subst this
    exact ⟨by simpa [Region.lexHead] using hB, h⟩
  | o :: l, k, listed, a, hl, hk, inv, hB, h => by
    have h0 : ops[k]? = some o := by simpa using (hl 0 (by simp)).symm
    simp only [List.length_cons, Region.lexHead, Bool.and_eq_true] at hB
    obtain ⟨⟨hr, hf⟩, hB'⟩ := hB
    have hkn : k < n := by simp only [List.length_cons] at hk; omega
    have hr' : k ∈ Region.ready md ops listed := by simpa using hr
    have hst : qOp P ops C k (wpQuiet P ops C Lq l) a := by unfold qOp; simp only [h0]; exact h
    obtain ⟨v, hy, hK⟩ := yieldsIn_of_qOp h0 hst
    exact anyQ_first h0 (Region.noSelect_spec hsel) hs hc hn hkn (fun listed' a' hL => seqB_ready hL.1) l.length listed a inv (Region.free_spec h0 hf) hr' hy
      (anyQ_lex hsel hs hc hn l (k + 1) _ _ (fun j hj => by have := hl (j + 1) (by simp; omega); simpa [Nat.add_assoc, Nat.add_comm 1 j] using this) (by simp only [List.length_cons] at hk; omega) (inv.set hr' hkn) hB' hK)
theorem any_quiet_tail {Q : Exit → Act → World → Prop} {a : Act} {w : World} {l : List Oper} (n : Nat) (hB : Region.lexTailB .any l.toArray n = true) (hC : C w)
    (h : wpQuiet P l.toArray C (fun a' => ∀ w', C w' → wpList P l.toArray Q (l.drop n) a' w') (l.take n) a) : wpAny P .any l.toArray Q l.toArray.size (Array.replicate l.toArray.size false) a w := by
  simp only [Region.lexTailB, Bool.and_eq_true, decide_eq_true_eq] at hB
  obtain ⟨⟨⟨⟨hsel, hn⟩, hs⟩, hc⟩, hlex⟩ := hB
  have hn' : n < l.length := by simpa using hn
  have htl : (l.take n).length = n := by simp; omega
  have hdl : (l.drop n).length = l.toArray.size - n := by simp
  have inv0 : HeadInv .any l.toArray n (Array.replicate l.toArray.size false) :=
    ⟨by simp, fun j oj _ hl => (by rw [getD_replicate_false] at hl; cases hl), fun t _ ht => getD_in (by simpa using ht) (getD_replicate_false _ _)⟩
  have H := anyQ_lex (md := .any) (g := l.toArray.size - n) hsel hs hc hn (l.take n) 0 _ a (fun j hj => by
    have hj' : j < n := by rw [htl] at hj; exact hj
    simp [hj']) (by simpa using htl) inv0 (by rw [htl]; exact hlex) h
  have := any_of_Q (Q' := Q) (g := l.toArray.size - n) (fun listed a' w' hw' hL => by
    have := wpAny_of_seq (md := .any) (Q' := Q) (l.drop n) n listed a' w' (fun j => by simp [List.getElem?_drop]) (by rw [hdl]; exact hL.1) (hL.2 w' hw')
    rwa [hdl] at this) _ _ _ w hC H
  rw [htl, show n + (l.toArray.size - n) = l.toArray.size by omega] at this
  exact this
end
/-- in a round: loads and calls that lay memory, the rest behind -/
theorem region_QT {P : Program} {id m lp : Nat} {Q : Exit → Act → World → Prop} {a : Act} {w : World} {l : List Oper} (n : Nat) (hm : P.follows .mixedOrders = true) (hd : l.toArray.all (fun o => !deferB o) = true) (hB : Region.lexTailB .any l.toArray n = true)
    (h : wpQuiet P l.toArray (fun w' => ∃ p : Regrown, w' = grow (redrawn w p.d) p.os) (fun a' => ∀ w', (∃ p : Regrown, w' = grow (redrawn w p.d) p.os) → wpList P l.toArray (fun e a w => e = .normal ∧ Q .normal a w) (l.drop n) a' w') (l.take n) a) :
    (Code.region id l.toArray true).wpIn (Fence.wide.inRound lp) m P Q a w := by
  refine wpIn_mono (Q := fun e a w => e = .normal ∧ Q .normal a w) ?_ (fun e a w hh => by obtain ⟨rfl, hh⟩ := hh; exact hh)
  refine wpIn_region_any hm ?_
  exact any_in (l := lp) (n := m) (deferB_no hd) (fun ⟨_, _, hq⟩ => by cases hq.1) _ _ _ _ (any_quiet_tail n hB ⟨⟨w.drawn + 1, #[]⟩, by rw [grow_empty]; rfl⟩ h)
/-- in a round: loads and calls that lay memory, all of it -/
theorem region_QR {P : Program} {id m lp : Nat} {Q : Exit → Act → World → Prop} {a : Act} {w : World} {l : List Oper} (hm : P.follows .mixedOrders = true) (hd : l.toArray.all (fun o => !deferB o) = true) (hB : Region.lexB .any l.toArray = true)
    (h : wpQuiet P l.toArray (fun w' => ∃ p : Regrown, w' = grow (redrawn w p.d) p.os) (fun a' => ∀ w', (∃ p : Regrown, w' = grow (redrawn w p.d) p.os) → Q .normal a' w') l a) :
    (Code.region id l.toArray true).wpIn (Fence.wide.inRound lp) m P Q a w := by
  simp only [Region.lexB, Bool.and_eq_true] at hB
  refine wpIn_mono (Q := fun e a w => e = .normal ∧ Q .normal a w) ?_ (fun e a w hh => by obtain ⟨rfl, hh⟩ := hh; exact hh)
  refine wpIn_region_any hm ?_
  refine any_in (l := lp) (n := m) (deferB_no hd) (fun ⟨_, _, hq⟩ => by cases hq.1) _ _ _ _ (wpAny_of_quiet (Q := fun a' => ∀ w', (∃ p : Regrown, w' = grow (redrawn w p.d) p.os) → Q .normal a' w') (fun _ w' hw' h => ⟨rfl, h w' hw'⟩) _ _ _ _ ⟨⟨w.drawn + 1, #[]⟩, by rw [grow_empty]; rfl⟩ ?_)
  have := wpAnyQ_lex (C := fun w' => ∃ p : Regrown, w' = grow (redrawn w p.d) p.os) (md := .any) hB.1 l 0 (Array.replicate l.toArray.size false) a (by simp) (by simpa using hB.2) h
  simpa using this
/-- a call through the interface, quiet -/
theorem quiet_of_wp {P : Program} {o : Oper} {a : Act} {C : World → Prop} {K : Act → Prop} {v : Value} (h : ∀ w, C w → o.quietAt P a C w v) (hK : K (a.put o.dst v)) : o.quiet P a C K := ⟨v, h, hK⟩
end Go.Proofs.YtccjanpdgdonmaaGreat
namespace Go.Proofs.YtccjanpdgdonmaaGreat
/-- VirtualUnits -/
def vunits (v w : Int) : Int := if inR w 1 20 && inR v 1 300000000000000000 then (v + 232792560 / w - 1) / (232792560 / w) else 0
theorem vunits_bd (v w : Int) : 0 ≤ vunits v w ∧ vunits v w ≤ 26000000000 := by
  unfold vunits
  split
  · rename_i h
    simp only [Bool.and_eq_true, inR_iff] at h
    have hs := step_bd w h.1.1 h.1.2
    refine ⟨Int.ediv_nonneg (by omega) (by omega), ?_⟩
    refine Int.ediv_le_of_le_mul (by omega) ?_
    have := Int.mul_le_mul (Int.le_refl 26000000000) hs.1 (by omega) (by omega)
    omega
  · omega
def unitF (M : WorldM) (c : Nat) (goal : Int) (m : Mem) : Int := 149 + vunits (goal - memT M c m) (memW M c m)
theorem unitF_bd (M : WorldM) (c : Nat) (goal : Int) (m : Mem) : 0 ≤ unitF M c goal m ∧ unitF M c goal m ≤ 26000000149 := by
  have := vunits_bd (goal - memT M c m) (memW M c m)
  unfold unitF
  omega
/-- the others' units: tasks below n but a, groups below n but b -/
def oT (M : WorldM) (g : Int) (c : Nat) (goal a : Int) : Nat → Int := sumq (fun t => ((t : Int) != a) && tq M t g c) (fun t => unitF M c goal ⟨false, t⟩)
def oG (M : WorldM) (g : Int) (c : Nat) (goal b : Int) : Nat → Int := sumq (fun h => ((h : Int) != b) && gq M h g c) (fun h => unitF M c goal ⟨true, h⟩)
def oM (M : WorldM) (g : Int) (c : Nat) (a b goal : Int) : Int := oT M g c goal a M.tasks.length + oG M g c goal b M.groups.length
theorem oT_bd (M : WorldM) (g : Int) (c : Nat) (goal a : Int) (n : Nat) : 0 ≤ oT M g c goal a n ∧ oT M g c goal a n ≤ 26000000149 * n := sumq_bd (by omega) n (fun _ _ _ => unitF_bd _ _ _ _)
theorem oG_bd (M : WorldM) (g : Int) (c : Nat) (goal a : Int) (n : Nat) : 0 ≤ oG M g c goal a n ∧ oG M g c goal a n ≤ 26000000149 * n := sumq_bd (by omega) n (fun _ _ _ => unitF_bd _ _ _ _)
theorem oT_t {M : WorldM} {g : Int} {c : Nat} {goal a : Int} {k : Nat} (h : (((k : Int) != a) && tq M k g c) = true) : oT M g c goal a (k + 1) = oT M g c goal a k + (149 + vunits (goal - (tsk M k).v) (wof (tsk M k).nice)) := sumq_t (p := fun t => ((t : Int) != a) && tq M t g c) h
theorem oT_f {M : WorldM} {g : Int} {c : Nat} {goal a : Int} {k : Nat} (h : (((k : Int) != a) && tq M k g c) = false) : oT M g c goal a (k + 1) = oT M g c goal a k := sumq_f (p := fun t => ((t : Int) != a) && tq M t g c) h
theorem oG_t {M : WorldM} {g : Int} {c : Nat} {goal a : Int} {k : Nat} (h : (((k : Int) != a) && gq M k g c) = true) : oG M g c goal a (k + 1) = oG M g c goal a k + (149 + vunits (goal - (she M k c).v) (she M k c).w) := sumq_t (p := fun t => ((t : Int) != a) && gq M t g c) h
theorem oG_f {M : WorldM} {g : Int} {c : Nat} {goal a : Int} {k : Nat} (h : (((k : Int) != a) && gq M k g c) = false) : oG M g c goal a (k + 1) = oG M g c goal a k := sumq_f (p := fun t => ((t : Int) != a) && gq M t g c) h
theorem sum_filter {f : Mem → Int} {p : Nat → Bool} {e : Nat → Mem} {q : Mem → Bool} : ∀ n : Nat, sumI f ((((List.range n).filter p).map e).filter q) = sumq (fun t => q (e t) && p t) (fun t => f (e t)) n
  | 0 => rfl
  | n + 1 => by
    have ih := sum_filter (f := f) (p := p) (e := e) (q := q) n
    simp only [sumq, List.range_succ, List.filter_append, List.map_append, sumI_append, ih]
    cases h : p n <;> cases h2 : q (e n) <;> simp [h, h2, sumI]
theorem oM_task (M : WorldM) (g : Nat) (c t : Nat) (goal : Int) : oM M g c t (-1) goal = sumI (unitF M c goal) (othM M c (⟨false, t⟩, g)) := by
  simp only [oM, othM, memsM, List.filter_append, sumI_append, tasksM, groupsM, sum_filter, oT, oG]
  congr 2
  funext k
  by_cases h : k = t
  · subst h; simp
  · have h2 : ¬ (k : Int) = (t : Int) := by omega
    simp [h, h2]
theorem oM_group (M : WorldM) (g : Nat) (c h : Nat) (goal : Int) : oM M g c (-1) h goal = sumI (unitF M c goal) (othM M c (⟨true, h⟩, g)) := by
  simp only [oM, othM, memsM, List.filter_append, sumI_append, tasksM, groupsM, sum_filter, oT, oG]
  congr 2
  funext k
  by_cases e : k = h
  · subst e; simp
  · have e2 : ¬ (k : Int) = (h : Int) := by omega
    simp [e, e2]
def goalF (M : WorldM) (c : Nat) (n : Int) (lv : Mem × Nat) : Int := memT M c lv.1 + vstep n (memW M c lv.1)
/-- a level's units more -/
def waitS (M : WorldM) (c : Nat) (n : Int) (lv : Mem × Nat) : Int := n + sumI (unitF M c (goalF M c n lv)) (othM M c lv)
def waitL (M : WorldM) (c : Nat) : Int → List (Mem × Nat) → Int
  | n, [] => n
  | n, lv :: r => if 100000000 < waitS M c n lv then 0 else waitL M c (waitS M c n lv) r
/-- has any group a quota -/
def limM (M : WorldM) : Bool := (List.range M.groups.length).any (fun g => decide (0 < (grp M g).band.quota))
theorem waitL_snoc (M : WorldM) (c : Nat) (lv : Mem × Nat) (r : List (Mem × Nat)) (n : Int) (h : ¬ 100000000 < waitS M c n lv) : waitL M c n (lv :: r) = waitL M c (waitS M c n lv) r := by rw [waitL, if_neg h]
theorem waitL_cut (M : WorldM) (c : Nat) (lv : Mem × Nat) (r : List (Mem × Nat)) (n : Int) (h : 100000000 < waitS M c n lv) : waitL M c n (lv :: r) = 0 := by rw [waitL, if_pos h]
/-- virtual times are times -/
structure VOk (M : WorldM) : Prop where
  t : ∀ t, t < M.tasks.length → (tsk M t).st = 1 → 0 ≤ (tsk M t).v ∧ (tsk M t).v ≤ 100000000000000000
  g : ∀ h c : Nat, h < 8 → (grp M h).used = true → c < M.cpus.length → 0 ≤ (she M h c).v ∧ (she M h c).v ≤ 100000000000000000
  q : ∀ h, h < 8 → 0 ≤ (grp M h).band.quota
theorem vok_of {M : WorldM} (h : worldB M = true) : VOk M := by
  have F := facts_of h
  have h0 := h
  simp only [worldB, worldL, shelvesB, Bool.and_eq_true] at h
  refine ⟨fun t ht hst => ?_, fun g c hg hu hc => ?_, fun g hg => ?_⟩
  · have := List.all_eq_true.1 h.2.1.2 t (List.mem_range.2 ht)
    rw [taskB, if_neg (by omega)] at this
    simp only [taskB2, Bool.and_eq_true, timeB, inR_iff] at this
    exact this.1.2.1.1.1.1
  · have h1 := List.all_eq_true.1 h.2.2.1 g (List.mem_range.2 hg)
    have h2 := List.all_eq_true.1 h1 c (List.mem_range.2 (by rw [F.gok.she g hg hu]; exact hc))
    simp only [shelfB, shelfB1, Bool.and_eq_true, timeB, inR_iff] at h2
    exact h2.1.1.1.2
  · by_cases hu : (grp M g).used = true
    · by_cases hq : (grp M g).band.quota = 0
      · omega
      · have := F.band g hg hu hq
        simp only [bandB, bandHead, Bool.and_eq_true, inR_iff] at this
        omega
    · have := List.all_eq_true.1 h.2.1.1 g (List.mem_range.2 hg)
      rw [groupB, if_neg hu] at this
      simp only [grpZ, noBand, Bool.and_eq_true, beq_iff_eq] at this
      omega
theorem memT_bd {M : WorldM} (h : worldB M = true) {g : Int} {c : Nat} (hc : c < M.cpus.length) : ∀ m ∈ memsM M g c, 0 ≤ memT M c m ∧ memT M c m ≤ 100000000000000000
  | ⟨false, t⟩, hm => by
    obtain ⟨h1, h2⟩ := task_mem.1 hm
    simp only [tq, Bool.and_eq_true, beq_iff_eq] at h2
    exact (vok_of h).t t h1 h2.1.1
  | ⟨true, k⟩, hm => by
    obtain ⟨h1, h2⟩ := group_mem.1 hm
    have F := facts_of h
    have := F.tree.len
    simp only [gq, Bool.and_eq_true] at h2
    exact (vok_of h).g k c (by omega) h2.2.1.1 hc
section
variable {M : WorldM} {t c : Nat}
theorem Lv.tm (L : Lv M t c) {lv : Mem × Nat} (h : lv ∈ levsM M t) : 0 ≤ memT M c lv.1 ∧ memT M c lv.1 ≤ 100000000000000000 := memT_bd L.wb L.hc _ (L.ok lv h).mem
theorem Lv.ot (L : Lv M t c) (lv : Mem × Nat) : ∀ m ∈ othM M c lv, 0 ≤ memT M c m ∧ memT M c m ≤ 100000000000000000 := fun m hm => memT_bd L.wb L.hc m (List.mem_filter.1 hm).1
theorem Lv.goal (L : Lv M t c) {lv : Mem × Nat} (h : lv ∈ levsM M t) (n : Int) : 0 ≤ goalF M c n lv ∧ goalF M c n lv ≤ 123279256000000000 := by
  have h1 := L.tm h
  have h2 := vstep_bd n (memW M c lv.1)
  unfold goalF
  omega
theorem waitS_bd (L : Lv M t c) {lv : Mem × Nat} (h : lv ∈ levsM M t) {n : Int} (h0 : 0 ≤ n) (h1 : n ≤ 100000000) : 0 ≤ waitS M c n lv ∧ waitS M c n lv ≤ 1000000000000 := by
  have h2 := sumI_bd (A := 0) (B := 26000000149) (f := unitF M c (goalF M c n lv)) (l := othM M c lv) (fun m _ => unitF_bd _ _ _ _)
  have h3 := L.cnt h
  have h4 := L.n h
  unfold waitS
  omega
end
end Go.Proofs.YtccjanpdgdonmaaGreat
namespace Go.Proofs.YtccjanpdgdonmaaGreat
open Go.RowKit Go.Sort
set_option maxRecDepth 100000 in
set_option maxHeartbeats 1000000 in
theorem sVirtualUnits_any (v n : Int) (w : World) :
    Calls Tryz.prog 85 #[.int .i64 v, .int .i64 n] w fun e w' => e = .returned (.int .i64 (vunits v n)) ∧ w = w' := by
  by_cases h : inR n 1 20 = true
  · by_cases h2 : inR v 1 300000000000000000 = true
    · have hb := inR_iff.1 h
      have hb2 := inR_iff.1 h2
      have hs := step_bd n hb.1 hb.2
      have VU := Lib.hid (show vunits v n = (v + 232792560 / n - 1) / (232792560 / n) by rw [vunits, h, h2]; rfl)
      have HV := vunits_bd v n
      rw [VU.out] at HV
      have e1 : (232792560 : Int).tdiv n = 232792560 / n := Int.tdiv_eq_ediv_of_nonneg (by omega)
      have e2 : (v + 232792560 / n - 1).tdiv (232792560 / n) = (v + 232792560 / n - 1) / (232792560 / n) := Int.tdiv_eq_ediv_of_nonneg (by omega)
      go_enter Tryz.func85, Tryz.ntmps85
      go_wp2_with (first | (go_at_call 86; refine (sl1Weight_any _ _).mono ?_; rintro e w' ⟨rfl, rfl⟩; rw [h]) | (go_at_call 29; refine (sl1In_any _ _ _ _).mono ?_; rintro e w' ⟨rfl, rfl⟩; rw [h2]))
      go_ret
      exact ⟨ret_int (by rw [VU.out]), rfl⟩
    · have h2' : inR v 1 300000000000000000 = false := by simpa using h2
      go_enter Tryz.func85, Tryz.ntmps85
      go_wp2_with (first | (go_at_call 86; refine (sl1Weight_any _ _).mono ?_; rintro e w' ⟨rfl, rfl⟩; rw [h]) | (go_at_call 29; refine (sl1In_any _ _ _ _).mono ?_; rintro e w' ⟨rfl, rfl⟩; rw [h2']))
      go_ret
      exact ⟨ret_int (by rw [vunits, h, h2']; rfl), rfl⟩
  · have h' : inR n 1 20 = false := by simpa using h
    go_enter Tryz.func85, Tryz.ntmps85
    go_wp2_with (first | (go_at_call 86; refine (sl1Weight_any _ _).mono ?_; rintro e w' ⟨rfl, rfl⟩; rw [h']))
    go_ret
    exact ⟨ret_int (by rw [vunits, h']; rfl), rfl⟩
theorem lim_t {M : WorldM} {k : Nat} (hk : k < M.groups.length) (h : 0 < (grp M k).band.quota) : limM M = true := List.any_eq_true.2 ⟨k, List.mem_range.2 hk, by simpa using h⟩
theorem lim_f {M : WorldM} (h : ∀ j, j < M.groups.length → ¬ 0 < (grp M j).band.quota) : limM M = false := by
  rw [limM, List.any_eq_false]
  intro j hj
  simpa using h j (List.mem_range.1 hj)
set_option maxRecDepth 100000 in
set_option maxHeartbeats 1000000 in
theorem sl15Quotas_any (ca : Option Addr) (cc : Nat) (ta : Option Addr) (tc : Nat) (ga : Option Addr) (gc : Nat) (gh : Nat → GH) (M : WorldM) (w : World) (hs : WA w ca ta ga gh M) (hl : M.groups.length ≤ 1000000) :
    Calls Tryz.prog 56 #[.agg #[.int .i64 M.now, .slice ca M.cpus.length cc, .slice ta M.tasks.length tc, .slice ga M.groups.length gc]] w fun e w' => e = .returned (.bool (limM M)) ∧ Below w.heap.size w w' := by
  go_enter Tryz.func56, Tryz.ntmps56
  go_wp2
  refine PA.gen (P := fun W => Code.wp _ _ _ _ W) hs ?_
  intro W b1 s1 pw
  clear s1
  go_loopw [3] (fun i wr => ∃ k : Nat, k ≤ M.groups.length ∧ i = .int .i64 k ∧ (∀ j, j < k → ¬ 0 < (grp M j).band.quota) ∧ W = wr) (fun i _ => M.groups.length - (intOf i).toNat)
  case atStart => exact ⟨0, by omega, rfl, fun _ h => absurd h (by omega), rfl⟩
  case round =>
    obtain ⟨k, hk, rfl, hall, rfl⟩ := hrel
    have HA := Lib.hid hall
    clear hall
    obtain ⟨p0, p1, p2, p3, p4, p5⟩ := pw
    by_cases hlt : k < M.groups.length
    · obtain ⟨b, o, rfl, hB, c0, c1, c2, c3, c4, c5, c6, c7, c8, c9, c10, c11, c12, c13⟩ := p5.group_ hlt
      have hi0 : (0 : Int) ≤ (k : Int) := by omega
      have hi1 : (k : Int) < (M.groups.length : Int) := by omega
      clear c0 c1 c2 c3 c4 c5 c6 c7 c9 c10 c11 c12 c13
      by_cases hq : 0 < (grp M k).band.quota
      · have LT := Lib.hid (lim_t hlt hq)
        go_wp2
        go_ret
        exact ⟨ret_bool LT.out.symm, b1⟩
      · have HQ := Lib.hid hq
        have hq2 : (grp M k).band.quota ≤ 0 := by omega
        clear hq
        go_wp2
        go_roundw
        case rel => exact ⟨k + 1, by omega, by go_num, fun j hj => if e : j < k then HA.out j e else by rw [show j = k by omega]; exact HQ.out, by first | rfl | trivial⟩
        case measure => simp [intOf]; omega
    · have hkl : k = M.groups.length := by omega
      have LF := Lib.hid (lim_f (M := M) (fun j hj => HA.out j (by omega)))
      go_wp2
      go_ret
      exact ⟨ret_bool LF.out.symm, b1⟩
set_option maxRecDepth 100000 in
set_option maxHeartbeats 4000000 in
theorem sl15Others_any (ca : Option Addr) (cc : Nat) (ta : Option Addr) (tc : Nat) (ga : Option Addr) (gc : Nat) (gh : Nat → GH) (M : WorldM) (w : World) (hs : WA w ca ta ga gh M) (hT : Tree M) (hG : GOk M) (hV : VOk M) (ht : M.tasks.length ≤ 12) (g : Int) (c : Nat) (hc : c < M.cpus.length) (a b0 goal : Int) (hg0 : 0 ≤ goal) (hg1 : goal ≤ 200000000000000000) :
    Calls Tryz.prog 57 #[.agg #[.int .i64 M.now, .slice ca M.cpus.length cc, .slice ta M.tasks.length tc, .slice ga M.groups.length gc], .int .i64 g, .int .i64 c, .int .i64 a, .int .i64 b0, .int .i64 goal] w fun e w' => e = .returned (.int .i64 (oM M g c a b0 goal)) ∧ Below w.heap.size w w' := by
  have HL := Lib.hid hT.len
  have HV := Lib.hid hV
  clear hV
  go_enter Tryz.func57, Tryz.ntmps57
  go_wp2
  refine PA.gen (P := fun W => Code.wp _ _ _ _ W) hs ?_
  intro W b1 s1 pw
  clear s1
  go_loopw [13, 14] (fun n i wr => ∃ k : Nat, k ≤ M.tasks.length ∧ i = .int .i64 k ∧ n = .int .i64 (oT M g c goal a k) ∧ Below W.heap.size W wr) (fun _ i _ => M.tasks.length - (intOf i).toNat)
  case atStart => exact ⟨0, by omega, rfl, rfl, Below.refl _ _⟩
  case round =>
    obtain ⟨k, hk, rfl, rfl, hb⟩ := hrel
    have pw2 := pw.keep hb
    obtain ⟨p0, p1, p2, p3, p4, p5⟩ := pw2
    by_cases hlt : k < M.tasks.length
    · obtain ⟨b, o, rfl, hB, c0, c1, c2, c3, c4, c5, c6, c7, c8⟩ := p5.task_ hlt
      have hi0 : (0 : Int) ≤ (k : Int) := by omega
      have hi1 : (k : Int) < (M.tasks.length : Int) := by omega
      obtain ⟨n0, n1⟩ := oT_bd M g c goal a k
      go_upto_region 6 with (fail)
      refine gen1 (p := fun W => Code.wp _ _ _ _ W) ?_
      intro W2 b2 s2 kx
      have x0 := kx.cell 0
      have x1 := kx.cell 1
      have x2 := kx.cell 2
      have x3 := kx.cell 3
      have x5 := kx.cell 5
      simp at x0 x1 x2 x3 x5
      have bel := hb.andThen b2
      clear kx s2 c0 c1 c2 c3 c4 c5 c6 c7 c8 p0 p1 p2 p3 p4 p5
      cases ha : ((k : Int) != a) with
      | true =>
        cases hq : tq M k g c with
        | true =>
          have HQ := Lib.hid (show (((k : Int) != a) && tq M k g c) = true by rw [ha, hq]; rfl)
          simp only [tq, Bool.and_eq_true] at hq
          obtain ⟨⟨t1, t2⟩, t3⟩ := hq
          obtain ⟨v0, v1⟩ := HV.out.t k hlt (by simpa using t1)
          obtain ⟨u0, u1⟩ := vunits_bd (goal - (tsk M k).v) (wof (tsk M k).nice)
          go_upto_region 7 with (fail)
          go_quiet (first | (go_at_call 47; exact quiet_left (sWeightOf_any _ _)) | (go_at_call 85; exact quiet_left (sVirtualUnits_any _ _ _)))
          go_wp2
          go_roundw
          case rel => exact ⟨k + 1, by omega, by go_num, val_eq (by rw [oT_t HQ.out]; omega), bel.drewN _⟩
          case measure => simp [intOf]; omega
        | false =>
          have HQ := Lib.hid (show (((k : Int) != a) && tq M k g c) = false by rw [ha, hq]; rfl)
          simp only [tq, Bool.and_eq_false_iff] at hq
          cases h1 : ((tsk M k).st == 1) with
          | false =>
            go_wp2
            go_roundw
            case rel => exact ⟨k + 1, by omega, by go_num, val_eq (by rw [oT_f HQ.out]), bel⟩
            case measure => simp [intOf]; omega
          | true =>
            cases h2 : ((tsk M k).gr == g) with
            | false =>
              go_wp2
              go_roundw
              case rel => exact ⟨k + 1, by omega, by go_num, val_eq (by rw [oT_f HQ.out]), bel⟩
              case measure => simp [intOf]; omega
            | true =>
              have h3 : ((tsk M k).cpu == (c : Int)) = false := by simpa [h1, h2] using hq
              clear hq
              go_wp2
              go_roundw
              case rel => exact ⟨k + 1, by omega, by go_num, val_eq (by rw [oT_f HQ.out]), bel⟩
              case measure => simp [intOf]; omega
      | false =>
        have HQ := Lib.hid (show (((k : Int) != a) && tq M k g c) = false by rw [ha]; rfl)
        go_wp2
        go_roundw
        case rel => exact ⟨k + 1, by omega, by go_num, val_eq (by rw [oT_f HQ.out]), bel⟩
        case measure => simp [intOf]; omega
    · have HKL := Lib.hid (show k = M.tasks.length by omega)
      clear hk
      go_wp2
      go_loopw [13, 16] (fun n i wr2 => ∃ k2 : Nat, 1 ≤ k2 ∧ k2 ≤ 8 ∧ i = .int .i64 k2 ∧ n = .int .i64 (oT M g c goal a M.tasks.length + oG M g c goal b0 k2) ∧ Below wr.heap.size wr wr2) (fun _ i _ => 8 - (intOf i).toNat)
      case atStart => exact ⟨1, by omega, by omega, rfl, val_eq (by rw [HKL.out]; simp [oG, sumq, gq]), Below.refl _ _⟩
      case round =>
        obtain ⟨k2, hk1, hk2, rfl, rfl, hb2⟩ := hrel
        have pw3 := PA.keep ⟨p0, p1, p2, p3, p4, p5⟩ hb2
        have PW3 := Lib.hid pw3
        obtain ⟨r0, r1, r2, r3, r4, r5⟩ := pw3
        have bel := hb.andThen hb2
        obtain ⟨m0, m1⟩ := oT_bd M g c goal a M.tasks.length
        obtain ⟨n0, n1⟩ := oG_bd M g c goal b0 k2
        by_cases hlt2 : k2 < 8
        · have hlg : k2 < M.groups.length := by have := HL.out; omega
          have hj0 : (0 : Int) ≤ (k2 : Int) := by omega
          have hj1 : (k2 : Int) < (M.groups.length : Int) := by omega
          obtain ⟨b, o, rfl, hB, c0, c1, c2, c3, c4, c5, c6, c7, c8, c9, c10, c11, c12, c13⟩ := r5.group_ hlg
          clear c2 c3 c4 c5 c6 c7 c8 c9 c10 c11 c12
          cases hu : (grp M k2).used with
          | true =>
            have HU := Lib.hid hu
            have hcs : c < (grp M k2).shelves.length := by rw [hG.she k2 hlt2 hu]; exact hc
            obtain ⟨bs, os, es, hBs, f0, f1, f2, f3, f4⟩ := r5.shelf_ hlg hcs
            rw [es] at c13
            rw [hu] at c0
            clear hu
            have hk0 : (0 : Int) ≤ (c : Int) := by omega
            have hk1' : (c : Int) < ((grp M k2).shelves.length : Int) := by omega
            have hne := Lib.hid (show (k2 != 0) = true by simp; omega)
            obtain ⟨w0, w1⟩ := HV.out.g k2 c hlt2 HU.out hc
            obtain ⟨u0, u1⟩ := vunits_bd (goal - (she M k2 c).v) (she M k2 c).w
            go_upto_region 14 with (fail)
            refine gen1 (p := fun W => Code.wp _ _ _ _ W) ?_
            intro W2 b2 s2 kx
            have x1 := kx.cell 1
            have x2 := kx.cell 2
            have x3 := kx.cell 3
            simp at x1 x2 x3
            have r4 := (b2.cell (p := ⟨w.heap.size, 3, none⟩) r0).trans r4
            have c0 := (b2.cell (p := ⟨b, o + k2 * 14, none⟩) hB).trans c0
            have c1 := (b2.cell (p := ⟨b, o + k2 * 14 + 1, none⟩) hB).trans c1
            have hb2 := hb2.andThen b2
            clear kx s2 b2 r1 r2 r3 r5 f0 f1 f2 f3 f4 c13 es hBs p0 p1 p2 p3 p4 p5
            cases he : ((k2 : Int) != b0) with
            | true =>
              cases hp : (grp M k2).parent == g with
              | true =>
                cases ho : (she M k2 c).on with
                | true =>
                  have HQ := Lib.hid (show (((k2 : Int) != b0) && gq M k2 g c) = true by rw [he, gq, hne.out, HU.out, hp, ho]; rfl)
                  rw [ho] at x1
                  clear ho
                  go_wp2_with (go_at_call 85; refine (sVirtualUnits_any _ _ _).mono ?_; rintro e w' ⟨rfl, rfl⟩)
                  clear u0 u1 w0 w1
                  go_roundw
                  case rel => exact ⟨k2 + 1, by omega, by omega, by go_num, val_eq (by rw [oG_t HQ.out]; omega), hb2⟩
                  case measure => simp [intOf]; omega
                | false =>
                  have HQ := Lib.hid (show (((k2 : Int) != b0) && gq M k2 g c) = false by rw [gq, ho]; simp)
                  rw [ho] at x1
                  clear ho
                  go_wp2
                  go_roundw
                  case rel => exact ⟨k2 + 1, by omega, by omega, by go_num, val_eq (by rw [oG_f HQ.out]), hb2⟩
                  case measure => simp [intOf]; omega
              | false =>
                have HQ := Lib.hid (show (((k2 : Int) != b0) && gq M k2 g c) = false by rw [gq, hp]; simp)
                go_wp2
                go_roundw
                case rel => exact ⟨k2 + 1, by omega, by omega, by go_num, val_eq (by rw [oG_f HQ.out]), hb2⟩
                case measure => simp [intOf]; omega
            | false =>
              have HQ := Lib.hid (show (((k2 : Int) != b0) && gq M k2 g c) = false by rw [he]; rfl)
              go_wp2
              go_roundw
              case rel => exact ⟨k2 + 1, by omega, by omega, by go_num, val_eq (by rw [oG_f HQ.out]), hb2⟩
              case measure => simp [intOf]; omega
          | false =>
            have HQ := Lib.hid (show (((k2 : Int) != b0) && gq M k2 g c) = false by simp [gq, hu])
            rw [hu] at c0
            cases he : ((k2 : Int) != b0) with
            | true =>
              go_wp2
              go_roundw
              case rel => exact ⟨k2 + 1, by omega, by omega, by go_num, val_eq (by rw [oG_f HQ.out]), hb2.alloc hb2.size _⟩
              case measure => simp [intOf]; omega
            | false =>
              go_wp2
              go_roundw
              case rel => exact ⟨k2 + 1, by omega, by omega, by go_num, val_eq (by rw [oG_f HQ.out]), hb2.alloc hb2.size _⟩
              case measure => simp [intOf]; omega
        · have hj1 : (M.groups.length : Int) ≤ (k2 : Int) := by have := HL.out; omega
          go_wp2
          go_ret
          exact ⟨ret_int (by rw [oM, show M.groups.length = k2 by have := HL.out; omega]), b1.andThen bel⟩
/-- how long a task waits at most -/
def waitM (M : WorldM) (t : Int) : Int := if (lineOk M t && !limM M) = true then waitL M (tsk M t.toNat).cpu.toNat 1 (levsM M t.toNat) else 0
theorem levL_tail (m : Mem) (l : List Nat) (g : Nat) : levL m (g :: l) = (m, g) :: levL ⟨true, g⟩ l := rfl
set_option maxRecDepth 100000 in
set_option maxHeartbeats 4000000 in
theorem sTaskWait_any (ca : Option Addr) (cc : Nat) (ta : Option Addr) (tc : Nat) (ga : Option Addr) (gc : Nat) (gh : Nat → GH) (M : WorldM) (w : World) (hs : WA w ca ta ga gh M) (hF : FitG M) (t : Int) :
    Calls Tryz.prog 22 #[.agg #[.int .i64 M.now, .slice ca M.cpus.length cc, .slice ta M.tasks.length tc, .slice ga M.groups.length gc], .int .i64 t] w fun e w' => e = .returned (.int .i64 (waitM M t)) ∧ Below w.heap.size w w' := by
  go_enter Tryz.func22, Tryz.ntmps22
  go_upto_region 1 with (fail)
  refine PA.gen (P := fun W => Code.wp _ _ _ _ W) hs ?_
  intro W b1 s1 pw
  have hcm := hF.cpu
  have htm := hF.task
  have hgm := hF.group
  have PW0 := Lib.hid pw
  obtain ⟨q0, q1, q2, q3, q4, q5⟩ := pw
  clear s1
  by_cases fL : lineOk M t = true
  · have FL := Lib.hid fL
    clear fL
    have hin := FL.out
    simp only [lineOk, taskIn, Bool.and_eq_true, inR_iff, Bool.not_eq_true', beq_eq_false_iff_ne] at hin
    obtain ⟨tn, htn⟩ : ∃ tn : Nat, t = tn := ⟨t.toNat, by omega⟩
    subst htn
    rw [Int.toNat_natCast] at hin
    have htl : tn < M.tasks.length := by omega
    obtain ⟨F1', ⟨_, hst0⟩, hli⟩ := hin
    have FA := Lib.hid (facts_of F1')
    obtain ⟨gn, cn, hgr, hg8, hgu, hcu, hcl⟩ := FA.out.tk tn (by have := FA.out.t12; omega) hst0
    have HGR := Lib.hid hgr
    have HCU := Lib.hid hcu
    have HGU := Lib.hid hgu
    have L := Lib.hid (lv_of F1' htl hli hgr hg8 hgu hcu hcl)
    have LE := Lib.hid (show levsM M tn = levL ⟨false, tn⟩ (ch M gn) by rw [levsM, hgr, Int.toNat_natCast])
    have VO := Lib.hid (vok_of F1')
    clear hst0 hgr hgu hcu hli F1'
    by_cases fX : limM M = true
    · have FX := Lib.hid fX
      have HLM := FX
      clear fX
      have LN := Lib.hid (show waitM M tn = 0 by rw [waitM, HLM.out]; simp)
      go_wp2_with (first | (go_at_call 46; refine (sLine_any ca cc ta tc ga gc gh M _ q5 hF _).mono ?_; rintro e w2 ⟨rfl, hb2⟩; rw [FL.out]; have r1 := (hb2.cell (p := ⟨w.heap.size, 0, none⟩) q0).trans q1; have r2 := (hb2.cell (p := ⟨w.heap.size, 1, none⟩) q0).trans q2; have r3 := (hb2.cell (p := ⟨w.heap.size, 2, none⟩) q0).trans q3; have r4 := (hb2.cell (p := ⟨w.heap.size, 3, none⟩) q0).trans q4; have r0 := Nat.lt_of_lt_of_le q0 hb2.size) | (go_at_call 56; refine (sl15Quotas_any ca cc ta tc ga gc gh M _ (q5.keep hb2) (by have := FA.out.tree.len; omega)).mono ?_; rintro e w3 ⟨rfl, hb3⟩; rw [HLM.out]; have u1 := (hb3.cell (p := ⟨w.heap.size, 0, none⟩) r0).trans r1; have u2 := (hb3.cell (p := ⟨w.heap.size, 1, none⟩) r0).trans r2; have u3 := (hb3.cell (p := ⟨w.heap.size, 2, none⟩) r0).trans r3; have u4 := (hb3.cell (p := ⟨w.heap.size, 3, none⟩) r0).trans r4; have u0 := Nat.lt_of_lt_of_le r0 hb3.size))
      go_ret
      exact ⟨by rw [LN.out]; rfl, b1.andThen (hb2.andThen hb3)⟩
    · have FX := Lib.hid (show limM M = false by simpa only [Bool.not_eq_true] using fX)
      have HLM := FX
      clear fX
      have LN := Lib.hid (show waitM M tn = waitL M cn 1 (levsM M tn) by rw [waitM, FL.out, HLM.out, Int.toNat_natCast, HCU.out, Int.toNat_natCast]; rfl)
      have ht12 := Lib.hid (show M.tasks.length ≤ 12 by have := FA.out.t12; omega)
      obtain ⟨b, o, rfl, hB, c0, c1, c2, c3, c4, c5, c6, c7, c8⟩ := q5.task_ htl
      rw [HGR.out] at c1
      rw [HCU.out] at c2
      have hi0 : (0 : Int) ≤ (tn : Int) := by omega
      have hi1 : (tn : Int) < (M.tasks.length : Int) := by omega
      go_upto_region 3 with (first | (go_at_call 46; refine (sLine_any ca cc _ tc ga gc gh M _ q5 hF _).mono ?_; rintro e w2 ⟨rfl, hb2⟩; rw [FL.out]; have r1 := (hb2.cell (p := ⟨w.heap.size, 0, none⟩) q0).trans q1; have r2 := (hb2.cell (p := ⟨w.heap.size, 1, none⟩) q0).trans q2; have r3 := (hb2.cell (p := ⟨w.heap.size, 2, none⟩) q0).trans q3; have r4 := (hb2.cell (p := ⟨w.heap.size, 3, none⟩) q0).trans q4; have r0 := Nat.lt_of_lt_of_le q0 hb2.size) | (go_at_call 56; refine (sl15Quotas_any ca cc _ tc ga gc gh M _ (q5.keep hb2) (by have := FA.out.tree.len; omega)).mono ?_; rintro e w3 ⟨rfl, hb3⟩; rw [HLM.out]; have u1 := (hb3.cell (p := ⟨w.heap.size, 0, none⟩) r0).trans r1; have u2 := (hb3.cell (p := ⟨w.heap.size, 1, none⟩) r0).trans r2; have u3 := (hb3.cell (p := ⟨w.heap.size, 2, none⟩) r0).trans r3; have u4 := (hb3.cell (p := ⟨w.heap.size, 3, none⟩) r0).trans r4; have u0 := Nat.lt_of_lt_of_le r0 hb3.size))
      have b23 := hb2.andThen hb3
      have d0 := (b23.cell (p := ⟨b, o + tn * 9, none⟩) hB).trans c0
      have d1 := (b23.cell (p := ⟨b, o + tn * 9 + 1, none⟩) hB).trans c1
      have d2 := (b23.cell (p := ⟨b, o + tn * 9 + 2, none⟩) hB).trans c2
      have d3 := (b23.cell (p := ⟨b, o + tn * 9 + 3, none⟩) hB).trans c3
      have d4 := (b23.cell (p := ⟨b, o + tn * 9 + 4, none⟩) hB).trans c4
      have d5 := (b23.cell (p := ⟨b, o + tn * 9 + 5, none⟩) hB).trans c5
      have d6 := (b23.cell (p := ⟨b, o + tn * 9 + 6, none⟩) hB).trans c6
      have d7 := (b23.cell (p := ⟨b, o + tn * 9 + 7, none⟩) hB).trans c7
      have d8 := (b23.cell (p := ⟨b, o + tn * 9 + 8, none⟩) hB).trans c8
      have hB3 := Nat.lt_of_lt_of_le hB b23.size
      go_upto_region 4 with (fail)
      refine gen1 (p := fun W => Code.wp _ _ _ _ W) ?_
      intro W4 b4 s4 kx
      have x1 := kx.cell 1
      have x2 := kx.cell 2
      have x3 := kx.cell 3
      have x5 := kx.cell 5
      simp at x1 x2 x3 x5
      have hx := kx.lt
      have pw4 := PW0.out.keep (b23.andThen b4)
      have bel := Lib.hid (b1.andThen (b23.andThen b4))
      clear kx c0 c1 c2 c3 c4 c5 c6 c7 c8 d0 d1 d2 d3 d4 d5 d6 d7 d8 q0 q1 q2 q3 q4 q5 r0 r1 r2 r3 r4 u0 u1 u2 u3 u4 hi0 hi1 hB3 hB hs
      have hm0 : (⟨false, tn⟩, gn) ∈ levsM M tn := by rw [LE.out, ch_cons]; simp [levL]
      have G0 := Lib.hid (show 0 ≤ (tsk M tn).v + vstep 1 (wof (tsk M tn).nice) ∧ (tsk M tn).v + vstep 1 (wof (tsk M tn).nice) ≤ 123279256000000000 from L.out.goal hm0 1)
      have T0 := Lib.hid (show 0 ≤ (tsk M tn).v ∧ (tsk M tn).v ≤ 100000000000000000 from L.out.tm hm0)
      have V0 := vstep_bd 1 (wof (tsk M tn).nice)
      have S0 := Lib.hid (show 1 + oM M gn cn tn (-1) ((tsk M tn).v + vstep 1 (wof (tsk M tn).nice)) = waitS M cn 1 (⟨false, tn⟩, gn) by rw [waitS, oM_task]; rfl)
      obtain ⟨s0, s1⟩ := waitS_bd L.out hm0 (n := 1) (by omega) (by omega)
      rw [← S0.out] at s0 s1
      obtain ⟨t0, t1⟩ := T0.out
      have PW4 := Lib.hid pw4
      go_upto_region 6 with (fail)
      have p3 := pw4
      obtain ⟨p0, p1, p2, p4, p5, p6⟩ := p3
      have Q0 := fun d os => cell_regrown p1 d os
      have Q1 := fun d os => cell_regrown p2 d os
      have Q2 := fun d os => cell_regrown p4 d os
      have Q3 := fun d os => cell_regrown p5 d os
      have X2 := fun d os => cell_regrown x2 d os
      have X3 := fun d os => cell_regrown x3 d os
      have X5 := fun d os => cell_regrown x5 d os
      clear p0 p1 p2 p4 p5 p6
      refine wp_region_quiet_below (by kernel_rfl) (by kernel_rfl) ?_
      repeat (go_big_quiet_step (first | (go_at_call 47; exact regrown_left (sWeightOf_any _ _)) | (go_at_call 58; exact regrown_left (sVirtualStep_any _ _ _)) | (go_at_call 57; exact Calls.regrown_of (sl15Others_any ca cc _ tc ga gc gh M _ (PW4.out.keep (below_regrown _ _ _)).wa FA.out.tree FA.out.gok VO.out ht12.out gn cn hcl _ _ _ (by have := G0.out; omega) (by have := G0.out; omega)))))
      refine wpQuiet_nil ?_
      intro _ hw'
      obtain ⟨⟨dq, osq⟩, hw''⟩ := hw'
      subst hw''
      have hb5 := below_regrown W4 dq osq
      generalize grow (redrawn W4 dq) osq = w5 at *
      have x2 := (hb5.cell (p := ⟨w3.heap.size, 2, none⟩) hx).trans x2
      have hx := Nat.lt_of_lt_of_le hx hb5.size
      have pw5 := pw4.keep hb5
      have bel5 := Lib.hid (bel.out.andThen hb5)
      have W0E := Lib.hid (show waitM M tn = if 100000000 < waitS M cn 1 (⟨false, tn⟩, gn) then 0 else waitL M cn (waitS M cn 1 (⟨false, tn⟩, gn)) (levL ⟨true, gn⟩ (ch M gn).tail) by rw [LN.out, LE.out, ch_cons]; rfl)
      have hsub := Lib.hid (show ∀ lv ∈ levL ⟨true, gn⟩ (ch M gn).tail, lv ∈ levsM M tn by intro lv h; rw [LE.out, ch_cons]; exact List.mem_cons_of_mem _ h)
      clear Q0 Q1 Q2 Q3 X2 X3 X5 x1 x3 x5 pw4 PW4
      rw [S0.out] at s0 s1 ⊢
      go_wp2
      go_loopw [6, 7] (fun g nn wr => ∃ (k : Nat) (v : Int), k < 8 ∧ (grp M k).used = true ∧ 0 ≤ v ∧ v ≤ 1000000000000 ∧ (waitM M tn = if 100000000 < v then 0 else waitL M cn v (levL ⟨true, k⟩ (ch M k).tail)) ∧ (∀ lv ∈ levL ⟨true, k⟩ (ch M k).tail, lv ∈ levsM M tn) ∧ g = .int .i64 k ∧ nn = .int .i64 v ∧ Below w5.heap.size w5 wr) (fun g _ _ => dp M (intOf g).toNat)
      case atStart => exact ⟨gn, _, hg8, HGU.out, s0, s1, W0E.out, hsub.out, rfl, rfl, Below.refl _ _⟩
      case round =>
        obtain ⟨k, v, hk, huk, v0, v1, hwe, hmem, rfl, rfl, hb⟩ := hrel
        have HU := Lib.hid huk
        have HWE := Lib.hid hwe
        have HMEM := Lib.hid hmem
        clear huk hwe hmem
        have y2 := (hb.cell (p := ⟨w3.heap.size, 2, none⟩) hx).trans x2
        have hy := Nat.lt_of_lt_of_le hx hb.size
        have pw6 := pw5.keep hb
        by_cases hcut : 100000000 < v
        · have SH := Lib.hid (show (0 : Int) = waitM M tn by rw [HWE.out, if_pos hcut])
          by_cases h0 : k = 0
          · subst h0
            go_wp2
            go_ret
            exact ⟨by rw [← SH.out]; rfl, bel5.out.andThen hb⟩
          · have hne2 : ((k : Int) != 0) = true := by simpa using h0
            go_wp2
            go_ret
            exact ⟨by rw [← SH.out]; rfl, bel5.out.andThen hb⟩
        · by_cases h0 : k = 0
          · have SH := Lib.hid (show v = waitM M tn by rw [HWE.out, if_neg hcut, h0, ch_zero]; rfl)
            have hcut2 : v ≤ 100000000 := by omega
            subst h0
            go_wp2
            go_ret
            exact ⟨by rw [← SH.out]; rfl, bel5.out.andThen hb⟩
          · obtain ⟨hp1, hp2, hp3, hp4⟩ := FA.out.tree.up k hk HU.out h0
            have hcut2 : v ≤ 100000000 := by omega
            have hlg : k < M.groups.length := by have := FA.out.tree.len; omega
            have hcs : cn < (grp M k).shelves.length := by rw [FA.out.gok.she k hk HU.out]; exact hcl
            have HT := Lib.hid (show levL ⟨true, k⟩ (ch M k).tail = (⟨true, k⟩, par M k) :: levL ⟨true, par M k⟩ (ch M (par M k)).tail by rw [FA.out.tree.ch_step hk HU.out h0, List.tail_cons, ch_cons M (par M k)]; rfl)
            have hm1 : (⟨true, k⟩, par M k) ∈ levsM M tn := HMEM.out _ (by rw [HT.out]; simp)
            have G1 := Lib.hid (show 0 ≤ (she M k cn).v + vstep v (she M k cn).w ∧ (she M k cn).v + vstep v (she M k cn).w ≤ 123279256000000000 from L.out.goal hm1 v)
            obtain ⟨t2, t3⟩ := (show 0 ≤ (she M k cn).v ∧ (she M k cn).v ≤ 100000000000000000 from L.out.tm hm1)
            have V1 := vstep_bd v (she M k cn).w
            have S1 := Lib.hid (show v + oM M (par M k) cn (-1) k ((she M k cn).v + vstep v (she M k cn).w) = waitS M cn v (⟨true, k⟩, par M k) by rw [waitS, oM_group]; rfl)
            obtain ⟨s2, s3⟩ := waitS_bd L.out hm1 (n := v) v0 hcut2
            rw [← S1.out] at s2 s3
            have HP1 := Lib.hid hp1
            have HP3 := Lib.hid hp3
            have HP4 := Lib.hid hp4
            have hne2 : ((k : Int) != 0) = true := by simpa using h0
            have hj0 : (0 : Int) ≤ (k : Int) := by omega
            have hj1 : (k : Int) < (M.groups.length : Int) := by omega
            have hk0 : (0 : Int) ≤ (cn : Int) := by omega
            have hk1 : (cn : Int) < ((grp M k).shelves.length : Int) := by omega
            have HE := Lib.hid (show waitM M tn = if 100000000 < waitS M cn v (⟨true, k⟩, par M k) then 0 else waitL M cn (waitS M cn v (⟨true, k⟩, par M k)) (levL ⟨true, par M k⟩ (ch M (par M k)).tail) by rw [HWE.out, if_neg hcut, HT.out]; rfl)
            have HM2 := Lib.hid (show ∀ lv ∈ levL ⟨true, par M k⟩ (ch M (par M k)).tail, lv ∈ levsM M tn from fun lv h => HMEM.out lv (by rw [HT.out]; exact List.mem_cons_of_mem _ h))
            have PW6 := Lib.hid pw6
            obtain ⟨p0, p1, p2, p4, p5, p6⟩ := pw6
            obtain ⟨bg, og, rfl, hBg, g0, g1, g2, g3, g4, g5, g6, g7, g8, g9, g10, g11, g12, g13⟩ := p6.group_ hlg
            obtain ⟨bs, os, es, hBs, f0, f1, f2, f3, f4⟩ := p6.shelf_ hlg hcs
            rw [es] at g13
            rw [hp1] at g1
            clear es hp1 hp3 hp4 g0 g2 g3 g4 g5 g6 g7 g8 g9 g10 g11 g12 h0 hm1 hcut
            go_upto_region 10 with (fail)
            have bd : Below wr.heap.size wr wr.drew := ⟨rfl, rfl, rfl, Nat.le_refl _, fun _ _ => rfl⟩
            have Qp5 := fun d os => cell_regrown p5 d os
            have Qg13 := fun d os => cell_regrown g13 d os
            have Qf0 := fun d os => cell_regrown f0 d os
            have Qf1 := fun d os => cell_regrown f1 d os
            have Qf2 := fun d os => cell_regrown f2 d os
            have Qf3 := fun d os => cell_regrown f3 d os
            have Qf4 := fun d os => cell_regrown f4 d os
            have Qy2 := fun d os => cell_regrown y2 d os
            refine region_S 11 [0, 0, 0, 0, 0, 0, 0, 0, 0, 0, 1, 2] [0, 1, 2, 3, 4, 5, 6, 7, 8, 9, 10, 11] (by kernel_rfl) (by kernel_rfl) (by kernel_rfl) rfl (by kernel_rfl) (by kernel_rfl) ?_
            simp only [permL, List.getElem?_cons_zero, List.getElem?_cons_succ, Option.toList_some, List.cons_append, List.nil_append]
            repeat (first | (refine wpS_skip (by rfl) ?_; simp only [Act.put, List.setIfInBounds_toArray, List.set_cons_zero, List.set_cons_succ]) | (refine wpS_det (by rfl) (fun K hK => ?_); go_big_quiet_op; refine hK _ ?_; clear hK K))
            refine wpS_bar (by rfl) (fun K hK => ?_)
            go_big_op
            refine hK _ _ (regrown_of_below (bd.andThen ((Below.refl _ _).alloc (Nat.le_refl _) _))) ?_
            clear hK K
            refine wpS_end (by rfl) (fun K hK => ?_)
            go_big_op
            refine hK _ _ ?_
            clear hK K
            refine wpS_nil ?_
            refine gen1d (p := fun W => Exit.then _ _ Exit.normal _ W) ?_
            intro W7 b7 s7 kz
            have z2 := kz.cell 2
            have z3 := kz.cell 3
            simp at z2 z3
            have hz := kz.lt
            have y2 := (b7.cell (p := ⟨w3.heap.size, 2, none⟩) hy).trans y2
            have PW7 := Lib.hid (PW6.out.keep b7)
            have g1 := (b7.cell (p := ⟨bg, og + k * 14 + 1, none⟩) hBg).trans g1
            have p1 := (b7.cell (p := ⟨w.heap.size, 0, none⟩) p0).trans p1
            have p2 := (b7.cell (p := ⟨w.heap.size, 1, none⟩) p0).trans p2
            have p4 := (b7.cell (p := ⟨w.heap.size, 2, none⟩) p0).trans p4
            have p5 := (b7.cell (p := ⟨w.heap.size, 3, none⟩) p0).trans p5
            have HBb := Lib.hid (hb.andThen b7)
            clear Qp5 Qg13 Qf0 Qf1 Qf2 Qf3 Qf4 Qy2 f0 f1 f2 f3 f4 g13 bd kz hb
            go_upto_region 12 with (fail)
            have P1 := fun d os => cell_regrown p1 d os
            have P2 := fun d os => cell_regrown p2 d os
            have P4 := fun d os => cell_regrown p4 d os
            have P5 := fun d os => cell_regrown p5 d os
            have Y2 := fun d os => cell_regrown y2 d os
            have Z2 := fun d os => cell_regrown z2 d os
            have Z3 := fun d os => cell_regrown z3 d os
            clear p0 p1 p2 p4 p5 g1 y2 z2 z3
            refine wp_region_quiet_below (by kernel_rfl) (by kernel_rfl) ?_
            repeat (go_big_quiet_step (first | (go_at_call 58; exact regrown_left (sVirtualStep_any _ _ _)) | (go_at_call 57; exact Calls.regrown_of (sl15Others_any ca cc _ tc _ gc gh M _ (PW7.out.keep (below_regrown _ _ _)).wa FA.out.tree FA.out.gok VO.out ht12.out (par M k) cn hcl _ _ _ (by have := G1.out; omega) (by have := G1.out; omega)))))
            refine wpQuiet_nil ?_
            intro _ hw'
            obtain ⟨⟨dq, osq⟩, hw''⟩ := hw'
            subst hw''
            have hb8 := below_regrown W7 dq osq
            generalize grow (redrawn W7 dq) osq = w8 at *
            rw [S1.out] at s2 s3 ⊢
            go_wp2
            go_roundw
            case rel => exact ⟨par M k, _, hp2, HP3.out, s2, s3, HE.out, HM2.out, rfl, rfl, HBb.out.andThen hb8⟩
            case measure => simp [intOf]; have := HP4.out; omega
  · have FL := Lib.hid (show lineOk M t = false by simpa only [Bool.not_eq_true] using fL)
    clear fL
    have LN := Lib.hid (show waitM M t = 0 by rw [waitM, if_neg (by rw [FL.out]; simp)])
    go_wp2_with (go_at_call 46; refine (sLine_any ca cc ta tc ga gc gh M _ q5 hF _).mono ?_; rintro e w2 ⟨rfl, hb2⟩; rw [FL.out]; have r1 := (hb2.cell (p := ⟨w.heap.size, 0, none⟩) q0).trans q1; have r2 := (hb2.cell (p := ⟨w.heap.size, 1, none⟩) q0).trans q2; have r3 := (hb2.cell (p := ⟨w.heap.size, 2, none⟩) q0).trans q3; have r4 := (hb2.cell (p := ⟨w.heap.size, 3, none⟩) q0).trans q4; have r0 := Nat.lt_of_lt_of_le q0 hb2.size)
    go_ret
    exact ⟨by rw [LN.out]; rfl, b1.andThen hb2⟩
end Go.Proofs.YtccjanpdgdonmaaGreat
namespace Go.Proofs.YtccjanpdgdonmaaGreat
open Go.RowKit Go.Sort
attribute [local go_sem] Oper.semAt_some
set_option maxHeartbeats 1000000 in
theorem iVirtualUnits_any (v n : Int) (w : World) :
    Calls Tryz.prog 61 #[.int .i64 v, .int .i64 n] w fun e w' => e = .returned (.int .i64 (vunits v n)) ∧ Below w.heap.size w w' := by
  by_cases h2 : inR v 1 300000000000000000 = true
  · by_cases h : inR n 1 20 = true
    · have hb := inR_iff.1 h
      have hb2 := inR_iff.1 h2
      have hs := step_bd n hb.1 hb.2
      have VU := Lib.hid (show vunits v n = (v + 232792560 / n - 1) / (232792560 / n) by rw [vunits, h, h2]; rfl)
      have HV := vunits_bd v n
      rw [VU.out] at HV
      have e2 : (v + 232792560 / n - 1).tdiv (232792560 / n) = (v + 232792560 / n - 1) / (232792560 / n) := Int.tdiv_eq_ediv_of_nonneg (by omega)
      have hat := stepsA_at h
      have hsz := stepsA_size 21
      go_enter Tryz.func61, Tryz.ntmps61
      go_upto_region 3 with (first | (go_at_call 87; refine (iWeightOk_any _ _).mono ?_; rintro e w' ⟨rfl, rfl⟩; rw [h]) | (go_at_call 77; refine (iInRange_any _ _ _ _).mono ?_; rintro e w' ⟨rfl, rfl⟩; rw [h2]))
      go_wp2_with fail
      refine (iSteps_any _).mono ?_
      rintro e w3 ⟨rfl, hb3⟩
      rw [stepsV]
      generalize stepsA 21 = C at hat hsz ⊢
      have hix : ∀ w, (Instr.index 120 (.agg C) (.int .i64 n)).run Tryz.prog w = .ok (.int .i64 (232792560 / n)) w := by
        exact run_index_row 120 3 21 _ C .i64 n _ (by kernel_rfl) (by omega) (by kernel_rfl) (show _ = some (.int .i64) by kernel_rfl) rfl hat
      clear hat hsz
      go_wp2
      go_ret
      exact ⟨ret_int (by rw [VU.out]), hb3⟩
    · have h' : inR n 1 20 = false := by simpa using h
      go_enter Tryz.func61, Tryz.ntmps61
      go_wp2_with (first | (go_at_call 87; refine (iWeightOk_any _ _).mono ?_; rintro e w' ⟨rfl, rfl⟩; rw [h']) | (go_at_call 77; refine (iInRange_any _ _ _ _).mono ?_; rintro e w' ⟨rfl, rfl⟩; rw [h2]))
      go_ret
      exact ⟨ret_int (by rw [vunits, h']; rfl), Below.refl _ _⟩
  · have h2' : inR v 1 300000000000000000 = false := by simpa using h2
    go_enter Tryz.func61, Tryz.ntmps61
    go_wp2_with (first | (go_at_call 77; refine (iInRange_any _ _ _ _).mono ?_; rintro e w' ⟨rfl, rfl⟩; rw [h2']))
    go_ret
    exact ⟨ret_int (by rw [vunits, h2', Bool.and_false]; rfl), Below.refl _ _⟩
set_option maxRecDepth 100000 in
set_option maxHeartbeats 1000000 in
theorem iLimited_any (p : Nat) (ca : Option Addr) (cc : Nat) (ta : Option Addr) (tc : Nat) (ga : Option Addr) (gc : Nat) (gh : Nat → GH) (M : WorldM) (w : World) (hs : PA w p ca cc ta tc ga gc gh M) (hl : M.groups.length = 8) (hq : ∀ h, h < 8 → 0 ≤ (grp M h).band.quota) :
    Calls Tryz.prog 59 #[.pointer (some ⟨p, 0, none⟩)] w fun e w' => e = .returned (.bool (limM M)) ∧ Below w.heap.size w w' := by
  have HQ := Lib.hid hq
  have HL := Lib.hid hl
  clear hl hq
  have PW := Lib.hid hs
  obtain ⟨p0, p1, p2, p3, p4, p5⟩ := hs
  go_enter Tryz.func59, Tryz.ntmps59
  go_wp2
  go_loopw [9] (fun i wr => ∃ k : Nat, k ≤ M.groups.length ∧ i = .int .i64 k ∧ (∀ j, j < k → ¬ 0 < (grp M j).band.quota) ∧ Below w.heap.size w wr) (fun i _ => M.groups.length - (intOf i).toNat)
  case atStart => exact ⟨0, by omega, rfl, fun _ h => absurd h (by omega), Below.refl _ _⟩
  case round =>
    obtain ⟨k, hk, rfl, hall, hb⟩ := hrel
    have HA := Lib.hid hall
    clear hall
    have pw2 := PW.out.keep hb
    by_cases hlt : k < M.groups.length
    · obtain ⟨b, o, e0, hB, _⟩ := pw2.wa.group_ hlt
      have hi0 : (0 : Int) ≤ (k : Int) := by omega
      have hi1 : (k : Int) < (M.groups.length : Int) := by omega
      have hq0 := HQ.out k (by have := HL.out; omega)
      have hk9 : (k : Int) < 9 := by have := HL.out; omega
      by_cases hz : (grp M k).band.quota = 0
      · have hz2 : ¬ 0 < (grp M k).band.quota := by omega
        have HZ := Lib.hid hz
        have HZ2 := Lib.hid hz2
        clear hz hz2 hq0
        go_wp2_with (go_at_call 45; refine (iQuota_any p ca cc ta tc ga gc gh M _ pw2 k b o e0 hlt).mono ?_; rintro e w' ⟨rfl, rfl⟩; rw [if_pos HZ.out])
        refine ⟨⟨_, _, _, ⟨k + 1, by omega, ?_, fun j hj => ?_⟩, rfl, rfl, rfl⟩, by simp [intOf]; omega⟩
        · go_num
        · by_cases e : j < k
          · exact HA.out j e
          · rw [show j = k by omega]; exact HZ2.out
      · have LT := Lib.hid (lim_t hlt (show 0 < (grp M k).band.quota by omega))
        have HZ := Lib.hid hz
        clear hz hq0
        go_wp2_with (go_at_call 45; refine (iQuota_any p ca cc ta tc ga gc gh M _ pw2 k b o e0 hlt).mono ?_; rintro e w' ⟨rfl, rfl⟩; rw [if_neg HZ.out])
        go_ret
        exact ⟨ret_bool LT.out.symm, hb⟩
    · have hkl : k = M.groups.length := by omega
      have LF := Lib.hid (lim_f (M := M) (fun j hj => HA.out j (by omega)))
      go_wp2
      go_ret
      exact ⟨ret_bool LF.out.symm, hb⟩
/-- one result in a box -/
theorem results_cell1 {fn : Func} {p : Tmp} {tmps : Array Value} {w : World} {g : Nat} {v : Value} (h : fn.results = #[.cell p 3]) (hp : tmps.getD p undef = .pointer (some ⟨g, 0, none⟩)) (hg : Boxed w g 3 v) : (results fn tmps).run Tryz.prog w = .ok v w := by
  have hp' : tmps[p]?.getD undef = .pointer (some ⟨g, 0, none⟩) := by simpa using hp
  have hagg : (isAgg 3).run Tryz.prog w = .ok false w := by
    unfold isAgg
    rw [Sem.run_bind, run_underlying Tryz.underlying3 w]
    rfl
  have hc := hg.cell
  simp [results, h, hp', asAddr, loadVar, Sem.run_bind, hagg, hc]
theorem PA.genB {w : World} {ca : Option Addr} {cc : Nat} {ta : Option Addr} {tc : Nat} {ga : Option Addr} {gc : Nat} {gh : Nat → GH} {M : WorldM} (hw : WA w ca ta ga gh M) {t t1 : TypeId} {v : Value} {P : World → Prop}
    (h : ∀ W0 W, Below w.heap.size w W0 → W0.heap.size = w.heap.size + 1 → PA W0 w.heap.size ca cc ta tc ga gc gh M → Below W0.heap.size W0 W → W.heap.size = w.heap.size + 2 → Boxed W (w.heap.size + 1) t1 v → P W) :
    P ((w.alloc (.cells #[.int .i64 M.now, .slice ca M.cpus.length cc, .slice ta M.tasks.length tc, .slice ga M.groups.length gc] t)).alloc (.cells #[v] t1)) := by
  refine PA.gen (t := t) (P := fun W => P (W.alloc (.cells #[v] t1))) hw fun W b s k => ?_
  refine h W _ b s k ((Below.refl _ _).alloc (Nat.le_refl _) _) (by simp [s]) ?_
  have := Boxed.new W t1 v
  rwa [s] at this
section
variable {o : Oper} {i : Operand} {a : Act} {w : World} {M : WorldM} {c : Nat} {m : Mem}
set_option maxRecDepth 100000 in
theorem invq_weight (hop : o.op = .call { callee := .invoke i "loop.example/stint/impl.weight", args := #[], argTypes := #[] }) (hv : a.eval i = memV M c m) :
    ∀ w', (∃ p : Regrown, w' = grow (redrawn w p.d) p.os) → o.quietAt Tryz.prog a (fun w' => ∃ p : Regrown, w' = grow (redrawn w p.d) p.os) w' (.int .i64 (memW M c m)) := by
  rintro _ ⟨⟨d, os⟩, rfl⟩
  obtain ⟨g, s⟩ := m
  cases g with
  | false =>
    have hv2 : a.eval i = .iface 113 (tmV s (tsk M s)) := hv
    have q := tm_weight
    have e := enters_of Tryz.func168 (by kernel_rfl) rfl
    unfold Oper.quietAt
    simp only [execOp, hop, resolve, hv2, Sem.run_bind, Sem.run_pure, Result.andThen_ok, invoke, List.map_toArray, List.map_nil, Array.append_empty]
    simp [Sem.run_bind, run_program, go_sem]
    rw [q]
    show Oper.quietUpon Tryz.prog _ _ _ ((callFunc 168 #[tmV s (tsk M s)]).run Tryz.prog _)
    rw [e]
    exact ⟨rfl, Calls.regrown_of (iTmWeight_any _ _ _)⟩
  | true =>
    have hv2 : a.eval i = .iface 119 (gmV s (she M s c)) := hv
    have q := gm_weight
    have e := enters_of Tryz.func171 (by kernel_rfl) rfl
    unfold Oper.quietAt
    simp only [execOp, hop, resolve, hv2, Sem.run_bind, Sem.run_pure, Result.andThen_ok, invoke, List.map_toArray, List.map_nil, Array.append_empty]
    simp [Sem.run_bind, run_program, go_sem]
    rw [q]
    show Oper.quietUpon Tryz.prog _ _ _ ((callFunc 171 #[gmV s (she M s c)]).run Tryz.prog _)
    rw [e]
    exact ⟨rfl, Calls.regrown_of (iGmWeight_any _ _ _)⟩
set_option maxRecDepth 100000 in
theorem invq_time (hop : o.op = .call { callee := .invoke i "loop.example/stint/impl.time", args := #[], argTypes := #[] }) (hv : a.eval i = memV M c m) :
    ∀ w', (∃ p : Regrown, w' = grow (redrawn w p.d) p.os) → o.quietAt Tryz.prog a (fun w' => ∃ p : Regrown, w' = grow (redrawn w p.d) p.os) w' (.int .i64 (memT M c m)) := by
  rintro _ ⟨⟨d, os⟩, rfl⟩
  obtain ⟨g, s⟩ := m
  cases g with
  | false =>
    have hv2 : a.eval i = .iface 113 (tmV s (tsk M s)) := hv
    have q := tm_time
    have e := enters_of Tryz.func167 (by kernel_rfl) rfl
    unfold Oper.quietAt
    simp only [execOp, hop, resolve, hv2, Sem.run_bind, Sem.run_pure, Result.andThen_ok, invoke, List.map_toArray, List.map_nil, Array.append_empty]
    simp [Sem.run_bind, run_program, go_sem]
    rw [q]
    show Oper.quietUpon Tryz.prog _ _ _ ((callFunc 167 #[tmV s (tsk M s)]).run Tryz.prog _)
    rw [e]
    exact ⟨rfl, Calls.regrown_of (iTmTime_any _ _ _)⟩
  | true =>
    have hv2 : a.eval i = .iface 119 (gmV s (she M s c)) := hv
    have q := gm_time
    have e := enters_of Tryz.func170 (by kernel_rfl) rfl
    unfold Oper.quietAt
    simp only [execOp, hop, resolve, hv2, Sem.run_bind, Sem.run_pure, Result.andThen_ok, invoke, List.map_toArray, List.map_nil, Array.append_empty]
    simp [Sem.run_bind, run_program, go_sem]
    rw [q]
    show Oper.quietUpon Tryz.prog _ _ _ ((callFunc 170 #[gmV s (she M s c)]).run Tryz.prog _)
    rw [e]
    exact ⟨rfl, Calls.regrown_of (iGmTime_any _ _ _)⟩
end
set_option maxRecDepth 100000 in
set_option maxHeartbeats 4000000 in
theorem iTaskWait_any (ca : Option Addr) (cc : Nat) (ta : Option Addr) (tc : Nat) (ga : Option Addr) (gc : Nat) (gh : Nat → GH) (M : WorldM) (w : World) (hs : WA w ca ta ga gh M) (hF : FitG M) (hx : NextOk M) (t : Int) :
    Calls Tryz.prog 23 #[.agg #[.int .i64 M.now, .slice ca M.cpus.length cc, .slice ta M.tasks.length tc, .slice ga M.groups.length gc], .int .i64 t] w fun e w' => e = .returned (.int .i64 (waitM M t)) ∧ Below w.heap.size w w' := by
  have HX := Lib.hid hx
  clear hx
  refine (callsIn_wide (n := 4)).1 ?_
  refine callsIn_of_wp_marks Tryz.func23 rfl trivial ?_ rfl
  simp only [Tryz.ntmps23, List.size_toArray, List.length_cons, List.length_nil, Nat.reduceAdd, Nat.reduceSub, Array.replicate_succ, Array.replicate_zero, List.push_toArray, List.append_toArray, List.nil_append, List.cons_append]
  refine wpIn_wide.2 ?_
  go_upto_region 1 with (fail)
  refine PA.genB (P := fun W => Code.wp _ _ _ _ W) hs ?_
  intro Wz W bz sz pwz bzw s1 bt0
  have b1 := bz.andThen bzw
  have pw := pwz.keep bzw
  have PWz := Lib.hid pwz
  clear pwz
  have t4 := bt0.cell
  have hcm := hF.cpu
  have htm := hF.task
  have hgm := hF.group
  have PW0 := Lib.hid pw
  obtain ⟨q0, q1, q2, q3, q4, q5⟩ := pw
  clear s1
  by_cases fL : lineOk M t = true
  · have FL := Lib.hid fL
    clear fL
    have hin := FL.out
    simp only [lineOk, taskIn, Bool.and_eq_true, inR_iff, Bool.not_eq_true', beq_eq_false_iff_ne] at hin
    obtain ⟨tn, htn⟩ : ∃ tn : Nat, t = tn := ⟨t.toNat, by omega⟩
    subst htn
    rw [Int.toNat_natCast] at hin
    have htl : tn < M.tasks.length := by omega
    obtain ⟨F1', ⟨_, hst0⟩, hli⟩ := hin
    have FA := Lib.hid (facts_of F1')
    obtain ⟨gn, cn, hgr, hg8, hgu, hcu, hcl⟩ := FA.out.tk tn (by have := FA.out.t12; omega) hst0
    have L := Lib.hid (lv_of F1' htl hli hgr hg8 hgu hcu hcl)
    have HGR := Lib.hid hgr
    have HCU := Lib.hid hcu
    have HGU := Lib.hid hgu
    have VO := Lib.hid (vok_of F1')
    clear hst0 hgr hgu hcu hli F1'
    by_cases fX : limM M = true
    · have FX := Lib.hid fX
      have HLM := FX
      clear fX
      have LN := Lib.hid (show waitM M tn = 0 by rw [waitM, HLM.out]; simp)
      go_wp2_with (first | (go_at_call 50; refine (iLine_any ca cc ta tc ga gc gh M _ q5 hF HX.out _).mono ?_; rintro e w2 ⟨rfl, hb2⟩; rw [FL.out]; have r1 := (hb2.cell (p := ⟨w.heap.size, 0, none⟩) q0).trans q1; have r2 := (hb2.cell (p := ⟨w.heap.size, 1, none⟩) q0).trans q2; have r3 := (hb2.cell (p := ⟨w.heap.size, 2, none⟩) q0).trans q3; have r4 := (hb2.cell (p := ⟨w.heap.size, 3, none⟩) q0).trans q4; have r0 := Nat.lt_of_lt_of_le q0 hb2.size; have k4 : Boxed w2 _ _ _ := (hb2.block _ bt0.lt).trans bt0) | (go_at_call 59; refine (iLimited_any w.heap.size ca cc ta tc ga gc gh M _ (PW0.out.keep hb2) FA.out.tree.len VO.out.q).mono ?_; rintro e w3 ⟨rfl, hb3⟩; rw [HLM.out]; have k5 : Boxed w3 _ _ _ := (hb3.block _ k4.lt).trans k4; have r5b := k5.cell; have f5b := k5.frozen))
      refine postM_ret (results_cell1 rfl rfl (k5.set _)) rfl ?_
      exact ⟨by rw [LN.out], (b1.andThen (hb2.andThen hb3)).setCell (p := ⟨w.heap.size + 1, 0, none⟩) (Nat.le_succ _) _⟩
    · have FX := Lib.hid (show limM M = false by simpa only [Bool.not_eq_true] using fX)
      have HLM := FX
      clear fX
      have LN := Lib.hid (show waitM M tn = waitL M cn 1 (levsM M tn) by rw [waitM, FL.out, HLM.out, Int.toNat_natCast, HCU.out, Int.toNat_natCast]; rfl)
      go_upto_region 3 with (first | (go_at_call 50; refine (iLine_any ca cc ta tc ga gc gh M _ q5 hF HX.out _).mono ?_; rintro e w2 ⟨rfl, hb2⟩; rw [FL.out]; have r1 := (hb2.cell (p := ⟨w.heap.size, 0, none⟩) q0).trans q1; have r2 := (hb2.cell (p := ⟨w.heap.size, 1, none⟩) q0).trans q2; have r3 := (hb2.cell (p := ⟨w.heap.size, 2, none⟩) q0).trans q3; have r4 := (hb2.cell (p := ⟨w.heap.size, 3, none⟩) q0).trans q4; have r0 := Nat.lt_of_lt_of_le q0 hb2.size; have k4 : Boxed w2 _ _ _ := (hb2.block _ bt0.lt).trans bt0) | (go_at_call 59; refine (iLimited_any w.heap.size ca cc ta tc ga gc gh M _ (PW0.out.keep hb2) FA.out.tree.len VO.out.q).mono ?_; rintro e w3 ⟨rfl, hb3⟩; rw [HLM.out]; have k5 : Boxed w3 _ _ _ := (hb3.block _ k4.lt).trans k4))
      go_upto_region 4 with (fail)
      refine gen1 (p := fun W => Code.wp _ _ _ _ W) ?_
      intro W3 b3 s3 kt
      have hb23 := hb2.andThen hb3
      have bel3 := Lib.hid (b1.andThen (hb23.andThen b3))
      have hr1 : Boxed W3 (w.heap.size + 1) 3 (.int .i64 0) := (b3.block _ k5.lt).trans k5
      go_wp2_with (go_at_call 51; refine (iLevels_any _ _ _).mono ?_; rintro e w' ⟨rfl, rfl⟩)
      refine gen2 (p := fun W => Code.wp _ _ _ _ W) ?_
      intro W5 b5 s5 kw kt2
      rw [s3] at kw kt2
      have w1 := kw.cell 0
      have w2' := kt2.cell 0
      simp at w1 w2'
      have bel5 := Lib.hid (bel3.out.andThen b5)
      have bt1 : Boxed W5 (w.heap.size + 1) 3 (.int .i64 0) := (b5.block _ hr1.lt).trans hr1
      have bt2 : Boxed W5 w3.heap.size 3 (.int .i64 1) := (b5.block _ (by omega)).trans kt
      have hw3 : w.heap.size + 1 < w3.heap.size := k5.lt
      have hrun := levels_runs w.heap.size ca cc ta tc ga gc gh M Wz W5 PWz.out (bzw.andThen (hb23.andThen (b3.andThen b5))) tn gn cn L.out htl HGR.out HCU.out hg8 HGU.out (w3.heap.size + 1) (w3.heap.size + 1 + 1) (fun k => k = w.heap.size + 1 ∨ k = w3.heap.size) (fun k e => by have := b3.size; rcases e with rfl | rfl <;> omega) w1 w2'
      generalize hT2e : w3.heap.size = T2 at *
      refine (wpIn_wide (n := 4)).1 ?_
      refine wp_runs (gf := 83) (lb := #[.pointer (some ⟨T2 + 1, 0, none⟩), .pointer (some ⟨T2 + 1 + 1, 0, none⟩)]) rfl (enters_of Tryz.func83 (by kernel_rfl) rfl) hrun (Below.refl _ _) (fun k e => by rcases e with rfl | rfl <;> omega)
        (fun pre X => ∃ v : Int, Boxed X (w.heap.size + 1) 3 (.int .i64 0) ∧ Boxed X T2 3 (.int .i64 v) ∧ 0 ≤ v ∧ v ≤ 100000000 ∧ (∀ r, levsM M tn = pre.map LevV.lv ++ r → waitL M cn 1 (levsM M tn) = waitL M cn v r) ∧ Below w.heap.size w X)
        (fun c _ X => c = .ret ∧ waitM M tn = 0 ∧ Boxed X (w.heap.size + 1) 3 (.int .i64 0) ∧ Below w.heap.size w X) ?hI ?hIx ?h0 ?round ?done ?stop
      case hI =>
        rintro s A C row ⟨v, h1, h2, h3, h4, h5, h6⟩ hg hr
        exact ⟨v, h1.kept hg (fun e => by have := hr _ e.symm; omega), h2.kept hg (fun e => by have := hr _ e.symm; omega), h3, h4, h5, h6.grown hg (by have := h6.size; omega) (fun k e => by have := hr k e; have := bel5.out.size; omega)⟩
      case hIx =>
        rintro c s A C row ⟨h1, h2, h3, h4⟩ hg hr
        exact ⟨h1, h2, h3.kept hg (fun e => by have := hr _ e.symm; omega), h4.grown hg (by have := h4.size; omega) (fun k e => by have := hr k e; have := bel5.out.size; omega)⟩
      case h0 => exact ⟨1, bt1, bt2, by omega, by omega, fun r e => by rw [e]; rfl, bel5.out⟩
      case stop =>
        rintro D c pre X hD _ ⟨rfl, h2, h3, h4⟩ hK
        gi_wp2
        refine postM_retD (D := D) hK rfl (results_cell1 rfl rfl (h3.kept (grownBy_putObj' _ D _) (fun e => by cases e; have := bt1.lt; omega))) ?_
        exact ⟨by rw [h2], h4.grown (grownBy_putObj' _ D _) (by have := h4.size; simpa using this) (fun k e => by cases e; have := bel5.out.size; omega)⟩
      case done =>
        rintro D xs X hD hxs ⟨v, i1, i2, i3, i4, i5, i6⟩ hK
        have VE := Lib.hid (show waitM M tn = v by rw [LN.out, i5 [] (by rw [hxs]; simp)]; rfl)
        have z1 := i1.cell
        have z2 := i2.cell
        have f1 := i1.frozen
        clear i5
        have hK' : (X.setCell ⟨w.heap.size + 1, 0, none⟩ (.int .i64 v)).heap[D]? = some (.deferred (some [])) := (Below.heap_setCell _ _ _ _ (fun e => by have := bt1.lt; have : D = w.heap.size + 1 := e; omega)).trans hK
        go_wp2
        refine postM_retD (D := D) hK' rfl (results_cell1 rfl rfl ((i1.set _).kept (grownBy_putObj' _ D _) (fun e => by cases e; have := bt1.lt; omega))) ?_
        exact ⟨by rw [VE.out], (i6.setCell (p := ⟨w.heap.size + 1, 0, none⟩) (Nat.le_succ _) _).grown (grownBy_putObj' _ D _) (by have := i6.size; simpa [World.setCell] using this) (fun k e => by cases e; have := bel5.out.size; omega)⟩
      case round =>
        rintro l pre x W1 hl1 hl2 ⟨v, i1, i2, i3, i4, i5, i6⟩ hG
        obtain ⟨⟨r, hr⟩, hrow⟩ := hG
        have HR := Lib.hid hr
        obtain ⟨mT, mX, hmX⟩ := mem_form M cn x.lv.1
        have HMX := Lib.hid hmX
        have hle : levVal M cn x = .agg #[.iface mT mX, .slice x.a (othM M cn x.lv).length x.cap] := by rw [levVal, hmX]
        rw [hle]
        clear hle hmX hr
        gi_wp2
        refine ⟨World.grownBy_alloc _ _ _, fun ob => ?_⟩
        have bb8 : Blk ((W1.alloc (.cells #[.iface mT mX, .slice x.a (othM M cn x.lv).length x.cap] 87)).putObj l ob) W1.heap.size 87 #[.iface mT mX, .slice x.a (othM M cn x.lv).length x.cap] := (World.putObj_heap_other (by omega)).trans (Blk.new _ _ _)
        have bx1 : Boxed ((W1.alloc (.cells #[.iface mT mX, .slice x.a (othM M cn x.lv).length x.cap] 87)).putObj l ob) (w.heap.size + 1) 3 (.int .i64 0) := (World.putObj_heap_other (by have := bt1.lt; omega)).trans (i1.alloc _)
        have bx2 : Boxed ((W1.alloc (.cells #[.iface mT mX, .slice x.a (othM M cn x.lv).length x.cap] 87)).putObj l ob) T2 3 (.int .i64 v) := (World.putObj_heap_other (by have := bt2.lt; omega)).trans (i2.alloc _)
        have brow := (hrow.alloc (.cells #[.iface mT mX, .slice x.a (othM M cn x.lv).length x.cap] 87)).kept (grownBy_putObj' _ l ob) (.inr (fun e => by have := (hrow.lt l e).1; omega))
        have bbel : Below w.heap.size w ((W1.alloc (.cells #[.iface mT mX, .slice x.a (othM M cn x.lv).length x.cap] 87)).putObj l ob) := (i6.alloc (by have := i6.size; omega) _).grown (grownBy_putObj' _ l ob) (by have := i6.size; simp; omega) (fun k e => by cases e; have := bel5.out.size; omega)
        have hN1 := i1.lt
        have hN2 := i2.lt
        generalize (W1.alloc (.cells #[.iface mT mX, .slice x.a (othM M cn x.lv).length x.cap] 87)).putObj l ob = W2 at *
        have R0 : Rb (w.heap.size + 1) T2 W1.heap.size (W5.heap.size + 2) (fun k => k = w.heap.size + 1 ∨ k = T2) W2 #[.iface mT mX, .slice x.a (othM M cn x.lv).length x.cap] (.slice x.a (othM M cn x.lv).length x.cap) (othM M cn x.lv).length ((othM M cn x.lv).map (memV M cn)) (.int .i64 0) (.int .i64 v) W2 := ⟨bx1, bx2, bb8, brow, Kept.refl _ _⟩
        clear bx1 bx2 bb8 brow hrow i1 i2 i6
        have I5 := Lib.hid i5
        clear i5
        have hlm : x.lv ∈ levsM M tn := by rw [HR.out]; simp
        have hGo := L.out.goal hlm v
        have hTm := L.out.tm hlm
        have hVs := vstep_bd v (memW M cn x.lv.1)
        have GE := Lib.hid (show goalF M cn v x.lv = memT M cn x.lv.1 + vstep v (memW M cn x.lv.1) from rfl)
        have HO := Lib.hid (L.out.ot x.lv)
        have WB := Lib.hid (waitS_bd L.out hlm i3 i4)
        have HWS := Lib.hid (show waitS M cn v x.lv = v + sumI (unitF M cn (goalF M cn v x.lv)) (othM M cn x.lv) from rfl)
        have ho20 : (othM M cn x.lv).length ≤ 20 := by have := L.out.cnt hlm; have := L.out.n hlm; omega
        have hn12 : w.heap.size + 1 ≠ T2 := by omega
        have hn18 : w.heap.size + 1 ≠ W1.heap.size := by omega
        have hn28 : T2 ≠ W1.heap.size := by omega
        have RB0 := Lib.hid R0
        clear R0
        gi_wp2
        have z2 := RB0.out.t2.cell
        have z8 := RB0.out.b8.cell 0
        simp at z8
        have q2 := fun d os => cell_regrown z2 d os
        have q8 := fun d os => cell_regrown z8 d os
        rw [GE.out] at hGo
        refine region_QR (by kernel_rfl) (by kernel_rfl) (by kernel_rfl) ?_
        repeat (go_big_quiet_step ((go_at_call 60; exact Calls.regrown_of (iVirtualStep_any _ _ _))))
        refine wpQuiet_step (fun K hK => ?_)
        rw [if_pos (by rfl)]
        refine ⟨_, invq_time rfl HMX.out.symm, hK _ ?_⟩
        clear hK K
        simp only [Act.put, List.setIfInBounds_toArray, List.set_cons_zero, List.set_cons_succ]
        repeat (go_big_quiet_step ((go_at_call 60; exact Calls.regrown_of (iVirtualStep_any _ _ _))))
        refine wpQuiet_step (fun K hK => ?_)
        rw [if_pos (by rfl)]
        refine ⟨_, invq_weight rfl HMX.out.symm, hK _ ?_⟩
        clear hK K
        simp only [Act.put, List.setIfInBounds_toArray, List.set_cons_zero, List.set_cons_succ]
        repeat (go_big_quiet_step ((go_at_call 60; exact Calls.regrown_of (iVirtualStep_any _ _ _))))
        refine wpQuiet_nil ?_
        intro _ hw'
        obtain ⟨⟨dq, osq⟩, hw''⟩ := hw'
        subst hw''
        have hb3b := below_regrown W2 dq osq
        generalize grow (redrawn W2 dq) osq = W3b at *
        have RB1 := Lib.hid (RB0.out.below hb3b)
        have bel1 := Lib.hid (bbel.andThen hb3b)
        clear z2 z8 q2 q8 hb3b
        have z9 := RB1.out.b8.cell 1
        simp at z9
        rw [← GE.out] at hGo ⊢
        generalize hGG : goalF M cn v x.lv = G at *
        gi_wp2
        gi_loopw [32] (fun i wr => ∃ j : Nat, j ≤ (othM M cn x.lv).length ∧ i = .int .i64 j ∧ Rb (w.heap.size + 1) T2 W1.heap.size (W5.heap.size + 2) (fun k => k = w.heap.size + 1 ∨ k = T2) W2 #[.iface mT mX, .slice x.a (othM M cn x.lv).length x.cap] (.slice x.a (othM M cn x.lv).length x.cap) (othM M cn x.lv).length ((othM M cn x.lv).map (memV M cn)) (.int .i64 0) (.int .i64 (v + sumI (unitF M cn G) ((othM M cn x.lv).take j))) wr) (fun i _ => (othM M cn x.lv).length - (intOf i).toNat)
        case atStart => exact ⟨0, by omega, rfl, by simpa [sumI] using RB1.out⟩
        case round =>
          obtain ⟨j, hj, rfl, hRB⟩ := hrel
          have RB2 := Lib.hid hRB
          clear hRB
          obtain ⟨sb0, sb1⟩ := sumI_bd (A := 0) (B := 26000000149) (f := unitF M cn G) (l := (othM M cn x.lv).take j) (fun m _ => unitF_bd _ _ _ _)
          have hl1 : ((othM M cn x.lv).take j).length ≤ 20 := by simp; omega
          by_cases hlt : j < (othM M cn x.lv).length
          · obtain ⟨g0, ha0⟩ := own_addr RB2.out.row (by omega)
            have hcl2 : wr.cell? ⟨g0, j, none⟩ = some (memV M cn (othM M cn x.lv)[j]) := by have := RB2.out.row.cells (g := g0) (by rw [ha0]; rfl) j (memV M cn (othM M cn x.lv)[j]) (by rw [List.getElem?_map, List.getElem?_eq_getElem hlt]; rfl); rwa [addr_add] at this
            obtain ⟨m0, m1⟩ := HO.out (othM M cn x.lv)[j] (List.getElem_mem hlt)
            have TS := Lib.hid (show (othM M cn x.lv).take (j + 1) = (othM M cn x.lv).take j ++ [(othM M cn x.lv)[j]] from List.take_succ_eq_append_getElem hlt)
            have hj0 : (0 : Int) ≤ (j : Int) := by omega
            have hj1 : (j : Int) < ((othM M cn x.lv).length : Int) := by omega
            obtain ⟨nT, nX, hnX⟩ := mem_form M cn (othM M cn x.lv)[j]
            rw [hnX] at hcl2
            have HNX := Lib.hid hnX
            clear hnX
            generalize (othM M cn x.lv)[j] = mj at *
            obtain ⟨u0, u1⟩ := vunits_bd (G - memT M cn mj) (memW M cn mj)
            have HU := Lib.hid (show unitF M cn G mj = 149 + vunits (G - memT M cn mj) (memW M cn mj) from rfl)
            rw [ha0]
            gi_wp2
            have z2 := RB2.out.t2.cell
            have q2 := fun d os => cell_regrown z2 d os
            refine region_QT 10 (by kernel_rfl) (by kernel_rfl) (by kernel_rfl) ?_
            simp only [List.take_succ_cons, List.take_zero, List.drop_succ_cons, List.drop_zero]
            repeat (go_big_quiet_step ((go_at_call 61; exact Calls.regrown_of (iVirtualUnits_any _ _ _))))
            refine wpQuiet_step (fun K hK => ?_)
            rw [if_pos (by rfl)]
            refine ⟨_, invq_time rfl HNX.out.symm, hK _ ?_⟩
            clear hK K
            simp only [Act.put, List.setIfInBounds_toArray, List.set_cons_zero, List.set_cons_succ]
            repeat (go_big_quiet_step ((go_at_call 61; exact Calls.regrown_of (iVirtualUnits_any _ _ _))))
            refine wpQuiet_step (fun K hK => ?_)
            rw [if_pos (by rfl)]
            refine ⟨_, invq_weight rfl HNX.out.symm, hK _ ?_⟩
            clear hK K
            simp only [Act.put, List.setIfInBounds_toArray, List.set_cons_zero, List.set_cons_succ]
            repeat (go_big_quiet_step ((go_at_call 61; exact Calls.regrown_of (iVirtualUnits_any _ _ _))))
            refine wpQuiet_nil ?_
            intro _ hw'
            obtain ⟨⟨dq, osq⟩, hw''⟩ := hw'
            subst hw''
            have hb6 := below_regrown wr dq osq
            generalize grow (redrawn wr dq) osq = w6 at *
            have RB3 := Lib.hid (RB2.out.below hb6)
            clear z2 q2
            have z2 := RB3.out.t2.cell
            have f2 := RB3.out.t2.frozen
            go_wp2
            have RD := RB3.out.set2 hn12 hn28 (by have := bt2.lt; omega) (.inr rfl) (.int .i64 (v + sumI (unitF M cn G) ((othM M cn x.lv).take j) + (149 + vunits (G - memT M cn mj) (memW M cn mj))))
            gi_wp2
            rw [ha0] at RD
            go_roundw
            case rel => exact ⟨j + 1, by omega, by go_num, by rw [TS.out, sumI_snoc, HU.out, ← Int.add_assoc]; exact RD⟩
            case measure => simp [intOf]; omega
          · have hje : j = (othM M cn x.lv).length := by omega
            have HE := Lib.hid (show v + sumI (unitF M cn G) ((othM M cn x.lv).take j) = waitS M cn v x.lv by rw [hje, List.take_length, HWS.out])
            have RB3 := Lib.hid RB2.out
            rw [HE.out] at RB3
            have z2 := RB3.out.t2.cell
            have z1 := RB3.out.t1.cell
            have f1 := RB3.out.t1.frozen
            obtain ⟨ws0, ws1⟩ := WB.out
            have W0E := Lib.hid (show waitM M tn = if 100000000 < waitS M cn v x.lv then 0 else waitL M cn (waitS M cn v x.lv) r by rw [LN.out, I5.out (x.lv :: r) HR.out]; rfl)
            have I5B := Lib.hid (show ∀ r2, levsM M tn = (pre ++ [x]).map LevV.lv ++ r2 → r2 = r from fun r2 e => by have h := e.symm.trans HR.out; simpa using h)
            have bel3 := Lib.hid (bbel.trans (RB3.out.kept.below (by have := bbel.size; omega) (fun k e => by rcases e with rfl | rfl <;> omega)))
            have hge : ((othM M cn x.lv).length : Int) ≤ (j : Int) := by omega
            clear HE hje hlt hj
            generalize waitS M cn v x.lv = WS at *
            by_cases hcut : 100000000 < WS
            · have W0F := Lib.hid (show waitM M tn = 0 by rw [W0E.out, if_pos hcut])
              have RD := RB3.out.set1 hn12 hn18 (by have := bt1.lt; omega) (.inl rfl) (.int .i64 0)
              gi_wp2
              exact ⟨RD.kept, rfl, W0F.out, RD.t1, bbel.trans (RD.kept.below (by have := bbel.size; omega) (fun k e => by rcases e with rfl | rfl <;> omega))⟩
            · have hcut2 : WS ≤ 100000000 := by omega
              have W0F := Lib.hid (show waitM M tn = waitL M cn WS r by rw [W0E.out, if_neg hcut])
              clear hcut
              gi_wp2
              exact ⟨RB3.out.kept, WS, RB3.out.t1, RB3.out.t2, ws0, hcut2, fun r2 e => by rw [I5B.out r2 e, ← W0F.out, LN.out], bel3.out⟩
  · have FL := Lib.hid (show lineOk M t = false by simpa only [Bool.not_eq_true] using fL)
    clear fL
    have LN := Lib.hid (show waitM M t = 0 by rw [waitM, if_neg (by rw [FL.out]; simp)])
    go_wp2_with (go_at_call 50; refine (iLine_any ca cc ta tc ga gc gh M _ q5 hF HX.out _).mono ?_; rintro e w2 ⟨rfl, hb2⟩; rw [FL.out]; have r1 := (hb2.cell (p := ⟨w.heap.size, 0, none⟩) q0).trans q1; have r2 := (hb2.cell (p := ⟨w.heap.size, 1, none⟩) q0).trans q2; have r3 := (hb2.cell (p := ⟨w.heap.size, 2, none⟩) q0).trans q3; have r4 := (hb2.cell (p := ⟨w.heap.size, 3, none⟩) q0).trans q4; have r0 := Nat.lt_of_lt_of_le q0 hb2.size; have k4 : Boxed w2 _ _ _ := (hb2.block _ bt0.lt).trans bt0; have r4b := k4.cell; have f4b := k4.frozen)
    refine postM_ret (results_cell1 rfl rfl (k4.set _)) rfl ?_
    exact ⟨by rw [LN.out], (b1.andThen hb2).setCell (p := ⟨w.heap.size + 1, 0, none⟩) (Nat.le_succ _) _⟩
end Go.Proofs.YtccjanpdgdonmaaGreat
namespace Go.Proofs.YtccjanpdgdonmaaGreat
open Go.RowKit Go.Sort
open Go.ChangeShapes Go.WideShapes Go.ChangeAt Go.Deep
set_option maxRecDepth 100000 in
set_option maxHeartbeats 4000000 in
theorem FnTaskWait_any (h : WH) (M : WorldM) (w : World) (hs : WAt w h M) (hm : WMax M) (hx : NextOk M) (t : Int) :
    Calls Tryz.prog 8 #[.agg #[.int .i64 M.now, .slice h.ca M.cpus.length h.cc, .slice h.ta M.tasks.length h.tc, .slice h.ga M.groups.length h.gc], .int .i64 t] w fun e w' => e = .returned (.bool true) ∧ Below w.heap.size w w' := by
  go_enter Tryz.func8, Tryz.ntmps8
  go_upto_region 1 with (fail)
  refine PA.gen (P := fun W => Code.wp _ _ _ _ W) (WA.of hs) ?_
  intro W b1 s1 pw
  have hs1 := hs.keep b1
  have PW := Lib.hid pw
  have HM := Lib.hid hm
  have HX := Lib.hid hx
  obtain ⟨q0, q1, q2, q3, q4, _⟩ := pw
  clear s1 hm hx
  go_upto_region 3 with (go_at_call 9; refine (szWorld_any h M _ hs1 HM.out).mono ?_; rintro e w2 ⟨r, rfl, hb2, hr1, hr2, hfit⟩)
  have pw2 := PW.out.keep hb2
  have PW2 := Lib.hid pw2
  obtain ⟨p0, p1, p2, p3, p4, _⟩ := pw2
  have hs2 := hs1.keep hb2
  have b2 := b1.andThen hb2
  clear q0 q1 q2 q3 q4
  by_cases hr : r < 0
  · clear hfit
    go_wp2
    go_ret
    exact ⟨rfl, b2⟩
  · have HFIT := Lib.hid (hfit (by omega))
    have HF := Lib.hid (fitG_of HFIT.out)
    clear hfit
    have hr0 : 0 ≤ r := by omega
    clear hr
    obtain ⟨V, hV⟩ : ∃ V, waitM M t = V := ⟨_, rfl⟩
    have HV := Lib.hid hV
    clear hV
    go_upto_region 6 with (first | (go_at_call 11; refine (toWorld_any h M _ hs2 HFIT.out).mono ?_; rintro e w3 ⟨h3, rfl, hb3, hw3⟩) | (go_at_call 22; refine (sTaskWait_any h3.ca h3.cc h3.ta h3.tc h3.ga h3.gc h3.gh M _ (WA.of hw3) HF.out t).mono ?_; rintro e w4 ⟨rfl, hb4⟩; rw [HV.out]))
    have b4 := hb3.andThen hb4
    have pw4 := PW2.out.keep b4
    have PW4 := Lib.hid pw4
    have hs4 := hs2.keep b4
    obtain ⟨r0, r1, r2, r3, r4, _⟩ := pw4
    clear p0 p1 p2 p3 p4
    go_upto_region 7 with (go_at_call 11; refine (toWorld_any h M _ hs4 HFIT.out).mono ?_; rintro e w5 ⟨h5, rfl, hb5, hw5⟩)
    refine PA.gen (P := fun W => Code.wp _ _ _ _ W) (WA.of hw5) ?_
    intro W6 b6' s6 px
    have b6 := hb5.andThen b6'
    have hw6 := hw5.keep b6'
    have PX := Lib.hid px
    obtain ⟨x0, x1, x2, x3, x4, _⟩ := px
    clear s6 r0 r1 r2 r3 r4
    go_upto_region 8 with (go_at_call 23; refine (iTaskWait_any h5.ca h5.cc h5.ta h5.tc h5.ga h5.gc h5.gh M _ (WA.of hw6) HF.out HX.out t).mono ?_; rintro e w7 ⟨rfl, hb7⟩; rw [HV.out])
    have b7 := b6.andThen hb7
    have pw7 := PW4.out.keep b7
    have px7 := PX.out.keep hb7
    have hs7 := hs4.keep b7
    have hw7 := hw6.keep hb7
    obtain ⟨y0, y1, y2, y3, y4, _⟩ := pw7
    obtain ⟨z0, z1, z2, z3, z4, _⟩ := px7
    clear x0 x1 x2 x3 x4
    have hv0 : (V != V) = false := by simp
    go_upto_region 10 with (fail)
    have q_y1 := fun d os => cell_regrown y1 d os
    have q_y2 := fun d os => cell_regrown y2 d os
    have q_y3 := fun d os => cell_regrown y3 d os
    have q_y4 := fun d os => cell_regrown y4 d os
    have q_z1 := fun d os => cell_regrown z1 d os
    have q_z2 := fun d os => cell_regrown z2 d os
    have q_z3 := fun d os => cell_regrown z3 d os
    have q_z4 := fun d os => cell_regrown z4 d os
    have bd : Below w7.heap.size w7 w7.drew := ⟨rfl, rfl, rfl, Nat.le_refl _, fun _ _ => rfl⟩
    refine region_by [false, false, true, true, false] (by kernel_rfl) (by kernel_rfl) (by kernel_rfl) ?_
    repeat (first | (refine wpR_skip (by rfl) ?_; simp only [Act.put, List.setIfInBounds_toArray, List.set_cons_zero, List.set_cons_succ]) | (refine wpR_det (by rfl) (fun K hK => ?_); go_big_quiet_op; refine hK _ ?_; clear hK K))
    refine wpR_bar (by rfl) (fun K hK => ?_)
    go_big_op
    go_at_call 11
    refine (toWorld_any h M _ (hs7.keep bd) HFIT.out).mono ?_
    rintro e w8 ⟨h8, rfl, hb8, hw8⟩
    refine hK _ _ (regrown_of_below (bd.andThen hb8)) ?_
    clear hK K
    refine wpR_bar (by rfl) (fun K hK => ?_)
    go_big_op
    go_at_call 13
    refine (eqWorld_any h5 h8 M _ HFIT.out (hw7.keep (bd.andThen hb8)) hw8).mono ?_
    rintro e w9 ⟨rfl, hb9⟩
    refine hK _ _ (regrown_of_below ((bd.andThen hb8).andThen hb9)) ?_
    clear hK K
    repeat (first | (refine wpR_skip (by rfl) ?_; simp only [Act.put, List.setIfInBounds_toArray, List.set_cons_zero, List.set_cons_succ]) | (refine wpR_det (by rfl) (fun K hK => ?_); go_big_quiet_op; refine hK _ ?_; clear hK K))
    refine wpR_nil ?_
    go_wp2
    go_ret
    exact ⟨rfl, b2.andThen (b4.andThen (b7.andThen ((bd.andThen hb8).andThen hb9)))⟩
set_option maxRecDepth 100000 in
theorem FnTaskWait_lifted (os : Os) (started : os.Started) (H : Type) (enc : TypeId × Value → H) :
    ReturnsInHanded {} Tryz.checked os 8 .any (Rows.fnExactTaskWaitSpec.pre6 enc Tryz.prog Tryz.f8 Rows.fnExactTaskWaitRow.domain false) (Rows.fnExactTaskWaitSpec.post enc Tryz.prog Tryz.f8 false true false false) := by
  refine returnsInHanded_of_change (C := Tryz.checked) own started (by kernel_rfl) Tryz.func8
    (ChangeSpec.witness6 (enc := enc) (C := Tryz.checked) false ⟨#[], #[.agg #[.int .i64 0, .slice none 0 0, .slice none 0 0, .slice none 0 0], .int .i64 0], []⟩ 8 (by kernel_rfl) (by kernel_rfl) (by kernel_rfl) (by kernel_rfl)) ?_
  intro W base args ds gs before hval0 hW hcnd _
  have hval : ∀ (j : Nat) t v, Tryz.f8.params[j]? = some t → args[j]? = some v → Value.okWide Tryz.prog W .any base t v := hval0
  have hW' := hW
  obtain ⟨p, q, hA0, hV, rfl, hfz, hnd⟩ := hW
  have hA : DataW.TrodAll enc Tryz.prog W 0 (fun _ => true) true Tryz.f8.params.toList args.toList ds p := hA0
  have hA1 := hA
  rw [Tryz.params8] at hA1 hval
  obtain ⟨v0, v1, d0, d1, p0, p1, rfl, rfl, rfl, h0, h1⟩ := trodAll_two hA1
  obtain ⟨rfl, rfl⟩ := trodVars_none hV
  obtain ⟨cs0, rfl, hsz0⟩ := okWide_struct Tryz.underlying26 (hval 0 26 _ rfl rfl)
  obtain ⟨fuel, hf⟩ := h0
  obtain ⟨h, M, hcs, hwat, hmax, hnx⟩ := open_world hf
  obtain rfl : cs0 = #[.int .i64 M.now, .slice h.ca M.cpus.length h.cc, .slice h.ta M.tasks.length h.tc, .slice h.ga M.groups.length h.gc] := by
    apply Array.ext'
    simpa [Value.cells] using hcs
  obtain ⟨x1, rfl, rfl, rfl, wa1⟩ := open_int Tryz.underlying3 (hval 1 3 v1 rfl rfl) h1
  clear hA0 hval0 hf
  simp only [List.append_nil] at hW' hA
  refine (FnTaskWait_any h M W hwat hmax (nextOk_of hnx) x1).mono fun e W' ⟨he, hb⟩ => ?_
  subst he
  exact ⟨_, rfl, law_post laidOut (by rw [Tryz.params8]; decide +kernel) (by kernel_rfl) Tryz.underlying4 rfl hW' hA rfl hb⟩
theorem FnTaskWait_holds : Rows.FnExactTaskWaitSaid :=
  OpenClaim.holds_of_wide 8 Tryz.f8 rfl rfl rfl rfl rfl rfl rfl ⟨rfl, rfl, rfl, rfl, rfl⟩ rfl rfl rfl rfl rfl (by kernel_rfl) Tryz.func8 (by kernel_rfl)
    (of_decide_eq_true (by kernel_rfl)) (by unfold Func.isWrapper; first | (rw [if_pos (by decide +kernel)]; kernel_rfl) | (rw [if_neg (by decide +kernel)]; exact ⟨rfl, rfl⟩))
    (fun os started H enc _ => FnTaskWait_lifted os started H enc)
end Go.Proofs.YtccjanpdgdonmaaGreat
