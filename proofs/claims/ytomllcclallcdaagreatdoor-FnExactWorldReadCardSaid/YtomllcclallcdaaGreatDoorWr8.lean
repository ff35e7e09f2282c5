/- A part of the proof. -/
import Derived.Test.YtomllcclallcdaaGreatDoorWr1
import Derived.Test.YtomllcclallcdaaGreatDoorWr3
import Derived.Test.YtomllcclallcdaaGreatDoorWr6
import Derived.Test.YtomllcclallcdaaGreatDoorWr7
import Derived.StillTail
import Derived.Deep.AppendLies
namespace Go.Proofs.YtomllcclallcdaaGreatDoor
section
structure RFit (M : WorldM) : Prop where
  cpu : M.cpus.length ≤ 4
  task : M.tasks.length = 12
  gl : M.groups.length = 8
  nm : ∀ k, (grp M k).name.size ≤ 20000
  loc : ∀ k, (grp M k).band.locals.length ≤ 4
  dry : ∀ k, (grp M k).band.dry.length = (grp M k).band.locals.length
  she : ∀ k, (grp M k).shelves.length ≤ 4
  nxt : ∀ k, (grp M k).next ≤ 9223372036854775807
theorem RFit.set {X : WorldM} (h : RFit X) {k : Nat} (hk : k < 8) {y : GroupM} (h1 : y.name.size ≤ 20000) (h2 : y.band.locals.length ≤ 4) (h3 : y.band.dry.length = y.band.locals.length) (h4 : y.shelves.length ≤ 4) (h5 : y.next ≤ 9223372036854775807) : RFit (setG X k y) := by
  have e : ∀ j, grp (setG X k y) j = if j = k then y else grp X j := fun j => by
    by_cases e : j = k
    · subst e; rw [if_pos rfl]; exact grp_setG_same (by rw [h.gl]; exact hk) y
    · rw [if_neg e]; simp [grp, setG, Ne.symm e]
  refine ⟨h.cpu, h.task, by simp [setG, h.gl], fun j => ?_, fun j => ?_, fun j => ?_, fun j => ?_, fun j => ?_⟩ <;> rw [e j] <;> split
  · exact h1
  · exact h.nm j
  · exact h2
  · exact h.loc j
  · exact h3
  · exact h.dry j
  · exact h4
  · exact h.she j
  · exact h5
  · exact h.nxt j
theorem blank_fit : RFit blankM := by
  have e : ∀ k, grp blankM k = group0 := fun k => by
    rw [grp, blankM, List.getD_eq_getElem?_getD]
    show ((List.replicate 8 group0)[k]?).getD group0 = group0
    rw [List.getElem?_replicate]
    split <;> rfl
  refine ⟨by simp [blankM], by simp [blankM], by simp [blankM], fun k => ?_, fun k => ?_, fun k => ?_, fun k => ?_, fun k => ?_⟩ <;> rw [e k] <;> decide
theorem cut_len {x : UInt8} : ∀ {l a : List UInt8}, a ∈ cutB x l → a.length ≤ l.length
  | [], a, h => by simp [cutB] at h; subst h; simp
  | b :: r, a, h => by
    rw [cutB] at h
    split at h
    · rcases List.mem_cons.1 h with rfl | h
      · simp
      · have := cut_len h; simp; omega
    · rcases List.mem_cons.1 h with rfl | h
      · cases hc : cutB x r with
        | nil => exact absurd hc (cutB_ne x r)
        | cons d t =>
          have := cut_len (x := x) (l := r) (a := d) (by rw [hc]; simp)
          simp; omega
      · have := cut_len (List.mem_of_mem_tail h); simp; omega
theorem decFrom_lt : ∀ {l : List UInt8} {acc n a : Nat}, Lib.decFrom acc l = some n → acc < 10 ^ a → n < 10 ^ (a + l.length)
  | [], acc, n, a, h, ha => by simp only [Lib.decFrom, Option.some.injEq] at h; subst h; simpa using ha
  | b :: r, acc, n, a, h, ha => by
    simp only [Lib.decFrom, Lib.digitVal] at h
    by_cases hd : 48 ≤ b.toNat ∧ b.toNat ≤ 57
    · rw [if_pos hd] at h
      have h2 : Lib.decFrom (acc * 10 + (b.toNat - 48)) r = some n := h
      have := decFrom_lt (a := a + 1) h2 (by rw [Nat.pow_succ]; omega)
      rwa [show a + 1 + r.length = a + (b :: r).length by simp; omega] at this
    · rw [if_neg hd] at h; cases h
theorem numS_le {l : List UInt8} {n : Int} (h : numS l = some n) : n ≤ 9223372036854775807 := by
  unfold numS at h
  split at h
  · rename_i hg
    rw [goodB, Bool.and_eq_true, inR_iff] at hg
    rw [Option.map_eq_some_iff] at h
    obtain ⟨m, hm, rfl⟩ := h
    have h1 := decFrom_lt (a := 0) hm (by omega)
    have h2 : 10 ^ (0 + (restB l).length) ≤ 10 ^ 18 := Nat.pow_le_pow_right (by omega) (by omega)
    split <;> omega
  · cases h
theorem atoiO_le {l : List UInt8} {n : Int} (h : atoiO l = some n) : n ≤ 9223372036854775807 := by
  unfold atoiO at h
  split at h
  · rename_i v hv
    obtain rfl : v = n := by simpa using h
    unfold Lib.atoiAll at hv
    split at hv
    · cases hv
    · rename_i c r
      simp only at hv
      split at hv
      · cases hv
      · cases hv
      · rename_i u hu
        split at hv
        · cases hv
        · split at hv
          · cases hv
          · injection hv with hv
            split at hv <;> omega
  · cases h
theorem numsO_le {num : List UInt8 → Option Int} (h : ∀ w n, num w = some n → n ≤ 9223372036854775807) : ∀ {ws : List (List UInt8)} {l : List Int}, numsO num ws = some l → ∀ i, gI l i ≤ 9223372036854775807
  | [], l, e, i => by simp [numsO] at e; subst e; simp [gI]
  | w :: r, l, e, i => by
    rw [numsO] at e
    split at e
    · rename_i n hn
      rw [Option.map_eq_some_iff] at e
      obtain ⟨l', hl, rfl⟩ := e
      cases i with
      | zero => exact h w n hn
      | succ i => exact numsO_le h hl i
    · cases e
theorem numsN_le {ws : List (List UInt8)} {m : Nat} {l : List Int} (h : numsN ws m = some l) (i : Nat) : gI l i ≤ 9223372036854775807 := by
  unfold numsN at h
  split at h
  · exact numsO_le (fun _ _ h => numS_le h) h i
  · cases h
theorem numsO_len {num : List UInt8 → Option Int} : ∀ {ws : List (List UInt8)} {l : List Int}, numsO num ws = some l → l.length = ws.length
  | [], l, e => by simp [numsO] at e; subst e; rfl
  | w :: r, l, e => by
    rw [numsO] at e
    split at e
    · rw [Option.map_eq_some_iff] at e
      obtain ⟨l', hl, rfl⟩ := e
      simp [numsO_len hl]
    · cases e
theorem bandOf_len (l : List Int) (n : Nat) : (bandOf l n).locals.length = n ∧ (bandOf l n).dry.length = n := by simp [bandOf]
theorem RFit.shelf {X : WorldM} (h : RFit X) {k : Nat} (hk : k < 8) {l : List Int} (hl : (grp X k).shelves.length < 4) : RFit (addS X k l) :=
  h.set hk (h.nm k) (h.loc k) (h.dry k) (by simp; omega) (h.nxt k)
theorem RFit.band {X : WorldM} (h : RFit X) {k n : Nat} (hk : k < 8) {l : List Int} (hn : n ≤ 4) : RFit (setG X k { grp X k with band := bandOf l n }) :=
  h.set hk (h.nm k) (by show (bandOf l n).locals.length ≤ 4; rw [(bandOf_len l n).1]; exact hn) (by show (bandOf l n).dry.length = (bandOf l n).locals.length; rw [(bandOf_len l n).1, (bandOf_len l n).2]) (h.she k) (h.nxt k)
theorem RFit.group {X : WorldM} (h : RFit X) {k : Nat} (hk : k < 8) {l : List Int} {nm : ByteArray} (hn : nm.size ≤ 20000) (h5 : gI l 5 ≤ 9223372036854775807) : RFit (setG X k (groupOf nm l)) :=
  h.set hk hn (by show (0 : Nat) ≤ 4; omega) rfl (by show (0 : Nat) ≤ 4; omega) h5
theorem RFit.task_ {X : WorldM} (h : RFit X) (t : Nat) (y : TaskM) : RFit { X with tasks := X.tasks.set t y } :=
  ⟨h.cpu, by simp [h.task], h.gl, h.nm, h.loc, h.dry, h.she, h.nxt⟩
theorem RFit.cpu_ {X : WorldM} (h : RFit X) (x : CpuM) (hl : X.cpus.length ≠ 4) : RFit { X with cpus := X.cpus ++ [x] } :=
  ⟨by have := h.cpu; simp; omega, h.task, h.gl, h.nm, h.loc, h.dry, h.she, h.nxt⟩
theorem RFit.now_ {X : WorldM} (h : RFit X) (n : Int) : RFit { X with now := n } := ⟨h.cpu, h.task, h.gl, h.nm, h.loc, h.dry, h.she, h.nxt⟩
theorem usedI_lt {X : WorldM} {g : Int} (h : usedI X g = true) (hl : X.groups.length = 8) : g.toNat < 8 := by
  simp only [usedI, Bool.and_eq_true, decide_eq_true_eq] at h
  omega
theorem mem_getD {l : List (List UInt8)} {i : Nat} {B : Nat} (h : ∀ a ∈ l, a.length ≤ B) : (l.getD i []).length ≤ B := by
  rw [List.getD_eq_getElem?_getD]
  cases hi : l[i]? with
  | none => simp
  | some a => exact h a (List.mem_of_getElem? hi)
theorem sp_fit {X X' : WorldM} {line : List UInt8} (h : RFit X) (hl : line.length ≤ 20000) (e : lineSp X line = some X') : RFit X' := by
  unfold lineSp lineW at e
  split at e
  · rw [Option.map_eq_some_iff] at e
    obtain ⟨l, _, rfl⟩ := e
    exact h.now_ _
  split at e
  · rw [Option.bind_eq_some_iff] at e
    obtain ⟨l, _, e⟩ := e
    split at e
    · cases e
    · rename_i h4
      cases e
      exact h.cpu_ _ h4
  split at e
  · split at e
    · rw [Option.bind_eq_some_iff] at e
      obtain ⟨l, hn, e⟩ := e
      split at e
      · rename_i hr
        cases e
        rw [inR_iff] at hr
        refine h.group (by omega) ?_ (numsN_le hn 5)
        split
        · decide
        · rw [strB_size]
          exact Nat.le_trans (mem_getD fun a ha => cut_len ha) hl
      · cases e
    · cases e
  split at e
  · rw [Option.bind_eq_some_iff] at e
    obtain ⟨l, _, e⟩ := e
    split at e
    · rename_i hu
      cases e
      rw [Bool.and_eq_true] at hu
      have h4 := h.she (gI l 0).toNat
      have h5 := hu.2
      simp at h5
      exact h.shelf (usedI_lt hu.1 h.gl) (by omega)
    · cases e
  split at e
  · rw [Option.bind_eq_some_iff] at e
    obtain ⟨l, _, e⟩ := e
    split at e
    · rename_i hu
      cases e
      exact h.band (usedI_lt hu h.gl) h.cpu
    · cases e
  split at e
  · rw [Option.bind_eq_some_iff] at e
    obtain ⟨l, _, e⟩ := e
    split at e
    · cases e
      exact h.task_ _ _
    · cases e
  · cases e
theorem kind_fit {X X' : WorldM} {wd nm : List UInt8} {l : List Int} (h : RFit X) (hl : nm.length ≤ 20000) (h5 : gI l 5 ≤ 9223372036854775807) (e : kindIm X wd nm l = some X') : RFit X' := by
  unfold kindIm at e
  split at e
  · split at e
    · cases e; exact h.now_ _
    · cases e
  split at e
  · split at e
    · rename_i h4
      cases e; exact h.cpu_ _ h4.2
    · cases e
  split at e
  · split at e
    · rename_i hr
      cases e
      rw [inR_iff] at hr
      refine h.group (by omega) ?_ h5
      split
      · decide
      · rw [strB_size]; exact hl
    · cases e
  split at e
  · split at e
    · rename_i hr
      cases e
      obtain ⟨_, h1, h2, h3⟩ := hr
      rw [inR_iff] at h1
      exact h.shelf (by omega) (by omega)
    · cases e
  split at e
  · split at e
    · rename_i hr
      cases e
      obtain ⟨_, _, h3, h1⟩ := hr
      rw [inR_iff] at h1
      exact h.band (by omega) (by omega)
    · cases e
  split at e
  · split at e
    · cases e; exact h.task_ _ _
    · cases e
  · cases e
theorem im_fit {X X' : WorldM} {line : List UInt8} (h : RFit X) (hl : line.length ≤ 20000) (e : lineIm X line = some X') : RFit X' := by
  unfold lineIm at e
  split at e
  · split at e
    · cases e
    · rw [Option.bind_eq_some_iff] at e
      obtain ⟨l, hn, e⟩ := e
      refine kind_fit h ?_ (numsO_le (fun _ _ h => atoiO_le h) hn 5) e
      cases ht : (cutB 32 line).tail with
      | nil => simp
      | cons a r =>
        show a.length ≤ 20000
        exact Nat.le_trans (cut_len (List.mem_of_mem_tail (by rw [ht]; simp))) hl
  · rw [Option.bind_eq_some_iff] at e
    obtain ⟨l, hn, e⟩ := e
    exact kind_fit h (by simp) (numsO_le (fun _ _ h => atoiO_le h) hn 5) e
theorem fold_fit {L : WorldM → List UInt8 → Option WorldM} (hL : ∀ {X X' : WorldM} {line : List UInt8}, RFit X → line.length ≤ 20000 → L X line = some X' → RFit X') :
    ∀ {ls : List (List UInt8)} {X X' : WorldM}, RFit X → (∀ l ∈ ls, l.length ≤ 20000) → ls.foldlM L X = some X' → RFit X'
  | [], X, X', h, _, e => by cases e; exact h
  | a :: r, X, X', h, hl, e => by
    rw [List.foldlM_cons] at e
    obtain ⟨Y, hY, e⟩ := Option.bind_eq_some_iff.1 e
    exact fold_fit hL (hL h (hl a (by simp)) hY) (fun l hm => hl l (by simp [hm])) e
theorem RFit.next {M : WorldM} (h : RFit M) : NextOk M := fun k _ => h.nxt k
def linesSp (s : List UInt8) : List (List UInt8) := if (cutB 10 s).getLast? = some [] then (cutB 10 s).dropLast else cutB 10 s
def outSp (s : List UInt8) : Option WorldM := if s.length ≤ 20000 then ((linesSp s).foldlM lineSp blankM).bind fun M => if s ≠ [] ∧ textM M = s then some M else none else none
def outIm (s : List UInt8) : Option WorldM := if s.length ≤ 20000 ∧ s.getLast? = some 10 then ((cutB 10 s.dropLast).foldlM lineIm blankM).bind fun M => if textM M = s then some M else none else none
theorem cut_end {x : UInt8} : ∀ l : List UInt8, cutB x (l ++ [x]) = cutB x l ++ [[]]
  | [] => by simp [cutB]
  | b :: r => by
    rw [List.cons_append, cutB, cutB, cut_end r]
    split
    · rfl
    · cases hc : cutB x r with
      | nil => exact absurd hc (cutB_ne x r)
      | cons d t => rfl
theorem lineC_no {w : List UInt8} {ns : List Int} (h : (10 : UInt8) ∉ w) : (10 : UInt8) ∉ lineC w ns := fun hm => by
  rcases List.mem_append.1 hm with hm | hm
  · exact h hm
  · exact numsB_no (by decide) (by decide) hm
theorem body_no {M : WorldM} (h : worldB M = true) : ∀ a ∈ bodyL M, (10 : UInt8) ∉ a := by
  intro a ha
  have hB := h
  have F := facts_of h
  simp only [worldB, worldH, worldL, shelvesB, cpusB, Bool.and_eq_true, beq_iff_eq, inR_iff] at hB
  obtain ⟨⟨⟨⟨⟨_, _⟩, _⟩, ht⟩, _⟩, _⟩ := hB
  simp only [treeB, Bool.and_eq_true] at ht
  rw [bodyL, List.mem_append, List.mem_append, List.mem_append] at ha
  rcases ha with ((ha | ha) | ha) | ha
  · simp at ha; subst ha; exact lineC_no (by decide)
  · obtain ⟨k, _, ha⟩ := mem_cat ha
    simp at ha; subst ha; exact lineC_no (by decide)
  · obtain ⟨k, hk, ha⟩ := mem_cat ha
    have hk8 : k < 8 := by rw [← F.tree.len]; exact hk
    split at ha
    · rename_i hu
      rw [groupL] at ha
      rcases List.mem_cons.1 ha with rfl | ha
      · refine lineC_no fun hm => ?_
        rcases List.mem_append.1 hm with hm | hm
        · revert hm; decide
        · rcases List.mem_cons.1 hm with hm | hm
          · revert hm; decide
          · unfold nameT at hm
            split at hm
            · revert hm; decide
            · rename_i h0
              have q := List.all_eq_true.1 ht.2 k (List.mem_range.2 hk8)
              rw [show (k == 0) = false by simpa using h0, Bool.false_or, nodeB, hu] at q
              simp only [Bool.not_true, Bool.false_or, Bool.and_eq_true, nameB] at q
              have q2 := List.all_eq_true.1 q.1.1.2 _ hm
              revert q2; decide
      · rcases List.mem_append.1 ha with ha | ha
        · obtain ⟨c, _, ha⟩ := mem_cat ha
          simp at ha; subst ha; exact lineC_no (by decide)
        · split at ha
          · simp at ha; subst ha; exact lineC_no (by decide)
          · simp at ha
    · simp at ha
  · obtain ⟨t, _, ha⟩ := mem_cat ha
    split at ha
    · simp at ha
    · simp at ha; subst ha; exact lineC_no (by decide)
theorem text_cut {M : WorldM} (h : worldB M = true) : cutB 10 (textM M) = bodyL M ++ [[]] := by
  rw [textM, if_pos h, ← body_join, cut_join (body_no h)]
theorem text_end {M : WorldM} (h : worldB M = true) : ∃ r, textM M = r ++ [10] ∧ cutB 10 r = bodyL M := by
  have hj : ∀ l : List (List UInt8), l ≠ [] → ∃ r, joinL l = r ++ [10] := fun l hl => by
    obtain ⟨a, b, rfl⟩ : ∃ a b, l = a ++ [b] := ⟨_, _, (List.dropLast_concat_getLast hl).symm⟩
    exact ⟨joinL a ++ b, by simp [joinL]⟩
  have e : textM M = joinL (bodyL M) := by rw [textM, if_pos h, body_join]
  obtain ⟨r, hr⟩ := hj (bodyL M) (by simp [bodyL])
  refine ⟨r, by rw [e, hr], ?_⟩
  have q := text_cut h
  rw [e, hr, cut_end] at q
  exact List.append_cancel_right q
theorem accept_sp {M : WorldM} (h : worldB M = true) (hx : NextOk M) (hl : (textM M).length ≤ 20000) : outSp (textM M) = some M := by
  obtain ⟨r, hr, _⟩ := text_end h
  have e : linesSp (textM M) = bodyL M := by rw [linesSp, text_cut h, if_pos (by simp)]; simp
  rw [outSp, if_pos hl, e, read_back rd_sp h hx]
  show (if textM M ≠ [] ∧ textM M = textM M then some M else none) = _
  rw [if_pos ⟨by rw [hr]; simp, rfl⟩]
theorem accept_im {M : WorldM} (h : worldB M = true) (hx : NextOk M) (hl : (textM M).length ≤ 20000) : outIm (textM M) = some M := by
  obtain ⟨r, hr, hc⟩ := text_end h
  rw [outIm, if_pos ⟨hl, by rw [hr]; simp⟩, hr, List.dropLast_concat, hc, read_back rd_im h hx, ← hr]
  show (if textM M = textM M then some M else none) = _
  rw [if_pos rfl]
theorem text_valid {M : WorldM} (h : textM M ≠ []) : worldB M = true := by
  unfold textM at h
  split at h
  · assumption
  · exact absurd rfl h
theorem lines_len {x : UInt8} {s : List UInt8} (h : s.length ≤ 20000) : ∀ l ∈ cutB x s, l.length ≤ 20000 := fun _ hm => Nat.le_trans (cut_len hm) h
theorem linesSp_len {s : List UInt8} (h : s.length ≤ 20000) : ∀ l ∈ linesSp s, l.length ≤ 20000 := fun l hm => by
  unfold linesSp at hm
  split at hm
  · exact lines_len h l (List.dropLast_subset _ hm)
  · exact lines_len h l hm
theorem outSp_some {s : List UInt8} {M : WorldM} (e : outSp s = some M) : s.length ≤ 20000 ∧ textM M = s ∧ worldB M = true ∧ RFit M := by
  unfold outSp at e
  split at e
  · rename_i hl
    obtain ⟨X, hX, e⟩ := Option.bind_eq_some_iff.1 e
    split at e
    · rename_i hs
      cases e
      exact ⟨hl, hs.2, text_valid (by rw [hs.2]; exact hs.1), fold_fit sp_fit blank_fit (linesSp_len hl) hX⟩
    · cases e
  · cases e
theorem outIm_some {s : List UInt8} {M : WorldM} (e : outIm s = some M) : s.length ≤ 20000 ∧ textM M = s ∧ worldB M = true ∧ RFit M := by
  unfold outIm at e
  split at e
  · rename_i hl
    obtain ⟨X, hX, e⟩ := Option.bind_eq_some_iff.1 e
    split at e
    · rename_i hs
      cases e
      refine ⟨hl.1, hs, text_valid (by rw [hs]; rintro rfl; cases hl.2), fold_fit im_fit blank_fit (lines_len (by rw [List.length_dropLast]; omega)) hX⟩
    · cases e
  · cases e
theorem out_same (s : List UInt8) : outIm s = outSp s := by
  cases h : outSp s with
  | some M =>
    obtain ⟨hl, ht, hB, hf⟩ := outSp_some h
    rw [← ht]
    exact accept_im hB hf.next (by rw [ht]; exact hl)
  | none =>
    cases h2 : outIm s with
    | none => rfl
    | some M =>
      obtain ⟨hl, ht, hB, hf⟩ := outIm_some h2
      have := accept_sp hB hf.next (by rw [ht]; exact hl)
      rw [ht, h] at this
      cases this
end
end Go.Proofs.YtomllcclallcdaaGreatDoor
namespace Go.Proofs.YtomllcclallcdaaGreatDoor
section
open Go.RowKit Go.Sort
theorem head_byte {d : ByteArray} (h : 0 < d.size) : d.data.toList.headD 0 = d[0] := by
  rw [List.headD_eq_head?_getD, List.head?_eq_getElem?, List.getElem?_eq_getElem (by simpa using h)]; simp [ByteArray.getElem_eq_getElem_data]
theorem byte_eq {b : UInt8} {n : Nat} (h : (b.toNat : Int) = n) : b = UInt8.ofNat n := by
  have : b.toNat = n := by omega
  rw [← this]; simp
theorem good_is {l : List UInt8} {d : ByteArray} {b : Bool} (hr : restB l = d.data.toList) (hb : belowB l = b) : goodB l = (inR d.size 1 18 && (!(decide (1 < d.size) && (d.data.toList.headD 0 == 48)) && !(b && (d.data.toList == [48])))) := by rw [goodB, hr, hb, show d.data.toList.length = d.size by simp]
theorem num_not {l : List UInt8} (h : goodB l = false) : numS l = none := by rw [numS, h]; rfl
theorem num_bad {l d : List UInt8} {k : Nat} {b : UInt8} (hg : goodB l = true) (hr : restB l = d) (hk : d[k]? = some b) (hv : Lib.digitVal b = none) : numS l = none := by
  rw [numS, if_pos hg, hr]
  cases hd : Lib.decFrom 0 d with
  | none => rfl
  | some n =>
    obtain ⟨e, he⟩ := Lib.digit_of_decFrom d 0 n hd k b hk
    rw [hv] at he; cases he
theorem num_ok {l d : List UInt8} {n : Nat} {b : Bool} (hg : goodB l = true) (hr : restB l = d) (hd : Lib.decFrom 0 d = some n) (hb : belowB l = b) : numS l = some (if b = true then -(n : Int) else n) := by
  rw [numS, if_pos hg, hr, hd, hb]; rfl
theorem len_s (s : ByteArray) : s.data.toList.length = s.size := by simp
theorem lead_on {d : ByteArray} (h : 0 < d.size) (h1 : 1 < d.size) (h2 : (d[0].toNat : Int) = 48) : (decide (1 < d.size) && (d.data.toList.headD 0 == 48)) = true := by
  rw [decide_eq_true h1, head_byte h, byte_eq (n := 48) h2]; rfl
theorem lead_off {d : ByteArray} (h0 : ∀ {h : 0 < d.size}, d.data.toList.headD 0 = d[0]) (h : ∀ {h : 0 < d.size}, ¬ (1 < d.size ∧ (d[0].toNat : Int) = 48)) : (decide (1 < d.size) && (d.data.toList.headD 0 == 48)) = false := by
  by_cases h1 : 1 < d.size
  · have hp : 0 < d.size := by omega
    rw [h0 (h := hp)]
    have : d[0] ≠ 48 := fun e => h (h := hp) ⟨h1, by rw [e]; rfl⟩
    simp [this]
  · rw [show decide (1 < d.size) = false from decide_eq_false h1]; rfl
theorem zero_off {p : Bool} (h : p = false) : (true && (!p && !(true && false))) = true := by rw [h]; rfl
theorem zero_off2 {p q : Bool} (h : p = false) : (true && (!p && !(false && q))) = true := by rw [h]; rfl
set_option maxRecDepth 100000 in
set_option maxHeartbeats 4000000 in
theorem sNum_neg (s : ByteArray) (w : World) (hm : s.size ≤ 1048576) (hb : belowB s.data.toList = true) :
    Calls Tryz.prog 54 #[.string s] w fun e w' => e = .returned (.tuple #[.int .i64 ((numS s.data.toList).getD 0), .bool (numS s.data.toList).isSome]) ∧ w = w' := by
  have HB := Lib.hid hb
  have hq := hb
  simp only [belowB, Bool.and_eq_true, decide_eq_true_eq] at hq
  have h0 : 0 < s.size := by have := len_s s; omega
  have h1 : (1 : Int) < (s.size : Int) := by have := len_s s; omega
  have h2 : (s[0].toNat : Int) = 45 := by have := hq.2; rw [head_byte h0, beq_iff_eq] at this; rw [this]; rfl
  have HR := Lib.hid (show restB s.data.toList = (s.extract 1 s.size).data.toList by rw [restB, if_pos hb, ByteArray.data_extract, Array.toList_extract]; show s.data.toList.drop 1 = (s.data.toList.drop 1).take (s.size - 1); rw [List.take_of_length_le (by simp)])
  have hdm : (s.extract 1 s.size).size ≤ 1048576 := by simp; omega
  clear hb hq
  go_enter Tryz.func54, Tryz.ntmps54
  go_upto_region 5 with (fail)
  generalize s.extract 1 s.size = d at *
  clear h0 h1 h2 hm
  by_cases g1 : inR d.size 1 18 = true
  · have G1 := Lib.hid g1
    rw [inR_iff] at g1
    have hdl : 0 < d.size := by omega
    have H0 := Lib.hid (show d.data.toList.headD 0 = d[0] from head_byte hdl)
    have HDL := Lib.hid hdl
    have d18 : (d.size : Int) ≤ 18 := by omega
    have d1 : (1 : Int) ≤ (d.size : Int) := by omega
    have HGD := Lib.hid (good_is HR.out HB.out)
    clear g1
    by_cases g2 : 1 < d.size ∧ (d[0].toNat : Int) = 48
    · have HZ := Lib.hid (show numS s.data.toList = none from num_not (by rw [HGD.out, G1.out, lead_on hdl g2.1 g2.2]; rfl))
      obtain ⟨g2, g3⟩ := g2
      have g4 : (1 : Int) < (d.size : Int) := by omega
      clear g2
      go_wp2_with (go_at_call 27; refine (sl1In_any _ _ _ _).mono ?_; rintro e w' ⟨rfl, rfl⟩; rw [G1.out])
      exact bodyPost_ret (v := .tuple #[.int .i64 0, .bool false]) (by simp [results, Tryz.results54, go_sem]) rfl ⟨by rw [HZ.out]; rfl, rfl⟩
    · have G2 := Lib.hid (show (decide (1 < d.size) && (d.data.toList.headD 0 == 48)) = false from lead_off H0.out g2)
      by_cases g4 : (1 : Int) < (d.size : Int)
      · have g6 : ((d[0].toNat : Int) == 48) = false := by rw [beq_eq_false_iff_ne]; intro e; exact g2 ⟨by omega, e⟩
        have g6n : ¬ (d[0].toNat : Int) = 48 := fun e => g2 ⟨by omega, e⟩
        clear g2
        by_cases g5 : (d.toList == [48]) = true
        · have G5 := Lib.hid (show (d.data.toList == [48]) = true by rw [← ByteArray.toList_eq]; exact g5)
          have HZ := Lib.hid (show numS s.data.toList = none from num_not (by rw [HGD.out, G1.out, G5.out]; cases (decide (1 < d.size) && (d.data.toList.headD 0 == 48)) <;> rfl))
          go_wp2_with (go_at_call 27; refine (sl1In_any _ _ _ _).mono ?_; rintro e w' ⟨rfl, rfl⟩; rw [G1.out])
          exact bodyPost_ret (v := .tuple #[.int .i64 0, .bool false]) (by simp [results, Tryz.results54, go_sem]) rfl ⟨by rw [HZ.out]; rfl, rfl⟩
        · have g5' : (d.toList == [48]) = false := by simpa using g5
          have G5 := Lib.hid (show (d.data.toList == [48]) = false by rw [← ByteArray.toList_eq]; exact g5')
          have HG := Lib.hid (show goodB s.data.toList = true by rw [HGD.out, G1.out, G5.out]; exact zero_off G2.out)
          clear g5
          go_wp2_with (go_at_call 27; refine (sl1In_any _ _ _ _).mono ?_; rintro e w' ⟨rfl, rfl⟩; rw [G1.out])
          clear g5'
          generalize ((d[0].toNat : Int) == 48) = bq at *
          subst g6
          go_loopw [2, 3, 6, 7] (fun r2 r3 r i wr => ∃ k n : Nat, r2 = .int .i64 0 ∧ r3 = .bool false ∧ k ≤ d.size ∧ i = .int .i64 k ∧ r = .int .i64 n ∧ Lib.decFrom 0 (d.data.toList.take k) = some n ∧ n < 10 ^ k ∧ w = wr) (fun _ _ _ i _ => d.size - (intOf i).toNat)
          case atStart => exact ⟨0, 0, rfl, rfl, by omega, rfl, rfl, by simp [Lib.decFrom], by simp, rfl⟩
          case round =>
            obtain ⟨k, n, rfl, rfl, hk, rfl, rfl, hd, hn, rfl⟩ := hrel
            have HD2 := Lib.hid hd
            have HN2 := Lib.hid hn
            have n0 : (0 : Int) ≤ (n : Int) := by omega
            have k0 : (0 : Int) ≤ (k : Int) := by omega
            have hp : 10 ^ k ≤ 10 ^ 18 := Nat.pow_le_pow_right (by omega) (by omega)
            have n2 : (n : Int) ≤ 999999999999999999 := by omega
            clear hd hn hp
            by_cases hlt : k < d.size
            · have hp2 : 10 ^ k ≤ 10 ^ 17 := Nat.pow_le_pow_right (by omega) (by omega)
              have n1 : (n : Int) ≤ 99999999999999999 := by have := HN2.out; omega
              have k1 : (k : Int) < (d.size : Int) := by omega
              have hsk : d.data.toList[k]? = some d[k] := by rw [List.getElem?_eq_getElem (by simpa using hlt)]; simp [ByteArray.getElem_eq_getElem_data]
              have HSK := Lib.hid hsk
              have HL := Lib.hid hlt
              clear hp2 hsk n2
              by_cases hz : 48 ≤ (d[k].toNat : Int) ∧ (d[k].toNat : Int) ≤ 57
              · have HV := Lib.hid (show Lib.digitVal d[k] = some (d[k].toNat - 48) by unfold Lib.digitVal; rw [if_pos (by omega)])
                have HE := Lib.hid (show ((n : Int) * 10 + ((d[k].toNat : Int) - 48)) = ((n * 10 + (d[k].toNat - 48) : Nat) : Int) by omega)
                have HC := Lib.hid (show d[k].toNat - 48 ≤ 9 by omega)
                have HS := Lib.hid (Lib.decFrom_take _ _ _ _ _ _ HD2.out HSK.out HV.out)
                obtain ⟨z1, z2⟩ := hz
                go_wp2
                go_roundw
                case rel => exact ⟨k + 1, _, rfl, rfl, by have := HL.out; omega, by go_num, by rw [← HE.out]; try go_num, HS.out, by rw [Nat.pow_succ]; have := HC.out; have := HN2.out; omega, by first | rfl | trivial⟩
                case measure => have := HL.out; simp [intOf]; omega
              · have HV := Lib.hid (show Lib.digitVal d[k] = none by unfold Lib.digitVal; rw [if_neg (by omega)])
                have HZ := Lib.hid (show numS s.data.toList = none from num_bad HG.out HR.out HSK.out HV.out)
                by_cases h3 : (d[k].toNat : Int) < 48
                · clear hz
                  go_wp2
                  exact bodyPost_ret (v := .tuple #[.int .i64 0, .bool false]) (by simp [results, Tryz.results54, go_sem]) rfl ⟨by rw [HZ.out]; rfl, rfl⟩
                · have h4 : 57 < (d[k].toNat : Int) := by omega
                  have h5 : 48 ≤ (d[k].toNat : Int) := by omega
                  clear hz h3
                  go_wp2
                  exact bodyPost_ret (v := .tuple #[.int .i64 0, .bool false]) (by simp [results, Tryz.results54, go_sem]) rfl ⟨by rw [HZ.out]; rfl, rfl⟩
            · have k2 : (d.size : Int) ≤ (k : Int) := by omega
              rw [List.take_of_length_le (by simp; omega)] at HD2
              have HZ := Lib.hid (num_ok HG.out HR.out HD2.out HB.out)
              clear hlt
              go_wp2
              exact bodyPost_ret (v := .tuple #[.int .i64 (-(n : Int)), .bool true]) (by simp [results, Tryz.results54, go_sem]) rfl ⟨by rw [HZ.out]; rfl, rfl⟩
      · have g6 : (d.size : Int) ≤ 1 := by omega
        clear g2 g4
        by_cases g5 : (d.toList == [48]) = true
        · have G5 := Lib.hid (show (d.data.toList == [48]) = true by rw [← ByteArray.toList_eq]; exact g5)
          have HZ := Lib.hid (show numS s.data.toList = none from num_not (by rw [HGD.out, G1.out, G5.out]; cases (decide (1 < d.size) && (d.data.toList.headD 0 == 48)) <;> rfl))
          go_wp2_with (go_at_call 27; refine (sl1In_any _ _ _ _).mono ?_; rintro e w' ⟨rfl, rfl⟩; rw [G1.out])
          exact bodyPost_ret (v := .tuple #[.int .i64 0, .bool false]) (by simp [results, Tryz.results54, go_sem]) rfl ⟨by rw [HZ.out]; rfl, rfl⟩
        · have g5' : (d.toList == [48]) = false := by simpa using g5
          have G5 := Lib.hid (show (d.data.toList == [48]) = false by rw [← ByteArray.toList_eq]; exact g5')
          have HG := Lib.hid (show goodB s.data.toList = true by rw [HGD.out, G1.out, G5.out]; exact zero_off G2.out)
          clear g5
          go_wp2_with (go_at_call 27; refine (sl1In_any _ _ _ _).mono ?_; rintro e w' ⟨rfl, rfl⟩; rw [G1.out])
          clear g5'
          go_loopw [2, 3, 6, 7] (fun r2 r3 r i wr => ∃ k n : Nat, r2 = .int .i64 0 ∧ r3 = .bool false ∧ k ≤ d.size ∧ i = .int .i64 k ∧ r = .int .i64 n ∧ Lib.decFrom 0 (d.data.toList.take k) = some n ∧ n < 10 ^ k ∧ w = wr) (fun _ _ _ i _ => d.size - (intOf i).toNat)
          case atStart => exact ⟨0, 0, rfl, rfl, by omega, rfl, rfl, by simp [Lib.decFrom], by simp, rfl⟩
          case round =>
            obtain ⟨k, n, rfl, rfl, hk, rfl, rfl, hd, hn, rfl⟩ := hrel
            have HD2 := Lib.hid hd
            have HN2 := Lib.hid hn
            have n0 : (0 : Int) ≤ (n : Int) := by omega
            have k0 : (0 : Int) ≤ (k : Int) := by omega
            have hp : 10 ^ k ≤ 10 ^ 18 := Nat.pow_le_pow_right (by omega) (by omega)
            have n2 : (n : Int) ≤ 999999999999999999 := by omega
            clear hd hn hp
            by_cases hlt : k < d.size
            · have hp2 : 10 ^ k ≤ 10 ^ 17 := Nat.pow_le_pow_right (by omega) (by omega)
              have n1 : (n : Int) ≤ 99999999999999999 := by have := HN2.out; omega
              have k1 : (k : Int) < (d.size : Int) := by omega
              have hsk : d.data.toList[k]? = some d[k] := by rw [List.getElem?_eq_getElem (by simpa using hlt)]; simp [ByteArray.getElem_eq_getElem_data]
              have HSK := Lib.hid hsk
              have HL := Lib.hid hlt
              clear hp2 hsk n2
              by_cases hz : 48 ≤ (d[k].toNat : Int) ∧ (d[k].toNat : Int) ≤ 57
              · have HV := Lib.hid (show Lib.digitVal d[k] = some (d[k].toNat - 48) by unfold Lib.digitVal; rw [if_pos (by omega)])
                have HE := Lib.hid (show ((n : Int) * 10 + ((d[k].toNat : Int) - 48)) = ((n * 10 + (d[k].toNat - 48) : Nat) : Int) by omega)
                have HC := Lib.hid (show d[k].toNat - 48 ≤ 9 by omega)
                have HS := Lib.hid (Lib.decFrom_take _ _ _ _ _ _ HD2.out HSK.out HV.out)
                obtain ⟨z1, z2⟩ := hz
                go_wp2
                go_roundw
                case rel => exact ⟨k + 1, _, rfl, rfl, by have := HL.out; omega, by go_num, by rw [← HE.out]; try go_num, HS.out, by rw [Nat.pow_succ]; have := HC.out; have := HN2.out; omega, by first | rfl | trivial⟩
                case measure => have := HL.out; simp [intOf]; omega
              · have HV := Lib.hid (show Lib.digitVal d[k] = none by unfold Lib.digitVal; rw [if_neg (by omega)])
                have HZ := Lib.hid (show numS s.data.toList = none from num_bad HG.out HR.out HSK.out HV.out)
                by_cases h3 : (d[k].toNat : Int) < 48
                · clear hz
                  go_wp2
                  exact bodyPost_ret (v := .tuple #[.int .i64 0, .bool false]) (by simp [results, Tryz.results54, go_sem]) rfl ⟨by rw [HZ.out]; rfl, rfl⟩
                · have h4 : 57 < (d[k].toNat : Int) := by omega
                  have h5 : 48 ≤ (d[k].toNat : Int) := by omega
                  clear hz h3
                  go_wp2
                  exact bodyPost_ret (v := .tuple #[.int .i64 0, .bool false]) (by simp [results, Tryz.results54, go_sem]) rfl ⟨by rw [HZ.out]; rfl, rfl⟩
            · have k2 : (d.size : Int) ≤ (k : Int) := by omega
              rw [List.take_of_length_le (by simp; omega)] at HD2
              have HZ := Lib.hid (num_ok HG.out HR.out HD2.out HB.out)
              clear hlt
              go_wp2
              exact bodyPost_ret (v := .tuple #[.int .i64 (-(n : Int)), .bool true]) (by simp [results, Tryz.results54, go_sem]) rfl ⟨by rw [HZ.out]; rfl, rfl⟩
  · have G1 := Lib.hid (show inR d.size 1 18 = false by simpa using g1)
    clear g1
    have HZ := Lib.hid (show numS s.data.toList = none from num_not (by rw [good_is HR.out HB.out, G1.out]; rfl))
    go_wp2_with (go_at_call 27; refine (sl1In_any _ _ _ _).mono ?_; rintro e w' ⟨rfl, rfl⟩; rw [G1.out])
    exact bodyPost_ret (v := .tuple #[.int .i64 0, .bool false]) (by simp [results, Tryz.results54, go_sem]) rfl ⟨by rw [HZ.out]; rfl, rfl⟩
set_option maxRecDepth 100000 in
set_option maxHeartbeats 4000000 in
theorem sNum_pos (s : ByteArray) (w : World) (hm : s.size ≤ 1048576) (hb : belowB s.data.toList = false) :
    Calls Tryz.prog 54 #[.string s] w fun e w' => e = .returned (.tuple #[.int .i64 ((numS s.data.toList).getD 0), .bool (numS s.data.toList).isSome]) ∧ w = w' := by
  have HB := Lib.hid hb
  have HR := Lib.hid (show restB s.data.toList = s.data.toList by rw [restB, hb]; rfl)
  by_cases h1 : (1 : Int) < (s.size : Int)
  · have h0 : 0 < s.size := by omega
    have h2 : ¬ (s[0].toNat : Int) = 45 := by
      intro e
      rw [belowB, head_byte h0, byte_eq (n := 45) e] at hb
      rw [show decide (1 < s.data.toList.length) = true from decide_eq_true (by have := len_s s; omega)] at hb
      revert hb; decide
    have h3 : ((s[0].toNat : Int) == 45) = false := by simpa using h2
    clear hb
    go_enter Tryz.func54, Tryz.ntmps54
    go_upto_region 5 with (fail)
    by_cases g1 : inR s.size 1 18 = true
    · have G1 := Lib.hid g1
      rw [inR_iff] at g1
      have hdl : 0 < s.size := by omega
      have H0 := Lib.hid (show s.data.toList.headD 0 = s[0] from head_byte hdl)
      have HDL := Lib.hid hdl
      have d18 : (s.size : Int) ≤ 18 := by omega
      have d1 : (1 : Int) ≤ (s.size : Int) := by omega
      have HGD := Lib.hid (good_is HR.out HB.out)
      clear g1
      by_cases g2 : 1 < s.size ∧ (s[0].toNat : Int) = 48
      · have HZ := Lib.hid (show numS s.data.toList = none from num_not (by rw [HGD.out, G1.out, lead_on hdl g2.1 g2.2]; rfl))
        obtain ⟨g2, g3⟩ := g2
        have g4 : (1 : Int) < (s.size : Int) := by omega
        clear g2
        go_wp2_with (go_at_call 27; refine (sl1In_any _ _ _ _).mono ?_; rintro e w' ⟨rfl, rfl⟩; rw [G1.out])
        exact bodyPost_ret (v := .tuple #[.int .i64 0, .bool false]) (by simp [results, Tryz.results54, go_sem]) rfl ⟨by rw [HZ.out]; rfl, rfl⟩
      · have G2 := Lib.hid (show (decide (1 < s.size) && (s.data.toList.headD 0 == 48)) = false from lead_off H0.out g2)
        by_cases g4 : (1 : Int) < (s.size : Int)
        · have g6 : ((s[0].toNat : Int) == 48) = false := by rw [beq_eq_false_iff_ne]; intro e; exact g2 ⟨by omega, e⟩
          have g6n : ¬ (s[0].toNat : Int) = 48 := fun e => g2 ⟨by omega, e⟩
          clear g2
          have HG := Lib.hid (show goodB s.data.toList = true by rw [HGD.out, G1.out]; exact zero_off2 G2.out)
          go_wp2_with (go_at_call 27; refine (sl1In_any _ _ _ _).mono ?_; rintro e w' ⟨rfl, rfl⟩; rw [G1.out])
          generalize ((s[0].toNat : Int) == 48) = bq at *
          subst g6
          go_loopw [2, 3, 6, 7] (fun r2 r3 r i wr => ∃ k n : Nat, r2 = .int .i64 0 ∧ r3 = .bool false ∧ k ≤ s.size ∧ i = .int .i64 k ∧ r = .int .i64 n ∧ Lib.decFrom 0 (s.data.toList.take k) = some n ∧ n < 10 ^ k ∧ w = wr) (fun _ _ _ i _ => s.size - (intOf i).toNat)
          case atStart => exact ⟨0, 0, rfl, rfl, by omega, rfl, rfl, by simp [Lib.decFrom], by simp, rfl⟩
          case round =>
            obtain ⟨k, n, rfl, rfl, hk, rfl, rfl, hd, hn, rfl⟩ := hrel
            have HD2 := Lib.hid hd
            have HN2 := Lib.hid hn
            have n0 : (0 : Int) ≤ (n : Int) := by omega
            have k0 : (0 : Int) ≤ (k : Int) := by omega
            have hp : 10 ^ k ≤ 10 ^ 18 := Nat.pow_le_pow_right (by omega) (by omega)
            have n2 : (n : Int) ≤ 999999999999999999 := by omega
            clear hd hn hp
            by_cases hlt : k < s.size
            · have hp2 : 10 ^ k ≤ 10 ^ 17 := Nat.pow_le_pow_right (by omega) (by omega)
              have n1 : (n : Int) ≤ 99999999999999999 := by have := HN2.out; omega
              have k1 : (k : Int) < (s.size : Int) := by omega
              have hsk : s.data.toList[k]? = some s[k] := by rw [List.getElem?_eq_getElem (by simpa using hlt)]; simp [ByteArray.getElem_eq_getElem_data]
              have HSK := Lib.hid hsk
              have HL := Lib.hid hlt
              clear hp2 hsk n2
              by_cases hz : 48 ≤ (s[k].toNat : Int) ∧ (s[k].toNat : Int) ≤ 57
              · have HV := Lib.hid (show Lib.digitVal s[k] = some (s[k].toNat - 48) by unfold Lib.digitVal; rw [if_pos (by omega)])
                have HE := Lib.hid (show ((n : Int) * 10 + ((s[k].toNat : Int) - 48)) = ((n * 10 + (s[k].toNat - 48) : Nat) : Int) by omega)
                have HC := Lib.hid (show s[k].toNat - 48 ≤ 9 by omega)
                have HS := Lib.hid (Lib.decFrom_take _ _ _ _ _ _ HD2.out HSK.out HV.out)
                obtain ⟨z1, z2⟩ := hz
                go_wp2
                go_roundw
                case rel => exact ⟨k + 1, _, rfl, rfl, by have := HL.out; omega, by go_num, by rw [← HE.out]; try go_num, HS.out, by rw [Nat.pow_succ]; have := HC.out; have := HN2.out; omega, by first | rfl | trivial⟩
                case measure => have := HL.out; simp [intOf]; omega
              · have HV := Lib.hid (show Lib.digitVal s[k] = none by unfold Lib.digitVal; rw [if_neg (by omega)])
                have HZ := Lib.hid (show numS s.data.toList = none from num_bad HG.out HR.out HSK.out HV.out)
                by_cases h3 : (s[k].toNat : Int) < 48
                · clear hz
                  go_wp2
                  exact bodyPost_ret (v := .tuple #[.int .i64 0, .bool false]) (by simp [results, Tryz.results54, go_sem]) rfl ⟨by rw [HZ.out]; rfl, rfl⟩
                · have h4 : 57 < (s[k].toNat : Int) := by omega
                  have h5 : 48 ≤ (s[k].toNat : Int) := by omega
                  clear hz h3
                  go_wp2
                  exact bodyPost_ret (v := .tuple #[.int .i64 0, .bool false]) (by simp [results, Tryz.results54, go_sem]) rfl ⟨by rw [HZ.out]; rfl, rfl⟩
            · have k2 : (s.size : Int) ≤ (k : Int) := by omega
              rw [List.take_of_length_le (by simp; omega)] at HD2
              have HZ := Lib.hid (num_ok HG.out HR.out HD2.out HB.out)
              clear hlt
              go_wp2
              exact bodyPost_ret (v := .tuple #[.int .i64 n, .bool true]) (by simp [results, Tryz.results54, go_sem]) rfl ⟨by rw [HZ.out]; rfl, rfl⟩
        · exact absurd g4 (by omega)
    · have G1 := Lib.hid (show inR s.size 1 18 = false by simpa using g1)
      clear g1
      have HZ := Lib.hid (show numS s.data.toList = none from num_not (by rw [good_is HR.out HB.out, G1.out]; rfl))
      go_wp2_with (go_at_call 27; refine (sl1In_any _ _ _ _).mono ?_; rintro e w' ⟨rfl, rfl⟩; rw [G1.out])
      exact bodyPost_ret (v := .tuple #[.int .i64 0, .bool false]) (by simp [results, Tryz.results54, go_sem]) rfl ⟨by rw [HZ.out]; rfl, rfl⟩
  · have h3 : (s.size : Int) ≤ 1 := by omega
    clear hb
    go_enter Tryz.func54, Tryz.ntmps54
    go_upto_region 5 with (fail)
    by_cases g1 : inR s.size 1 18 = true
    · have G1 := Lib.hid g1
      rw [inR_iff] at g1
      have hdl : 0 < s.size := by omega
      have H0 := Lib.hid (show s.data.toList.headD 0 = s[0] from head_byte hdl)
      have HDL := Lib.hid hdl
      have d18 : (s.size : Int) ≤ 18 := by omega
      have d1 : (1 : Int) ≤ (s.size : Int) := by omega
      have HGD := Lib.hid (good_is HR.out HB.out)
      clear g1
      by_cases g2 : 1 < s.size ∧ (s[0].toNat : Int) = 48
      · exact absurd g2.1 (by omega)
      · have G2 := Lib.hid (show (decide (1 < s.size) && (s.data.toList.headD 0 == 48)) = false from lead_off H0.out g2)
        by_cases g4 : (1 : Int) < (s.size : Int)
        · exact absurd g4 (by omega)
        · have g6 : (s.size : Int) ≤ 1 := by omega
          clear g2 g4
          have HG := Lib.hid (show goodB s.data.toList = true by rw [HGD.out, G1.out]; exact zero_off2 G2.out)
          go_wp2_with (go_at_call 27; refine (sl1In_any _ _ _ _).mono ?_; rintro e w' ⟨rfl, rfl⟩; rw [G1.out])
          go_loopw [2, 3, 6, 7] (fun r2 r3 r i wr => ∃ k n : Nat, r2 = .int .i64 0 ∧ r3 = .bool false ∧ k ≤ s.size ∧ i = .int .i64 k ∧ r = .int .i64 n ∧ Lib.decFrom 0 (s.data.toList.take k) = some n ∧ n < 10 ^ k ∧ w = wr) (fun _ _ _ i _ => s.size - (intOf i).toNat)
          case atStart => exact ⟨0, 0, rfl, rfl, by omega, rfl, rfl, by simp [Lib.decFrom], by simp, rfl⟩
          case round =>
            obtain ⟨k, n, rfl, rfl, hk, rfl, rfl, hd, hn, rfl⟩ := hrel
            have HD2 := Lib.hid hd
            have HN2 := Lib.hid hn
            have n0 : (0 : Int) ≤ (n : Int) := by omega
            have k0 : (0 : Int) ≤ (k : Int) := by omega
            have hp : 10 ^ k ≤ 10 ^ 18 := Nat.pow_le_pow_right (by omega) (by omega)
            have n2 : (n : Int) ≤ 999999999999999999 := by omega
            clear hd hn hp
            by_cases hlt : k < s.size
            · have hp2 : 10 ^ k ≤ 10 ^ 17 := Nat.pow_le_pow_right (by omega) (by omega)
              have n1 : (n : Int) ≤ 99999999999999999 := by have := HN2.out; omega
              have k1 : (k : Int) < (s.size : Int) := by omega
              have hsk : s.data.toList[k]? = some s[k] := by rw [List.getElem?_eq_getElem (by simpa using hlt)]; simp [ByteArray.getElem_eq_getElem_data]
              have HSK := Lib.hid hsk
              have HL := Lib.hid hlt
              clear hp2 hsk n2
              by_cases hz : 48 ≤ (s[k].toNat : Int) ∧ (s[k].toNat : Int) ≤ 57
              · have HV := Lib.hid (show Lib.digitVal s[k] = some (s[k].toNat - 48) by unfold Lib.digitVal; rw [if_pos (by omega)])
                have HE := Lib.hid (show ((n : Int) * 10 + ((s[k].toNat : Int) - 48)) = ((n * 10 + (s[k].toNat - 48) : Nat) : Int) by omega)
                have HC := Lib.hid (show s[k].toNat - 48 ≤ 9 by omega)
                have HS := Lib.hid (Lib.decFrom_take _ _ _ _ _ _ HD2.out HSK.out HV.out)
                obtain ⟨z1, z2⟩ := hz
                go_wp2
                go_roundw
                case rel => exact ⟨k + 1, _, rfl, rfl, by have := HL.out; omega, by go_num, by rw [← HE.out]; try go_num, HS.out, by rw [Nat.pow_succ]; have := HC.out; have := HN2.out; omega, by first | rfl | trivial⟩
                case measure => have := HL.out; simp [intOf]; omega
              · have HV := Lib.hid (show Lib.digitVal s[k] = none by unfold Lib.digitVal; rw [if_neg (by omega)])
                have HZ := Lib.hid (show numS s.data.toList = none from num_bad HG.out HR.out HSK.out HV.out)
                by_cases h3 : (s[k].toNat : Int) < 48
                · clear hz
                  go_wp2
                  exact bodyPost_ret (v := .tuple #[.int .i64 0, .bool false]) (by simp [results, Tryz.results54, go_sem]) rfl ⟨by rw [HZ.out]; rfl, rfl⟩
                · have h4 : 57 < (s[k].toNat : Int) := by omega
                  have h5 : 48 ≤ (s[k].toNat : Int) := by omega
                  clear hz h3
                  go_wp2
                  exact bodyPost_ret (v := .tuple #[.int .i64 0, .bool false]) (by simp [results, Tryz.results54, go_sem]) rfl ⟨by rw [HZ.out]; rfl, rfl⟩
            · have k2 : (s.size : Int) ≤ (k : Int) := by omega
              rw [List.take_of_length_le (by simp; omega)] at HD2
              have HZ := Lib.hid (num_ok HG.out HR.out HD2.out HB.out)
              clear hlt
              go_wp2
              exact bodyPost_ret (v := .tuple #[.int .i64 n, .bool true]) (by simp [results, Tryz.results54, go_sem]) rfl ⟨by rw [HZ.out]; rfl, rfl⟩
    · have G1 := Lib.hid (show inR s.size 1 18 = false by simpa using g1)
      clear g1
      have HZ := Lib.hid (show numS s.data.toList = none from num_not (by rw [good_is HR.out HB.out, G1.out]; rfl))
      go_wp2_with (go_at_call 27; refine (sl1In_any _ _ _ _).mono ?_; rintro e w' ⟨rfl, rfl⟩; rw [G1.out])
      exact bodyPost_ret (v := .tuple #[.int .i64 0, .bool false]) (by simp [results, Tryz.results54, go_sem]) rfl ⟨by rw [HZ.out]; rfl, rfl⟩
theorem sNum_any (s : ByteArray) (w : World) (hm : s.size ≤ 1048576) :
    Calls Tryz.prog 54 #[.string s] w fun e w' => e = .returned (.tuple #[.int .i64 ((numS s.data.toList).getD 0), .bool (numS s.data.toList).isSome]) ∧ w = w' := by
  cases h : belowB s.data.toList with
  | true => exact sNum_neg s w hm h
  | false => exact sNum_pos s w hm h
end
end Go.Proofs.YtomllcclallcdaaGreatDoor
namespace Go.Proofs.YtomllcclallcdaaGreatDoor
section
open Go.RowKit Go.Sort
section
variable {P : Program} {ops : Array Oper} {C : World → Prop} {md : Region.Mode} {Q : Exit → Act → World → Prop} {n : Nat}
def anyB (P : Program) (md : Region.Mode) (ops : Array Oper) (Q : Exit → Act → World → Prop) (C : World → Prop) (n : Nat) : Nat → Array Bool → Act → World → Prop
  | 0, listed, a, w => Region.ready md ops listed = [] ∧ Q .normal a w
  | fuel + 1, listed, a, w => (Region.ready md ops listed = [] → Q .normal a w) ∧
    ∀ i ∈ Region.ready md ops listed, wpOp P ops Q i (fun a' w' => (C w' ∨ n ≤ i) ∧ anyB P md ops Q C n fuel (listed.setIfInBounds i true) a' w') a w
theorem any_of_B : ∀ (fuel : Nat) (listed : Array Bool) (a : Act) (w : World), anyB P md ops Q C n fuel listed a w → wpAny P md ops Q fuel listed a w
  | 0, _, _, _, h => h
  | fuel + 1, _, _, _, h => ⟨h.1, fun i hi => wpOp_mono (fun a' w' h' => any_of_B fuel _ a' w' h'.2) (h.2 i hi)⟩
theorem anyB_first {i : Nat} {oi : Oper} {v : Value} (hw : ∀ j, n ≤ j → j < ops.size → ∀ i, i < n → Region.waitsFor md ops j i = true) (hin : i < n) (hi : ops[i]? = some oi) (hsel : ∀ (j : Nat) (o : Oper) cs b, ops[j]? = some o → o.op ≠ .select cs b)
    (hQ : ∀ c a w, Q (.panic c) (a.put oi.dst v) w → Q (.panic c) a w) : ∀ (fuel : Nat) (listed : Array Bool) (a : Act) (w : World),
      (∀ j oj, ops[j]? = some oj → j ≠ i → listed.getD j true = false → (∀ e ∈ oj.after, Region.binds md e = true → e.on ≠ i) → oi.apart ops oj = true) →
      i ∈ Region.ready md ops listed → YieldsIf P ops C oi v a → C w →
      anyB P md ops Q C n fuel (listed.setIfInBounds i true) (a.put oi.dst v) w → anyB P md ops Q C n (fuel + 1) listed a w
  | 0, listed, a, w, _, hr, hy, hS, H => by
    refine ⟨fun h => (by rw [h] at hr; cases hr), fun j hj => ?_⟩
    by_cases hji : j = i
    · subst hji; exact hy.wpOp hi hS ⟨.inl hS, H⟩
    · have := ready_mono hj hji
      rw [H.1] at this
      cases this
  | fuel + 1, listed, a, w, hfree, hr, hy, hS, H => by
    refine ⟨fun h => (by rw [h] at hr; cases hr), fun j hj => ?_⟩
    by_cases hji : j = i
    · subst hji; exact hy.wpOp hi hS ⟨.inl hS, H⟩
    · have h1 := H.2 j (ready_mono hj hji)
      obtain ⟨hjun, oj, hoj, hall⟩ := mem_ready.1 hj
      have hiun := (mem_ready.1 hr).1
      have hnot : ∀ e ∈ oj.after, Region.binds md e = true → e.on ≠ i := fun e he hb heq => by
        have h1 := hall e he hb
        rw [heq] at h1
        rcases Nat.lt_or_ge i listed.size with h' | h'
        · simp [h'] at hiun h1; rw [hiun] at h1; cases h1
        · simp [Array.getElem?_eq_none h'] at h1
      have h2 := wpOp_putIf hoj (hfree j oj hoj hji hjun hnot) (fun cs b => hsel i oi cs b hi) (fun cs b => hsel j oj cs b hoj) hQ hy h1
      have hfree' : ∀ k ok, ops[k]? = some ok → k ≠ i → (listed.setIfInBounds j true).getD k true = false →
          (∀ e ∈ ok.after, Region.binds md e = true → e.on ≠ i) → oi.apart ops ok = true := fun k ok hk hki hun hno => by
        refine hfree k ok hk hki ?_ hno
        by_cases hjk : j = k
        · subst hjk; exact hjun
        · rw [getD_set_ne true hjk] at hun; exact hun
      refine wpOp_mono (fun a' w' h3 => ?_) h2
      obtain ⟨hy3, hC3, h3⟩ := h3
      rcases hC3 with hC3 | hC3
      · refine ⟨.inl hC3, anyB_first hw hin hi hsel hQ fuel (listed.setIfInBounds j true) a' w' hfree' (ready_mono hr (Ne.symm hji)) hy3 hC3 ?_⟩
        rw [Array.setIfInBounds_comm _ _ hji]
        exact h3
      · obtain ⟨oj', ho', e, he, hb, heq⟩ := Region.waitsFor_spec (hw j hC3 (Array.getElem?_eq_some_iff.1 hoj).1 i hin)
        rw [hoj] at ho'
        injection ho' with ho'
        subst ho'
        exact absurd heq (hnot e he hb)
def wpS (P : Program) (ops : Array Oper) (C : World → Prop) (K : Act → World → Prop) : List Nat → List Oper → Act → World → Prop
  | _, [], a, w => K a w
  | [], _ :: _, _, _ => False
  | b :: fs, o :: rest, a, w => if Region.wanted o (yielded ops a.tmps) = true then
        (if b = 0 then o.quiet P a C (fun a' => wpS P ops C K fs rest a' w)
         else o.wp P a w (fun a' w' => (b = 2 ∨ C w') ∧ wpS P ops C K fs rest a' w') (fun _ _ _ => False))
      else wpS P ops C K fs rest (a.put o.dst undef) w
def ordS (md : Region.Mode) (ops : Array Oper) (n : Nat) : List Nat → List Nat → Array Bool → Bool
  | _, [], listed => (Region.ready md ops listed).isEmpty
  | [], _ :: _, _ => false
  | b :: fs, i :: rest, listed => (if b = 0 then decide (i < n) && ((Region.ready md ops listed).contains i && (Region.free md ops listed i && ((ops[i]?).map plainOp).getD false))
      else (Region.ready md ops listed == [i] && (b != 2 || decide (n ≤ i)))) && ordS md ops n fs rest (listed.setIfInBounds i true)
def waitB (md : Region.Mode) (ops : Array Oper) (n : Nat) : Bool := (List.range ops.size).all fun j => decide (j < n) || (List.range n).all fun i => Region.waitsFor md ops j i
theorem waitB_spec (h : waitB md ops n = true) (j : Nat) (h1 : n ≤ j) (h2 : j < ops.size) (i : Nat) (h3 : i < n) : Region.waitsFor md ops j i = true := by
  have := List.all_eq_true.1 h j (List.mem_range.2 h2)
  rw [show decide (j < n) = false by simpa using h1, Bool.false_or] at this
  exact List.all_eq_true.1 this i (List.mem_range.2 h3)
theorem anyB_of_wpS {K : Act → World → Prop} (hs : Region.noSelect ops = true) (hw : ∀ j, n ≤ j → j < ops.size → ∀ i, i < n → Region.waitsFor md ops j i = true) : ∀ (fs l : List Nat) (L : List Oper) (listed : Array Bool) (a : Act) (w : World), l.map (fun i => ops[i]?) = L.map some → ordS md ops n fs l listed = true → (C w ∨ ∀ k, k < n → listed.getD k true = true) →
    wpS P ops C K fs L a w → anyB P md ops (fun e a w => e = .normal ∧ K a w) C n l.length listed a w
  | fs, [], [], listed, a, w, _, ho, _, h => ⟨by cases fs <;> simpa [ordS] using ho, rfl, by cases fs <;> exact h⟩
  | _, [], _ :: _, _, _, _, hl, _, _, _ => by simp at hl
  | _, _ :: _, [], _, _, _, hl, _, _, _ => by simp at hl
  | [], _ :: _, _ :: _, _, _, _, _, ho, _, _ => by simp [ordS] at ho
  | b :: fs, i :: rest, o :: L, listed, a, w, hl, ho, hC, h => by
    simp only [ordS, Bool.and_eq_true] at ho
    obtain ⟨ho1, ho2⟩ := ho
    simp only [wpS] at h
    simp only [List.map_cons, List.cons.injEq] at hl
    obtain ⟨hi, hl⟩ := hl
    have keep : (∀ k, k < n → listed.getD k true = true) → ∀ k, k < n → (listed.setIfInBounds i true).getD k true = true := fun h k hk => by
      by_cases e : i = k
      · subst e
        rcases Nat.lt_or_ge i listed.size with h' | h'
        · simp [Array.getElem?_setIfInBounds_self_of_lt h']
        · simp [Array.getElem?_eq_none (show (listed.setIfInBounds i true).size ≤ i by simpa using h')]
      · rw [getD_set_ne true e]; exact h k hk
    by_cases hb : b = 0
    · subst hb
      simp only [if_true, Bool.and_eq_true, decide_eq_true_eq] at ho1 h
      obtain ⟨hin, hr, hf, hp⟩ := ho1
      have hrd : i ∈ Region.ready md ops listed := by simpa using hr
      have hCw : C w := by
        rcases hC with hC | hC
        · exact hC
        · have h1 := hC i hin
          rw [(mem_ready.1 hrd).1] at h1
          cases h1
      have hp' : plainOp o = true := by simpa [hi] using hp
      by_cases hwd : Region.wanted o (yielded ops a.tmps) = true
      · simp only [hwd, if_true] at h
        obtain ⟨v, h1, h2⟩ := h
        refine anyB_first hw hin hi (Region.noSelect_spec hs) (fun c a w q => by cases q.1) rest.length listed a w (Region.free_spec hi hf) hrd (.inl ⟨hwd, fun w' hw' => ?_⟩) hCw (anyB_of_wpS hs hw fs rest L _ _ w hl ho2 (.inl hCw) h2)
        have h3 := h1 w' hw'
        unfold Oper.quietAt at h3
        generalize hx : (execOp a.eval o).run P w' = r at h3
        cases r with
        | ok n w'' =>
          obtain ⟨u, rfl⟩ := plain_value hp' hx
          simp only [Oper.quietUpon] at h3
          rw [h3.1, h3.2]
        | halt x w'' => exact h3.elim
      · have hwd' : Region.wanted o (yielded ops a.tmps) = false := by simpa using hwd
        simp only [hwd', Bool.false_eq_true, if_false] at h
        exact anyB_first hw hin hi (Region.noSelect_spec hs) (fun c a w q => by cases q.1) rest.length listed a w (Region.free_spec hi hf) hrd (.inr ⟨hwd', rfl⟩) hCw (anyB_of_wpS hs hw fs rest L _ _ w hl ho2 (.inl hCw) h)
    · simp only [if_neg hb, Bool.and_eq_true] at ho1 h
      obtain ⟨ho1, ht⟩ := ho1
      have hr : Region.ready md ops listed = [i] := by simpa using ho1
      have hrd : i ∈ Region.ready md ops listed := by rw [hr]; simp
      have tail : b = 2 → ∀ k, k < n → (listed.setIfInBounds i true).getD k true = true := fun e => by
        have hni : n ≤ i := by simpa [e] using ht
        refine keep fun k hk => ?_
        obtain ⟨_, oi, hoi, hall⟩ := mem_ready.1 hrd
        obtain ⟨oi', ho', ed, hed, hbd, heq⟩ := Region.waitsFor_spec (hw i hni (Array.getElem?_eq_some_iff.1 hoi).1 k hk)
        rw [hoi] at ho'
        injection ho' with ho'
        subst ho'
        have h1 := hall ed hed hbd
        rw [heq] at h1
        rcases Nat.lt_or_ge k listed.size with h' | h'
        · simp [h'] at h1 ⊢; exact h1
        · simp [Array.getElem?_eq_none h'] at h1
      refine ⟨fun h0 => (by rw [hr] at h0; cases h0), fun j hj => ?_⟩
      obtain rfl : j = i := by rw [hr] at hj; simpa using hj
      unfold wpOp
      simp only [hi]
      have done : ∀ a' w', (b = 2 ∨ C w') ∧ wpS P ops C K fs L a' w' → (C w' ∨ n ≤ j) ∧ anyB P md ops (fun e a w => e = .normal ∧ K a w) C n rest.length (listed.setIfInBounds j true) a' w' := fun a' w' hh => by
        rcases hh.1 with e | e
        · exact ⟨.inr (by simpa [e] using ht), anyB_of_wpS hs hw fs rest L _ a' w' hl ho2 (.inr (tail e)) hh.2⟩
        · exact ⟨.inl e, anyB_of_wpS hs hw fs rest L _ a' w' hl ho2 (.inl e) hh.2⟩
      split
      · rename_i hwd
        simp only [hwd, if_true] at h
        refine .inl ?_
        have h2 := Oper.wp_mono done h
        unfold Oper.wp at *
        generalize (execOp a.eval o).run P w = r at *
        cases r with
        | ok n w' =>
          cases n <;> simp only [Oper.upon] at h2 ⊢ <;> first
            | exact h2
            | exact Calls.mono h2 fun e w'' he => by
                cases e with
                | returned v => exact he
                | panicked c => exact he.elim
                | outgrown => obtain ⟨_, _, q⟩ := he; exact q.elim
        | halt x w' => cases x <;> simp only [Oper.upon] at h2 ⊢ <;> exact h2.elim
      · rename_i hwd
        simp only [hwd] at h
        rcases hC with hC | hC
        · exact ⟨.inl hC, anyB_of_wpS hs hw fs rest L _ _ w hl ho2 (.inl hC) h⟩
        · by_cases hjn : n ≤ j
          · exact ⟨.inr hjn, anyB_of_wpS hs hw fs rest L _ _ w hl ho2 (.inr (keep hC)) h⟩
          · have h1 := hC j (by omega)
            rw [(mem_ready.1 hrd).1] at h1
            cases h1
end
structure Rgs (P : Program) (ops : Array Oper) (C : World → Prop) (K : Act → World → Prop) (fs : List Nat) (l : List Oper) (a : Act) (w : World) : Prop where
  out : wpS P ops C K fs l a w
section
variable {P : Program} {ops : Array Oper} {C : World → Prop} {K : Act → World → Prop}
theorem wpS_nil {fs : List Nat} {a : Act} {w : World} (h : K a w) : Rgs P ops C K fs [] a w := ⟨by cases fs <;> exact h⟩
theorem wpS_skip {a : Act} {w : World} {b : Nat} {fs : List Nat} {rest : List Oper} {o : Oper} (hw : Region.wanted o (yielded ops a.tmps) = false)
    (h : Rgs P ops C K fs rest (a.put o.dst undef) w) : Rgs P ops C K (b :: fs) (o :: rest) a w := ⟨by
  simp only [wpS, hw, Bool.false_eq_true, if_false]; exact h.out⟩
theorem wpS_det {a : Act} {w : World} {fs : List Nat} {rest : List Oper} {o : Oper} (hw : Region.wanted o (yielded ops a.tmps) = true)
    (h : ∀ K' : Act → Prop, (∀ a, Rgs P ops C K fs rest a w → K' a) → o.quiet P a C K') : Rgs P ops C K (0 :: fs) (o :: rest) a w := ⟨by
  simp only [wpS, hw, if_true]; exact h _ fun _ h => h.out⟩
theorem wpS_bar {a : Act} {w : World} {fs : List Nat} {rest : List Oper} {o : Oper} (hw : Region.wanted o (yielded ops a.tmps) = true)
    (h : ∀ K' : Act → World → Prop, (∀ a w', C w' → Rgs P ops C K fs rest a w' → K' a w') → o.wp P a w K' (fun _ _ _ => False)) : Rgs P ops C K (1 :: fs) (o :: rest) a w := ⟨by
  simp only [wpS, hw, if_true]; exact h _ fun _ _ h1 h2 => ⟨.inr h1, h2.out⟩⟩
theorem wpS_end {a : Act} {w : World} {fs : List Nat} {rest : List Oper} {o : Oper} (hw : Region.wanted o (yielded ops a.tmps) = true)
    (h : ∀ K' : Act → World → Prop, (∀ a w', Rgs P ops C K fs rest a w' → K' a w') → o.wp P a w K' (fun _ _ _ => False)) : Rgs P ops C K (2 :: fs) (o :: rest) a w := ⟨by
  simp only [wpS, hw, if_true]; exact h _ fun _ _ h2 => ⟨.inl trivial, h2.out⟩⟩
end
theorem region_any {P : Program} {Q : Exit → Act → World → Prop} {a : Act} {w : World} {L0 : List Oper} (n : Nat) (fs ord : List Nat) (hs : Region.noSelect L0.toArray = true) (hw : waitB .any L0.toArray n = true)
    (hn : ord.length = L0.length) (hL : ord.map (fun i => L0.toArray[i]?) = (permL L0 ord).map some) (hB : ordS .any L0.toArray n fs ord (Array.replicate L0.length false) = true)
    (h : Rgs P L0.toArray (fun w' => ∃ p : Regrown, w' = grow (redrawn w p.d) p.os) (fun a' w' => Q .normal a' w') fs (permL L0 ord) a w.drew) :
    wpAny P .any L0.toArray (fun e a w => e = .normal ∧ Q .normal a w) L0.toArray.size (Array.replicate L0.toArray.size false) a w.drew := by
  have := anyB_of_wpS (md := .any) hs (waitB_spec hw) fs ord (permL L0 ord) (Array.replicate L0.length false) a w.drew hL hB (.inl ⟨⟨w.drawn + 1, #[]⟩, by rw [grow_empty]; rfl⟩) h.out
  rw [hn] at this
  simpa using any_of_B _ _ _ _ this
theorem region_S {P : Program} {id : Nat} {Q : Exit → Act → World → Prop} {a : Act} {w : World} {L0 : List Oper} (n : Nat) (fs ord : List Nat) (hm : P.follows .mixedOrders = true) (hs : Region.noSelect L0.toArray = true) (hw : waitB .any L0.toArray n = true)
    (hn : ord.length = L0.length) (hL : ord.map (fun i => L0.toArray[i]?) = (permL L0 ord).map some) (hB : ordS .any L0.toArray n fs ord (Array.replicate L0.length false) = true)
    (h : Rgs P L0.toArray (fun w' => ∃ p : Regrown, w' = grow (redrawn w p.d) p.os) (fun a' w' => Q .normal a' w') fs (permL L0 ord) a w.drew) : (Code.region id L0.toArray true).wp P Q a w := by
  refine Code.wp_mono (Q := fun e a w => e = .normal ∧ Q .normal a w) (fun e a w hh => by obtain ⟨rfl, hh⟩ := hh; exact hh) ?_
  exact wp_region_any hm (region_any n fs ord hs hw hn hL hB h)
structure Twice where
  b : Bool
  d : Nat
  os : Array Obj
instance : Nonempty Twice := ⟨⟨true, 0, #[]⟩⟩
def twoC (f : Bool → World) (w' : World) : Prop := ∃ p : Twice, w' = grow (redrawn (f p.b) p.d) p.os
theorem twoC_drew {f : Bool → World} {w : World} (b : Bool) (h : f b = w) : twoC f w.drew := ⟨⟨b, w.drawn + 1, #[]⟩, by rw [grow_empty, h]; rfl⟩
end
end Go.Proofs.YtomllcclallcdaaGreatDoor
namespace Go.Proofs.YtomllcclallcdaaGreatDoor
section
open Go.RowKit Go.Sort
def rowL (f : Nat → Nat → Value) (n : Nat) : Nat → List Value
  | 0 => []
  | k + 1 => rowL f n k ++ (List.range n).map (f k)
theorem rowL_length (f : Nat → Nat → Value) (n : Nat) : ∀ k, (rowL f n k).length = k * n
  | 0 => by simp [rowL]
  | k + 1 => by simp [rowL, rowL_length f n k, Nat.succ_mul]
theorem rowL_get {f : Nat → Nat → Value} {n j i : Nat} (hi : i < n) : ∀ k, j < k → (rowL f n k)[j * n + i]? = some (f j i)
  | 0, h => by omega
  | k + 1, h => by
    by_cases e : j = k
    · subst e
      rw [rowL, List.getElem?_append_right (by rw [rowL_length]; omega), rowL_length]
      simp [hi]
    · have hj : j < k := by omega
      have hlt : j * n + i < k * n := by
        have := Nat.mul_le_mul_right n (show j + 1 ≤ k by omega)
        rw [Nat.succ_mul] at this
        omega
      rw [rowL, List.getElem?_append_left (by rw [rowL_length]; exact hlt)]
      exact rowL_get hi k hj
theorem row_of_own {w : World} {B : Nat} {T : TypeId} {n len : Nat} {v : Value} {f : Nat → Nat → Value} (h : w.ownsRow B T n v len (rowL f n len)) : ∃ A cap, v = .slice A len cap ∧ RowR w B A T n len f := by
  rcases h.2 with ⟨rfl, rfl⟩ | ⟨g, cap, cur, rfl, hb, hg, hn, hcm, hcs, ht⟩
  · exact ⟨none, 0, rfl, RowR.nil⟩
  · refine ⟨_, cap, rfl, RowR.mk_ hb hg fun k i hk hi => ?_⟩
    have h1 := rowL_get (f := f) hi len hk
    rw [← ht, List.getElem?_take] at h1
    split at h1
    · simpa using h1
    · cases h1
def SlT (t e : TypeId) (size bytes : Nat) : Prop := ∃ i z, Tryz.prog.underlying t = some (.slice e) ∧ Tryz.prog.info? e = some i ∧ i.zero = some z ∧ i.size = size ∧ i.bytes = bytes ∧ z.cells.size = size
theorem slT_of {t e : TypeId} {z : Value} {size bytes : Nat} (ht : Tryz.prog.underlying t = some (.slice e)) (hi : (Tryz.prog.info? e).map (fun i => (i.zero, i.size, i.bytes)) = some (some z, size, bytes)) (hz : z.cells.size = size) : SlT t e size bytes := by
  obtain ⟨i0, hi, hz0, hz1, hz2⟩ := info_parts hi
  exact ⟨i0, z, ht, hi, hz0, hz1, hz2, hz⟩
theorem Keep.of_grown {w w' : World} {v : Value} (h : w.grownBy w' v.ownBlock) : Keep (fun j => v.ownBlock = some j) w w' := ⟨h.os, h.tape, h.output, h.size, fun k hk hn => h.block k hk (fun e => hn e.symm)⟩
theorem app_one {t e T' ty : TypeId} {size bytes : Nat} (hT : SlT t e size bytes) (hsz : 0 < size) (hby : bytes ≤ 1024) {W : World} {B k : Nat} {v : Value} {xs : List Value} (hown : W.ownsRow B e size v k xs) (hB : B ≤ W.heap.size) (hk : k ≤ 1048576)
    (es : List Value) (hes : es.length = size) (h1 : ∀ u ∈ es, u.oneCell' = true) {W1 : World} (hbl : Below W.heap.size W W1) (hsz1 : W1.heap.size = W.heap.size + 1) (hblk : Blk W1 W.heap.size T' es.toArray) :
    ∃ g cap w5, (Builtin.append_ #[t, t] ty #[v, .slice (some ⟨W.heap.size, 0, none⟩) 1 1]).run Tryz.prog W1 = .ok (.slice (some ⟨g, 0, none⟩) (k + 1 : Nat) cap) w5 ∧ w5.ownsRow B e size (.slice (some ⟨g, 0, none⟩) (k + 1 : Nat) cap) (k + 1) (xs ++ es) ∧ Keep (fun j => v.ownBlock = some j) W w5 ∧ (v.ownBlock = some g ∨ W.heap.size < g) ∧ g < w5.heap.size ∧ B ≤ g := by
  obtain ⟨i, z, ht, hi, hz, hs, hb, hzs⟩ := hT
  have own1 : W1.ownsRow B e size v k xs := by
    refine ⟨hown.1, ?_⟩
    rcases hown.2 with h | ⟨g, cap, cur, rfl, h1, h2, h3⟩
    · exact .inl h
    · exact .inr ⟨g, cap, cur, rfl, h1, (hbl.block g (Blk.lt h2)).trans h2, h3⟩
  have hkb : (k + 1) * bytes ≤ 140737488355328 := by
    have := Nat.mul_le_mul (show k + 1 ≤ 1048577 by omega) hby
    omega
  obtain ⟨g, cap, w5, hr, h2, h3, h4, h5⟩ := run_append_lies (P := Tryz.prog) W1 t ty B e i z size bytes ht hi hz hs hb hzs hsz v k xs own1 ⟨W.heap.size, 0, none⟩ 1 1 es (by rw [hes, Nat.one_mul])
    (fun j u hu => by
      rw [addr_mid, Nat.zero_add]
      rw [hblk.cell j]
      simpa using hu) h1 (by omega) (by unfold maxLen; omega) hkb (by omega) (W.heap.size + 1) hsz1
  refine ⟨g, cap, w5, hr, h2, ?_, ?_, h5, ?_⟩
  · exact (Keep.of_below hbl).then_ (Keep.of_grown h3) fun _ _ h => h
  · rcases h4 with h4 | h4
    · exact .inl h4
    · exact .inr (by omega)
  · rcases h2.2 with ⟨h, _⟩ | ⟨g', cap', cur', he, hbg, _⟩
    · cases h
    · cases he; exact hbg
theorem app_drew {t e T' ty : TypeId} {size bytes : Nat} (hT : SlT t e size bytes) (hsz : 0 < size) (hby : bytes ≤ 1024) {W : World} {B k : Nat} {v : Value} {xs : List Value} (hown : W.ownsRow B e size v k xs) (hB : B ≤ W.heap.size) (hk : k ≤ 1048576)
    (es : List Value) (hes : es.length = size) (h1 : ∀ u ∈ es, u.oneCell' = true) :
    ∃ g cap w5, (Builtin.append_ #[t, t] ty #[v, .slice (some ⟨W.heap.size, 0, none⟩) 1 1]).run Tryz.prog (W.drew.alloc (.cells es.toArray T')) = .ok (.slice (some ⟨g, 0, none⟩) (k + 1 : Nat) cap) w5 ∧ w5.ownsRow B e size (.slice (some ⟨g, 0, none⟩) (k + 1 : Nat) cap) (k + 1) (xs ++ es) ∧ Keep (fun j => v.ownBlock = some j) W w5 ∧ (v.ownBlock = some g ∨ W.heap.size < g) ∧ g < w5.heap.size ∧ B ≤ g :=
  app_one hT hsz hby hown hB hk es hes h1 ((Below.refl _ _).drew.alloc (Nat.le_refl _) _) (by simp) (Blk.new W.drew T' es.toArray)
theorem wp_append_run {o : Oper} {a : Act} {w w5 : World} {K : Act → World → Prop} {Q : Exit → Act → World → Prop} {s x : Operand} {t : TypeId} {v u v5 : Value} (ho : o.op = .call { callee := .builtin .append, args := #[s, x], argTypes := #[t, t] })
    (hs : a.eval s = v) (hx : a.eval x = u) (hr : (Builtin.append_ #[t, t] o.type #[v, u]).run Tryz.prog w = .ok v5 w5) (h : K (a.put o.dst v5) w5) : o.wp Tryz.prog a w K Q := by
  unfold Oper.wp execOp
  simp only [ho, resolve, invoke, builtin, Sem.run_bind, Sem.run_pure, Result.andThen_ok, List.map_toArray, List.map_cons, List.map_nil, hs, hx, hr]
  exact h
theorem wpList_append_run {ops : Array Oper} {rest : List Oper} {o : Oper} {a : Act} {w w5 : World} {Q : Exit → Act → World → Prop} (hgd : o.guard = none) {s x : Operand} {t : TypeId} {v u v5 : Value} (ho : o.op = .call { callee := .builtin .append, args := #[s, x], argTypes := #[t, t] })
    (hs : a.eval s = v) (hx : a.eval x = u) (hr : (Builtin.append_ #[t, t] o.type #[v, u]).run Tryz.prog w = .ok v5 w5) (h : wpList Tryz.prog ops Q rest (a.put o.dst v5) w5) : wpList Tryz.prog ops Q (o :: rest) a w :=
  wpList_plain hgd fun _ hK => wp_append_run ho hs hx hr (hK _ _ h)
theorem rowL_congr {f g : Nat → Nat → Value} {n : Nat} : ∀ {k : Nat}, (∀ j i, j < k → f j i = g j i) → rowL f n k = rowL g n k
  | 0, _ => rfl
  | k + 1, h => by
    rw [rowL, rowL, rowL_congr fun j i hj => h j i (by omega)]
    congr 1
    exact List.map_congr_left fun i _ => h k i (by omega)
theorem twoC_below {f : Bool → World} {w' : World} (b : Bool) (h : Below (f b).heap.size (f b) w') : twoC f w' := by
  obtain ⟨p, hp⟩ := regrown_of_below h
  exact ⟨⟨b, p.d, p.os⟩, hp⟩
theorem region_SC {P : Program} {id : Nat} {Q : Exit → Act → World → Prop} {a : Act} {w : World} {L0 : List Oper} (C : World → Prop) (hC : C w.drew) (n : Nat) (fs ord : List Nat) (hm : P.follows .mixedOrders = true) (hs : Region.noSelect L0.toArray = true) (hw : waitB .any L0.toArray n = true)
    (hn : ord.length = L0.length) (hL : ord.map (fun i => L0.toArray[i]?) = (permL L0 ord).map some) (hB : ordS .any L0.toArray n fs ord (Array.replicate L0.length false) = true)
    (h : Rgs P L0.toArray C (fun a' w' => Q .normal a' w') fs (permL L0 ord) a w.drew) : (Code.region id L0.toArray true).wp P Q a w := by
  refine Code.wp_mono (Q := fun e a w => e = .normal ∧ Q .normal a w) (fun e a w hh => by obtain ⟨rfl, hh⟩ := hh; exact hh) ?_
  refine wp_region_any hm ?_
  have := anyB_of_wpS (md := .any) hs (waitB_spec hw) fs ord (permL L0 ord) (Array.replicate L0.length false) a w.drew hL hB (.inl hC) h.out
  rw [hn] at this
  simpa using any_of_B _ _ _ _ this
theorem Keep.cell {S : Nat → Prop} {w w' : World} (h : Keep S w w') {b o : Nat} {v : Value} (hc : w.cell? ⟨b, o, none⟩ = some v) (hb : b < w.heap.size) (hS : ¬ S b) : w'.cell? ⟨b, o, none⟩ = some v := (World.cell?_of_block (w := w) (h.block b hb hS)).trans hc
theorem own_keep {S : Nat → Prop} {w w' : World} {B : Nat} {T : TypeId} {n k : Nat} {v : Value} {xs : List Value} (h : w.ownsRow B T n v k xs) (hk : Keep S w w') (hS : ∀ j, v.ownBlock = some j → ¬ S j) : w'.ownsRow B T n v k xs := by
  refine ⟨h.1, ?_⟩
  rcases h.2 with h | ⟨g, cap, cur, rfl, h1, h2, h3⟩
  · exact .inl h
  · exact .inr ⟨g, cap, cur, rfl, h1, hk.blk h2 (hS g rfl), h3⟩
theorem own_below {w w' : World} {B : Nat} {T : TypeId} {n k : Nat} {v : Value} {xs : List Value} (h : w.ownsRow B T n v k xs) (hb : Below w.heap.size w w') : w'.ownsRow B T n v k xs := own_keep h (Keep.of_below (S := fun _ => False) hb) fun _ _ h => h
theorem own_ne {w : World} {B B' : Nat} {T T' : TypeId} {n n' k k' : Nat} {v v' : Value} {xs xs' : List Value} (h : w.ownsRow B T n v k xs) (h' : w.ownsRow B' T' n' v' k' xs') (hT : T ≠ T') : ∀ j, v.ownBlock = some j → ¬ v'.ownBlock = some j := by
  intro j hj hj'
  rcases h.2 with ⟨rfl, _⟩ | ⟨g, cap, cur, rfl, h1, h2, h3⟩
  · cases hj
  rcases h'.2 with ⟨rfl, _⟩ | ⟨g', cap', cur', rfl, h1', h2', h3'⟩
  · cases hj'
  have e1 : g = j := by simpa [Value.ownBlock] using hj
  have e2 : g' = j := by simpa [Value.ownBlock] using hj'
  subst e1
  subst e2
  rw [h2] at h2'
  simp only [Option.some.injEq, Obj.cells.injEq] at h2'
  exact hT h2'.2.1
theorem own_far {w : World} {B : Nat} {T : TypeId} {n k : Nat} {v : Value} {xs : List Value} (h : w.ownsRow B T n v k xs) {g : Nat} (hg : g < B) : ¬ v.ownBlock = some g := fun e => by have := (h.lt _ e).1; omega
theorem own_set {w : World} {B : Nat} {T : TypeId} {n k : Nat} {v : Value} {xs : List Value} (h : w.ownsRow B T n v k xs) {g i : Nat} (hg : g < B) (u : Value) : (w.setCell ⟨g, i, none⟩ u).ownsRow B T n v k xs :=
  own_keep h (Keep.set (S := fun j => j = g) w _ _ rfl) fun _ hj e => own_far h hg (e ▸ hj)
theorem both {F : Bool → World} {a b : World} (ht : F true = a) (hf : F false = b) {p : World → Prop} (h1 : p a) (h2 : p b) : ∀ x, p (F x) := fun x => match x with | true => by rw [ht]; exact h1 | false => by rw [hf]; exact h2
end
end Go.Proofs.YtomllcclallcdaaGreatDoor
namespace Go.Proofs.YtomllcclallcdaaGreatDoor
section
open Go.RowKit Go.Sort
theorem ob {A : Option Addr} {n c j : Nat} (h : (Value.slice A n c).ownBlock = some j) : ∃ a, A = some a ∧ a.block = j := by
  cases A with
  | none => cases h
  | some a => exact ⟨a, rfl, by simpa [Value.ownBlock] using h⟩
section
variable {w w' : World} {B : Nat} {ca ta ga : Option Addr} {cc : Nat} {gh : Nat → GH} {M : WorldM}
theorem Own.regroup (h : Own w B ca ta ga gh M) {k : Nat} (hk : k < M.groups.length) {x : GH} {y : GroupM} (hkeep : Keep (Part ga (gh k)) w w')
    (hrow : RowR w' B ga 56 14 M.groups.length fun j => if j = k then groupF y x else groupF (grp M j) (gh j))
    (hl : IntR w' B x.la y.band.locals) (hd : BoolR w' B x.da y.band.dry) (hs : ShelfR w' B x.sa y.shelves)
    (hnl : ∀ j a, j < M.groups.length → j ≠ k → x.la = some a → (gh j).la ≠ some a) (hnd : ∀ j a, j < M.groups.length → j ≠ k → x.da = some a → (gh j).da ≠ some a) (hns : ∀ j a, j < M.groups.length → j ≠ k → x.sa = some a → (gh j).sa ≠ some a) : Own w' B ca ta ga (hset gh k x) (setG M k y) := by
  have frm : ∀ {T n' len f} {A' : Option Addr} {a : Addr}, RowR w B A' T n' len f → A' = some a → A' = some ⟨a.block, 0, none⟩ := fun hr ha => by rw [ha, ← hr.form ha]
  have hlen : (setG M k y).groups.length = M.groups.length := by simp [setG]
  have hgrp : ∀ j, j < M.groups.length → grp (setG M k y) j = if j = k then y else grp M j := fun j hj => by
    by_cases e : j = k
    · subst e; simp [grp, setG, hj]
    · rw [if_neg e]
      simp [grp, setG, Ne.symm e]
  have sep : ∀ (p : GH → Option Addr) (_ : Sep (fun j => p (gh j)) M.groups.length) (_ : ∀ j a, j < M.groups.length → j ≠ k → p x = some a → p (gh j) ≠ some a), Sep (fun j => p (hset gh k x j)) (setG M k y).groups.length := fun p hs hn i j a hi hj hne ha hb => by
    rw [hlen] at hi hj
    by_cases ei : i = k
    · subst ei
      have ej : j ≠ i := Ne.symm hne
      simp only [hset_same] at ha
      simp only [hset_other _ _ ej] at hb
      exact hn j a hj ej ha hb
    · simp only [hset_other _ _ ei] at ha
      by_cases ej : j = k
      · subst ej
        simp only [hset_same] at hb
        exact hn i a hi ei hb ha
      · simp only [hset_other _ _ ej] at hb
        exact hs i j a hi hj hne ha hb
  refine ⟨h.cpu.keep hkeep fun a ha => ?_, h.task.keep hkeep fun a ha => ?_, ?_, fun j hj => ?_, fun j hj => ?_, fun j hj => ?_, sep GH.la h.sepL hnl, sep GH.da h.sepD hnd, sep GH.sa h.sepS hns⟩
  · rintro (c | c | c | c)
    · exact RowR.ne h.cpu h.grps (by decide) ha c rfl
    · exact RowR.ne h.cpu (h.loc k hk) (by decide) ha c rfl
    · exact RowR.ne h.cpu (h.dry k hk) (by decide) ha c rfl
    · exact RowR.ne h.cpu (h.she k hk) (by decide) ha c rfl
  · rintro (c | c | c | c)
    · exact RowR.ne h.task h.grps (by decide) ha c rfl
    · exact RowR.ne h.task (h.loc k hk) (by decide) ha c rfl
    · exact RowR.ne h.task (h.dry k hk) (by decide) ha c rfl
    · exact RowR.ne h.task (h.she k hk) (by decide) ha c rfl
  · show RowR w' B ga 56 14 (setG M k y).groups.length _
    rw [hlen]
    refine hrow.congr fun j i hj _ => ?_
    have e := hgrp j hj
    unfold grp at e
    rw [e]
    by_cases ej : j = k
    · subst ej; rw [if_pos rfl, if_pos rfl, hset_same]
    · rw [if_neg ej, if_neg ej, hset_other _ _ ej]; rfl
  all_goals
    rw [hlen] at hj
    rw [hgrp j hj]
    by_cases ej : j = k
  · subst ej; rw [if_pos rfl, hset_same]; exact hl
  · rw [if_neg ej, hset_other _ _ ej]
    refine (h.loc j hj).keep hkeep fun a ha => ?_
    rintro (c | c | c | c)
    · exact RowR.ne (h.loc j hj) h.grps (by decide) ha c rfl
    · exact h.sepL j k _ hj hk ej (frm (h.loc j hj) ha) c
    · exact RowR.ne (h.loc j hj) (h.dry k hk) (by decide) ha c rfl
    · exact RowR.ne (h.loc j hj) (h.she k hk) (by decide) ha c rfl
  · subst ej; rw [if_pos rfl, hset_same]; exact hd
  · rw [if_neg ej, hset_other _ _ ej]
    refine (h.dry j hj).keep hkeep fun a ha => ?_
    rintro (c | c | c | c)
    · exact RowR.ne (h.dry j hj) h.grps (by decide) ha c rfl
    · exact RowR.ne (h.dry j hj) (h.loc k hk) (by decide) ha c rfl
    · exact h.sepD j k _ hj hk ej (frm (h.dry j hj) ha) c
    · exact RowR.ne (h.dry j hj) (h.she k hk) (by decide) ha c rfl
  · subst ej; rw [if_pos rfl, hset_same]; exact hs
  · rw [if_neg ej, hset_other _ _ ej]
    refine (h.she j hj).keep hkeep fun a ha => ?_
    rintro (c | c | c | c)
    · exact RowR.ne (h.she j hj) h.grps (by decide) ha c rfl
    · exact RowR.ne (h.she j hj) (h.loc k hk) (by decide) ha c rfl
    · exact RowR.ne (h.she j hj) (h.dry k hk) (by decide) ha c rfl
    · exact h.sepS j k _ hj hk ej (frm (h.she j hj) ha) c
structure OwnR (w : World) (B : Nat) (ca : Option Addr) (cc : Nat) (ta ga : Option Addr) (gh : Nat → GH) (M : WorldM) : Prop where
  own : Own w B ca ta ga gh M
  cpr : w.ownsRow B 49 5 (.slice ca M.cpus.length cc) M.cpus.length (rowL (fun k => cpuF (M.cpus.getD k cpu0)) 5 M.cpus.length)
  shr : ∀ k, k < M.groups.length → w.ownsRow B 59 5 (.slice (gh k).sa (grp M k).shelves.length (gh k).sc) (grp M k).shelves.length (rowL (fun j => shelfF ((grp M k).shelves.getD j shelf0)) 5 (grp M k).shelves.length)
theorem OwnR.keep {S : Nat → Prop} (h : OwnR w B ca cc ta ga gh M) (hk : Keep S w w') (hS : ∀ g, Has ca ta ga gh M.groups.length g → ¬ S g) : OwnR w' B ca cc ta ga gh M :=
  ⟨h.own.keep hk hS, own_keep h.cpr hk fun j hj => by obtain ⟨a, ha, rfl⟩ := ob hj; exact hS _ (.inl (by rw [ha, ← h.own.cpu.form ha])),
   fun k hk' => own_keep (h.shr k hk') hk fun j hj => by obtain ⟨a, ha, rfl⟩ := ob hj; exact hS _ (.inr (.inr (.inr ⟨k, hk', .inr (.inr (by rw [ha, ← (h.own.she k hk').form ha]))⟩)))⟩
theorem OwnR.below (h : OwnR w B ca cc ta ga gh M) (hb : Below w.heap.size w w') : OwnR w' B ca cc ta ga gh M := h.keep (Keep.of_below (S := fun _ => False) hb) fun _ _ h => h
theorem OwnR.now (h : OwnR w B ca cc ta ga gh M) (n : Int) : OwnR w B ca cc ta ga gh { M with now := n } := ⟨⟨h.own.cpu, h.own.task, h.own.grps, h.own.loc, h.own.dry, h.own.she, h.own.sepL, h.own.sepD, h.own.sepS⟩, h.cpr, h.shr⟩
theorem rowL_snoc {α : Type} (F : α → Nat → Value) (L : List α) (x z : α) (n : Nat) : rowL (fun k => F ((L ++ [x]).getD k z)) n (L.length + 1) = rowL (fun k => F (L.getD k z)) n L.length ++ (List.range n).map (F x) := by
  rw [rowL]
  congr 1
  · exact rowL_congr fun j i hj => by simp [List.getElem?_append_left hj]
  · simp
theorem OwnR.cpu (h : OwnR w B ca cc ta ga gh M) {A : Option Addr} {cap : Nat} (x : CpuM) (hk : Keep (fun j => (Value.slice ca M.cpus.length cc).ownBlock = some j) w w')
    (ho : w'.ownsRow B 49 5 (.slice A (M.cpus.length + 1) cap) (M.cpus.length + 1) (rowL (fun k => cpuF (M.cpus.getD k cpu0)) 5 M.cpus.length ++ (List.range 5).map (cpuF x))) : OwnR w' B A cap ta ga gh { M with cpus := M.cpus ++ [x] } := by
  rw [← rowL_snoc cpuF M.cpus x cpu0 5] at ho
  obtain ⟨A', cap', hv, hR⟩ := row_of_own ho
  cases hv
  have ne : ∀ {T n len f} {A1 : Option Addr}, RowR w B A1 T n len f → T ≠ 49 → ∀ a, A1 = some a → ¬ (Value.slice ca M.cpus.length cc).ownBlock = some a.block := fun hr hT a ha hb => by
    obtain ⟨a2, h2, h3⟩ := ob hb
    exact RowR.ne hr h.own.cpu hT ha h2 h3.symm
  refine ⟨⟨?_, h.own.task.keep hk (ne h.own.task (by decide)), h.own.grps.keep hk (ne h.own.grps (by decide)), fun k hk' => (h.own.loc k hk').keep hk (ne (h.own.loc k hk') (by decide)), fun k hk' => (h.own.dry k hk').keep hk (ne (h.own.dry k hk') (by decide)), fun k hk' => (h.own.she k hk').keep hk (ne (h.own.she k hk') (by decide)), h.own.sepL, h.own.sepD, h.own.sepS⟩, ?_, fun k hk' => own_keep (h.shr k hk') hk (own_ne (h.shr k hk') h.cpr (by decide))⟩
  · show RowR w' B A 49 5 (M.cpus ++ [x]).length _
    rw [List.length_append, List.length_singleton]
    exact hR
  · show w'.ownsRow B 49 5 (.slice A (M.cpus ++ [x]).length cap) (M.cpus ++ [x]).length (rowL (fun k => cpuF ((M.cpus ++ [x]).getD k cpu0)) 5 (M.cpus ++ [x]).length)
    rw [List.length_append, List.length_singleton]
    exact ho
theorem OwnR.others (h : OwnR w B ca cc ta ga gh M) {k : Nat} (hk : k < M.groups.length) {x : GH} {y : GroupM} (hkeep : Keep (Part ga (gh k)) w w')
    (hk2 : w'.ownsRow B 59 5 (.slice x.sa y.shelves.length x.sc) y.shelves.length (rowL (fun j => shelfF (y.shelves.getD j shelf0)) 5 y.shelves.length)) :
    ∀ j, j < (setG M k y).groups.length → w'.ownsRow B 59 5 (.slice (hset gh k x j).sa (grp (setG M k y) j).shelves.length (hset gh k x j).sc) (grp (setG M k y) j).shelves.length (rowL (fun i => shelfF ((grp (setG M k y) j).shelves.getD i shelf0)) 5 (grp (setG M k y) j).shelves.length) := by
  intro j hj
  rw [show (setG M k y).groups.length = M.groups.length by simp [setG]] at hj
  by_cases e : j = k
  · subst e
    rw [grp_setG_same hj, hset_same]
    exact hk2
  · rw [show grp (setG M k y) j = grp M j by simp [grp, setG, Ne.symm e], hset_other _ _ e]
    refine own_keep (h.shr j hj) hkeep fun i hi => ?_
    obtain ⟨a, ha, rfl⟩ := ob hi
    have hform := (h.own.she j hj).form ha
    rintro (c | c | c | c)
    · exact RowR.ne (h.own.she j hj) h.own.grps (by decide) ha c rfl
    · exact RowR.ne (h.own.she j hj) (h.own.loc k hk) (by decide) ha c rfl
    · exact RowR.ne (h.own.she j hj) (h.own.dry k hk) (by decide) ha c rfl
    · exact h.own.sepS j k _ hj hk e (by show (gh j).sa = _; rw [ha, ← hform]) c
theorem OwnR.cpr_keep (h : OwnR w B ca cc ta ga gh M) {k : Nat} (hk : k < M.groups.length) (hkeep : Keep (Part ga (gh k)) w w') : w'.ownsRow B 49 5 (.slice ca M.cpus.length cc) M.cpus.length (rowL (fun k => cpuF (M.cpus.getD k cpu0)) 5 M.cpus.length) := by
  refine own_keep h.cpr hkeep fun i hi => ?_
  obtain ⟨a, ha, rfl⟩ := ob hi
  rintro (c | c | c | c)
  · exact RowR.ne h.own.cpu h.own.grps (by decide) ha c rfl
  · exact RowR.ne h.own.cpu (h.own.loc k hk) (by decide) ha c rfl
  · exact RowR.ne h.own.cpu (h.own.dry k hk) (by decide) ha c rfl
  · exact RowR.ne h.own.cpu (h.own.she k hk) (by decide) ha c rfl
theorem OwnR.group {b : Nat} (h : OwnR w B ca cc ta (some ⟨b, 0, none⟩) gh M) {k : Nat} (hk : k < M.groups.length) (y : GroupM) (hb : y.band = band0) (hs : y.shelves = []) (l : List (Nat × Value)) (hl : ∀ p ∈ l, p.1 < 14) (hx : ∀ v : Nat → Value, ∀ i, i < 14 → upd l v i = groupF y nilH i) :
    OwnR (wr b 14 k l w) B ca cc ta (some ⟨b, 0, none⟩) (hset gh k nilH) (setG M k y) := by
  have hkeep : Keep (Part (some ⟨b, 0, none⟩) (gh k)) w (wr b 14 k l w) := Keep.sets (S := Part (some ⟨b, 0, none⟩) (gh k)) (.inl rfl) l w
  have hrow : RowR (wr b 14 k l w) B (some ⟨b, 0, none⟩) 56 14 M.groups.length fun j => if j = k then groupF y nilH else groupF (grp M j) (gh j) := (RowR.sets rfl hk l h.own.grps hl).congr fun j i hj hi => by
    by_cases e : j = k
    · subst e; rw [if_pos rfl, if_pos rfl]; exact hx (fun i => groupF (M.groups.getD j group0) (gh j) i) i hi
    · rw [if_neg e, if_neg e]; rfl
  refine ⟨h.own.regroup hk hkeep hrow (by rw [hb]; exact RowR.nil) (by rw [hb]; exact RowR.nil) (by rw [hs]; exact RowR.nil) (fun _ _ _ _ h => by cases h) (fun _ _ _ _ h => by cases h) (fun _ _ _ _ h => by cases h), h.cpr_keep hk hkeep, h.others hk hkeep ?_⟩
  rw [hs]
  exact World.ownsRow_nil _ _ _ _
theorem OwnR.shelf {b : Nat} (h : OwnR w B ca cc ta (some ⟨b, 0, none⟩) gh M) {k : Nat} (hk : k < M.groups.length) (x : ShelfM) {g cap : Nat} (hkeep : Keep (fun j => (Value.slice (gh k).sa (grp M k).shelves.length (gh k).sc).ownBlock = some j) w w')
    (ho : w'.ownsRow B 59 5 (.slice (some ⟨g, 0, none⟩) ((grp M k).shelves.length + 1) cap) ((grp M k).shelves.length + 1) (rowL (fun j => shelfF ((grp M k).shelves.getD j shelf0)) 5 (grp M k).shelves.length ++ (List.range 5).map (shelfF x)))
    (hg : (Value.slice (gh k).sa (grp M k).shelves.length (gh k).sc).ownBlock = some g ∨ w.heap.size ≤ g) :
    OwnR (w'.setCell ⟨b, k * 14 + 13, none⟩ (.slice (some ⟨g, 0, none⟩) ((grp M k).shelves.length + 1) cap)) B ca cc ta (some ⟨b, 0, none⟩) (hset gh k { gh k with sa := some ⟨g, 0, none⟩, sc := cap }) (setG M k { grp M k with shelves := (grp M k).shelves ++ [x] }) := by
  have hp : ∀ j, (Value.slice (gh k).sa (grp M k).shelves.length (gh k).sc).ownBlock = some j → Part (some ⟨b, 0, none⟩) (gh k) j := fun j hj => by
    obtain ⟨a, ha, rfl⟩ := ob hj
    exact .inr (.inr (.inr (by rw [ha, ← (h.own.she k hk).form ha])))
  have ne : ∀ {T n len f} {A1 : Option Addr}, RowR w B A1 T n len f → T ≠ 59 → ∀ a, A1 = some a → ¬ (Value.slice (gh k).sa (grp M k).shelves.length (gh k).sc).ownBlock = some a.block := fun hr hT a ha hb => by
    obtain ⟨a2, h2, h3⟩ := ob hb
    exact RowR.ne hr (h.own.she k hk) hT ha h2 h3.symm
  have hgb : g ≠ b := fun e => by
    subst e
    rcases hg with hg | hg
    · exact ne h.own.grps (by decide) _ rfl hg
    · have := (h.own.grps.lt rfl).2
      simp only at this
      omega
  have k1 : Keep (Part (some ⟨b, 0, none⟩) (gh k)) w w' := hkeep.mono fun j _ hj => hp j hj
  have k2 : Keep (Part (some ⟨b, 0, none⟩) (gh k)) w (w'.setCell ⟨b, k * 14 + 13, none⟩ (.slice (some ⟨g, 0, none⟩) ((grp M k).shelves.length + 1) cap)) := k1.trans (Keep.set _ _ _ (.inl rfl))
  have ho2 := own_keep ho (Keep.set (S := fun j => j = b) w' ⟨b, k * 14 + 13, none⟩ (.slice (some ⟨g, 0, none⟩) ((grp M k).shelves.length + 1) cap) rfl) fun j hj e => by
    obtain ⟨a, ha, rfl⟩ := ob hj
    cases ha
    exact hgb e
  rw [← rowL_snoc shelfF (grp M k).shelves x shelf0 5] at ho2
  obtain ⟨A', cap', hv, hR⟩ := row_of_own ho2
  cases hv
  have hr1 : RowR w' B (some ⟨b, 0, none⟩) 56 14 M.groups.length fun j => groupF (grp M j) (gh j) := h.own.grps.keep hkeep (ne h.own.grps (by decide))
  have hrow := hr1.set (g := b) (k := k) (i := 13) rfl hk (by omega) (.slice (some ⟨g, 0, none⟩) ((grp M k).shelves.length + 1) cap)
  refine ⟨h.own.regroup hk k2 (hrow.congr fun j i hj hi => ?_) ?_ ?_ ?_ (fun j a hj e ha hb => ?_) (fun j a hj e ha hb => ?_) (fun j a hj e ha hb => ?_), h.cpr_keep hk k2, h.others hk k2 ?_⟩
  · by_cases e : j = k
    · subst e
      rw [if_pos rfl]
      match i, hi with
      | 0, _ | 1, _ | 2, _ | 3, _ | 4, _ | 5, _ | 6, _ | 7, _ | 8, _ | 9, _ | 10, _ | 11, _ | 12, _ => exact (if_neg (by omega)).trans rfl
      | 13, _ => exact (if_pos ⟨rfl, rfl⟩).trans (congrArg (fun z => Value.slice (some ⟨g, 0, none⟩) z cap) (by simp))
      | i + 14, h => omega
    · rw [if_neg e, if_neg (fun x => e x.1)]
  · exact ((h.own.loc k hk).keep hkeep (ne (h.own.loc k hk) (by decide))).keep (Keep.set (S := fun j => j = b) w' ⟨b, k * 14 + 13, none⟩ _ rfl) fun a ha c => RowR.ne (h.own.loc k hk) h.own.grps (by decide) ha rfl c
  · exact ((h.own.dry k hk).keep hkeep (ne (h.own.dry k hk) (by decide))).keep (Keep.set (S := fun j => j = b) w' ⟨b, k * 14 + 13, none⟩ _ rfl) fun a ha c => RowR.ne (h.own.dry k hk) h.own.grps (by decide) ha rfl c
  · show RowR _ B _ 59 5 ((grp M k).shelves ++ [x]).length _
    rw [List.length_append, List.length_singleton]
    exact hR
  · exact h.own.sepL k j a hk hj (Ne.symm e) ha hb
  · exact h.own.sepD k j a hk hj (Ne.symm e) ha hb
  · cases ha
    rcases hg with hg | hg
    · obtain ⟨a2, h2, h3⟩ := ob hg
      have hform := (h.own.she k hk).form h2
      rw [h3] at hform
      exact h.own.sepS k j _ hk hj (Ne.symm e) (by show (gh k).sa = _; rw [h2, hform]) hb
    · have := ((h.own.she j hj).lt hb).2
      simp only at this
      omega
  · show World.ownsRow _ B 59 5 (.slice (some ⟨g, 0, none⟩) ((grp M k).shelves ++ [x]).length cap) ((grp M k).shelves ++ [x]).length (rowL (fun j => shelfF (((grp M k).shelves ++ [x]).getD j shelf0)) 5 ((grp M k).shelves ++ [x]).length)
    rw [List.length_append, List.length_singleton]
    exact ho2
theorem OwnR.band {b : Nat} (h : OwnR w B ca cc ta (some ⟨b, 0, none⟩) gh M) {k : Nat} (hk : k < M.groups.length) (y : BandM) {la da : Option Addr} {lc dc : Nat} {w5 : World} (hkeep : Keep (fun _ => False) w w5)
    (hl : IntR w5 w.heap.size la y.locals) (hd : BoolR w5 w.heap.size da y.dry) (hB : B ≤ w.heap.size) :
    OwnR (wr b 14 k [(8, .int .i64 y.quota), (9, .int .i64 y.pool), (10, .int .i64 y.spent), (11, .slice la y.locals.length lc), (12, .slice da y.dry.length dc)] w5) B ca cc ta (some ⟨b, 0, none⟩) (hset gh k { gh k with la := la, lc := lc, da := da, dc := dc }) (setG M k { grp M k with band := y }) := by
  have hbl := (h.own.grps.lt rfl).2
  simp only at hbl
  have k1 : Keep (Part (some ⟨b, 0, none⟩) (gh k)) w w5 := hkeep.mono fun _ _ x => x.elim
  have k3 := Keep.sets (S := fun j => j = b) (g := b) (n := 14) (k := k) rfl [(8, .int .i64 y.quota), (9, .int .i64 y.pool), (10, .int .i64 y.spent), (11, .slice la y.locals.length lc), (12, .slice da y.dry.length dc)] w5
  have k2 : Keep (Part (some ⟨b, 0, none⟩) (gh k)) w (wr b 14 k [(8, .int .i64 y.quota), (9, .int .i64 y.pool), (10, .int .i64 y.spent), (11, .slice la y.locals.length lc), (12, .slice da y.dry.length dc)] w5) := k1.trans (Keep.sets (S := Part (some ⟨b, 0, none⟩) (gh k)) (.inl rfl) _ w5)
  have hr1 : RowR w5 B (some ⟨b, 0, none⟩) 56 14 M.groups.length fun j => groupF (grp M j) (gh j) := h.own.grps.keep hkeep fun _ _ x => x
  have hs1 : ShelfR w5 B (gh k).sa (grp M k).shelves := (h.own.she k hk).keep hkeep fun _ _ x => x
  have hrow := RowR.sets rfl hk [(8, .int .i64 y.quota), (9, .int .i64 y.pool), (10, .int .i64 y.spent), (11, .slice la y.locals.length lc), (12, .slice da y.dry.length dc)] hr1 (by simp)
  refine ⟨h.own.regroup hk k2 (hrow.congr fun j i hj hi => ?_) ?_ ?_ ?_ (fun j a hj e ha hb => ?_) (fun j a hj e ha hb => ?_) (fun j a hj e ha hb => ?_), h.cpr_keep hk k2, h.others hk k2 ?_⟩
  · by_cases e : j = k
    · subst e
      rw [if_pos rfl, if_pos rfl]
      match i, hi with
      | 0, _ | 1, _ | 2, _ | 3, _ | 4, _ | 5, _ | 6, _ | 7, _ | 8, _ | 9, _ | 10, _ | 11, _ | 12, _ | 13, _ => rfl
      | i + 14, h => omega
    · rw [if_neg e, if_neg e]
  · exact (hl.keep k3 fun a ha e => by have := (hl.lt ha).1; omega).mono hB
  · exact (hd.keep k3 fun a ha e => by have := (hd.lt ha).1; omega).mono hB
  · exact hs1.keep k3 fun a ha e => RowR.ne (h.own.she k hk) h.own.grps (by decide) ha rfl e
  · have h1 := (hl.lt ha).1
    have h2 := ((h.own.loc j hj).lt hb).2
    omega
  · have h1 := (hd.lt ha).1
    have h2 := ((h.own.dry j hj).lt hb).2
    omega
  · exact h.own.sepS k j a hk hj (Ne.symm e) ha hb
  · exact own_keep (own_keep (h.shr k hk) hkeep fun _ _ x => x) k3 fun j hj e => by
      obtain ⟨a, ha, rfl⟩ := ob hj
      exact RowR.ne (h.own.she k hk) h.own.grps (by decide) ha rfl e
theorem OwnR.task {b : Nat} (h : OwnR w B ca cc (some ⟨b, 0, none⟩) ga gh M) {k : Nat} (hk : k < M.tasks.length) (l : List (Nat × Value)) (hl : ∀ p ∈ l, p.1 < 9) {x : TaskM} (hx : ∀ i, i < 9 → upd l (taskF (tsk M k)) i = taskF x i) :
    OwnR (wr b 9 k l w) B ca cc (some ⟨b, 0, none⟩) ga gh { M with tasks := M.tasks.set k x } := by
  have hk9 : Keep (fun j => j = b) w (wr b 9 k l w) := Keep.sets (S := fun j => j = b) rfl l w
  refine ⟨(h.own.setTs rfl hk l hl hx).1, own_keep h.cpr hk9 fun j hj e => ?_, fun i hi => own_keep (h.shr i hi) hk9 fun j hj e => ?_⟩
  · obtain ⟨a, ha, rfl⟩ := ob hj
    exact RowR.ne h.own.cpu h.own.task (by decide) ha rfl e
  · obtain ⟨a, ha, rfl⟩ := ob hj
    exact RowR.ne (h.own.she i hi) h.own.task (by decide) ha rfl e
end
end
end Go.Proofs.YtomllcclallcdaaGreatDoor
