/- A region that draws its order, in which a call and an allocation may come in either order: walked along a tree of orders. The reference writes a number in decimals. -/
import Derived.Test.YtknfpigaognklaaGreatDoorRg
import Derived.Lib.ItoaNum
import Derived.Lib.ItoaMem
import Derived.Lib.ItoaLen
import Derived.Laws.Concat
import Derived.Laws.BytesArg
import Derived.Deep.Cut
namespace Go.Proofs.YtknfpigaognklaaGreatDoor
open Go.RowKit Go.Sort
/-- a tree of orders: a plain operation; one that makes memory or calls and is the only one that may come up; two of that kind that may come up -/
inductive Sk where
  | done : Sk
  | det (i : Nat) (t : Sk) : Sk
  | one (i : Nat) (t : Sk) : Sk
  | two (i : Nat) (ti : Sk) (j : Nat) (tj : Sk) : Sk
def Sk.len : Sk → Nat
  | .done => 0
  | .det _ t => t.len + 1
  | .one _ t => t.len + 1
  | .two _ ti _ _ => ti.len + 1
/-- a conversion counts as plain, too -/
def plainOp2 (o : Oper) : Bool := plainOp o || match o.op with
  | .convert _ _ _ => true
  | _ => false
theorem plain_value2 {o : Oper} (hp : plainOp2 o = true) {P : Program} {ρ : Operand → Value} {w w' : World} {n : Next} (h : (execOp ρ o).run P w = .ok n w') : ∃ u, n = .value u := by
  rcases Bool.or_eq_true _ _ |>.mp hp with hp | hp
  · exact plain_value hp h
  · obtain ⟨dst, op, ty, pos, aft, gd⟩ := o
    cases op <;> simp only [Bool.false_eq_true] at hp
    exact ok_value (g := id) h
section
variable {P : Program} {l : List Oper} {C : World → Prop} {md : Region.Mode}
/-- operation i, come up alone, X behind it -/
def barT (P : Program) (l : List Oper) (C : World → Prop) (i : Nat) (X : Act → World → Prop) (a : Act) (w : World) : Prop :=
  ∃ o, l[i]? = some o ∧ if Region.wanted o (yielded l.toArray a.tmps) = true then o.wp P a w (fun a' w' => C w' ∧ X a' w') (fun _ _ _ => False) else X (a.put o.dst undef) w
def wpT (P : Program) (l : List Oper) (C : World → Prop) (Q : Act → World → Prop) : Sk → Act → World → Prop
  | .done, a, w => Q a w
  | .det i t, a, w => ∃ o, l[i]? = some o ∧ if Region.wanted o (yielded l.toArray a.tmps) = true then o.quiet P a C (fun a' => wpT P l C Q t a' w) else wpT P l C Q t (a.put o.dst undef) w
  | .one i t, a, w => barT P l C i (wpT P l C Q t) a w
  | .two i ti j tj, a, w => barT P l C i (wpT P l C Q ti) a w ∧ barT P l C j (wpT P l C Q tj) a w
def ordT (md : Region.Mode) (ops : Array Oper) : Sk → Array Bool → Bool
  | .done, listed => (Region.ready md ops listed).isEmpty
  | .det i t, listed => ((Region.ready md ops listed).contains i && (Region.free md ops listed i && ((ops[i]?).map plainOp2).getD false)) && ordT md ops t (listed.setIfInBounds i true)
  | .one i t, listed => Region.ready md ops listed == [i] && ordT md ops t (listed.setIfInBounds i true)
  | .two i ti j tj, listed => Region.ready md ops listed == [i, j] && (ti.len == tj.len && (ordT md ops ti (listed.setIfInBounds i true) && ordT md ops tj (listed.setIfInBounds j true)))
theorem wpOp_of_barT {i : Nat} {X : Act → World → Prop} {a : Act} {w : World} {Q : Exit → Act → World → Prop} (hC : C w) (h : barT P l C i X a w) : wpOp P l.toArray Q i (fun a' w' => C w' ∧ X a' w') a w := by
  obtain ⟨o, ho, h⟩ := h
  have hi : l.toArray[i]? = some o := by simpa using ho
  unfold wpOp
  simp only [hi]
  split
  · rename_i hw
    simp only [hw, if_true] at h
    refine .inl ?_
    unfold Oper.wp at *
    generalize (execOp a.eval o).run P w = r at *
    cases r with
    | ok n w' =>
      cases n <;> simp only [Oper.upon] at h ⊢ <;> first
        | exact h
        | exact Calls.mono h fun e w'' he => by
            cases e with
            | returned v => exact he
            | panicked c => exact he.elim
            | outgrown => obtain ⟨_, _, q⟩ := he; exact q.elim
    | halt x w' => cases x <;> simp only [Oper.upon] at h ⊢ <;> exact h.elim
  · rename_i hw
    simp only [hw] at h
    exact ⟨hC, h⟩
theorem wpAnyH_of_T {K : Act → World → Prop} (hs : Region.noSelect l.toArray = true) : ∀ (t : Sk) (listed : Array Bool) (a : Act) (w : World), ordT md l.toArray t listed = true → C w → wpT P l C K t a w →
    wpAnyH P md l.toArray (fun e a w => e = .normal ∧ K a w) C t.len listed a w
  | .done, listed, a, w, ho, _, h => ⟨by simpa [ordT] using ho, rfl, h⟩
  | .det i t, listed, a, w, ho, hC, h => by
    simp only [ordT, Bool.and_eq_true] at ho
    obtain ⟨⟨hr, hf, hp⟩, ho2⟩ := ho
    obtain ⟨o, hio, h⟩ := h
    have hi : l.toArray[i]? = some o := by simpa using hio
    have hp' : plainOp2 o = true := by simpa [hi] using hp
    by_cases hw : Region.wanted o (yielded l.toArray a.tmps) = true
    · simp only [hw, if_true] at h
      obtain ⟨v, h1, h2⟩ := h
      refine wpAnyH_take hi hs hf hr (fun c a w q => by cases q.1) (.inl ⟨hw, fun w' hw' => ?_⟩) hC (wpAnyH_of_T hs t _ _ w ho2 hC h2)
      have h3 := h1 w' hw'
      unfold Oper.quietAt at h3
      generalize hx : (execOp a.eval o).run P w' = r at h3
      cases r with
      | ok n w'' =>
        obtain ⟨u, rfl⟩ := plain_value2 hp' hx
        simp only [Oper.quietUpon] at h3
        rw [h3.1, h3.2]
      | halt x w'' => exact h3.elim
    · have hw' : Region.wanted o (yielded l.toArray a.tmps) = false := by simpa using hw
      simp only [hw', Bool.false_eq_true, if_false] at h
      exact wpAnyH_take hi hs hf hr (fun c a w q => by cases q.1) (.inr ⟨hw', rfl⟩) hC (wpAnyH_of_T hs t _ _ w ho2 hC h)
  | .one i t, listed, a, w, ho, hC, h => by
    simp only [ordT, Bool.and_eq_true] at ho
    refine wpAnyH_all (by simpa using ho.1) (by simp) fun j hj => ?_
    obtain rfl : j = i := by simpa using hj
    exact wpOp_mono (fun a' w' hh => ⟨hh.1, wpAnyH_of_T hs t _ a' w' ho.2 hh.1 hh.2⟩) (wpOp_of_barT hC h)
  | .two i ti j tj, listed, a, w, ho, hC, h => by
    simp only [ordT, Bool.and_eq_true, beq_iff_eq] at ho
    obtain ⟨h1, h2, h3, h4⟩ := ho
    refine wpAnyH_all h1 (by simp) fun k hk => ?_
    have hk' : k = i ∨ k = j := by simpa using hk
    rcases hk' with rfl | rfl
    · exact wpOp_mono (fun a' w' hh => ⟨hh.1, wpAnyH_of_T hs ti _ a' w' h3 hh.1 hh.2⟩) (wpOp_of_barT hC h.1)
    · refine wpOp_mono (fun a' w' hh => ⟨hh.1, ?_⟩) (wpOp_of_barT hC h.2)
      have := wpAnyH_of_T hs tj _ a' w' h4 hh.1 hh.2
      rwa [← h2] at this
/-- the walk, behind a word that no tactic looks into -/
structure Rgt (P : Program) (l : List Oper) (C : World → Prop) (Q : Act → World → Prop) (t : Sk) (a : Act) (w : World) : Prop where
  out : wpT P l C Q t a w
theorem wpT_nil {Q : Act → World → Prop} {a : Act} {w : World} (h : Q a w) : Rgt P l C Q .done a w := ⟨h⟩
theorem wpT_det {Q : Act → World → Prop} {a : Act} {w : World} {i : Nat} {t : Sk} {o : Oper} (ho : l[i]? = some o) (hw : Region.wanted o (yielded l.toArray a.tmps) = true)
    (h : ∀ K : Act → Prop, (∀ a, Rgt P l C Q t a w → K a) → o.quiet P a C K) : Rgt P l C Q (.det i t) a w := ⟨⟨o, ho, by rw [if_pos hw]; exact h _ fun _ h => h.out⟩⟩
theorem wpT_one {Q : Act → World → Prop} {a : Act} {w : World} {i : Nat} {t : Sk} {o : Oper} (ho : l[i]? = some o) (hw : Region.wanted o (yielded l.toArray a.tmps) = true)
    (h : ∀ K : Act → World → Prop, (∀ a w', C w' → Rgt P l C Q t a w' → K a w') → o.wp P a w K (fun _ _ _ => False)) : Rgt P l C Q (.one i t) a w :=
  ⟨⟨o, ho, by rw [if_pos hw]; exact h _ fun _ _ h1 h2 => ⟨h1, h2.out⟩⟩⟩
theorem wpT_two {Q : Act → World → Prop} {a : Act} {w : World} {i j : Nat} {ti tj : Sk} {oi oj : Oper} (hoi : l[i]? = some oi) (hoj : l[j]? = some oj) (hwi : Region.wanted oi (yielded l.toArray a.tmps) = true) (hwj : Region.wanted oj (yielded l.toArray a.tmps) = true)
    (h1 : ∀ K : Act → World → Prop, (∀ a w', C w' → Rgt P l C Q ti a w' → K a w') → oi.wp P a w K (fun _ _ _ => False))
    (h2 : ∀ K : Act → World → Prop, (∀ a w', C w' → Rgt P l C Q tj a w' → K a w') → oj.wp P a w K (fun _ _ _ => False)) : Rgt P l C Q (.two i ti j tj) a w :=
  ⟨⟨oi, hoi, by rw [if_pos hwi]; exact h1 _ fun _ _ h1 h2 => ⟨h1, h2.out⟩⟩, ⟨oj, hoj, by rw [if_pos hwj]; exact h2 _ fun _ _ h1 h2 => ⟨h1, h2.out⟩⟩⟩
/-- the region, along a tree of orders -/
theorem region_T {id : Nat} {Q : Exit → Act → World → Prop} {a : Act} {w : World} (t : Sk) (hm : P.follows .mixedOrders = true) (hs : Region.noSelect l.toArray = true)
    (hn : t.len = l.length) (hB : ordT .any l.toArray t (Array.replicate l.length false) = true)
    (h : Rgt P l (fun w' => ∃ p : Regrown, w' = grow (redrawn w p.d) p.os) (fun a' w' => Q .normal a' w') t a w.drew) : (Code.region id l.toArray true).wp P Q a w := by
  refine Code.wp_mono (Q := fun e a w => e = .normal ∧ Q .normal a w) (fun e a w hh => by obtain ⟨rfl, hh⟩ := hh; exact hh) ?_
  refine wp_region_held (S := fun w' => ∃ p : Regrown, w' = grow (redrawn w p.d) p.os) hm ?_
  have := wpAnyH_of_T (md := .any) hs t (Array.replicate l.length false) a w.drew hB ⟨⟨w.drawn + 1, #[]⟩, by rw [grow_empty]; rfl⟩ h.out
  rw [hn] at this
  simpa using this
end
end Go.Proofs.YtknfpigaognklaaGreatDoor
namespace Go.Proofs.YtknfpigaognklaaGreatDoor
open Go.RowKit Go.Sort
/-- a digit -/
def dgt (d : Nat) : UInt8 := UInt8.ofNat (48 + d)
/-- a text -/
def strB (l : List UInt8) : ByteArray := ⟨l.toArray⟩
theorem strB_append (a b : List UInt8) : strB a ++ strB b = strB (a ++ b) := ByteArray.mk_append_mk a b
theorem strB_size (a : List UInt8) : (strB a).size = a.length := by simp [strB, ByteArray.size]
theorem conv1 {w : World} {g : Nat} {d : Nat} (hc : w.cell? ⟨g, 0, none⟩ = some (.int .u8 (48 + (d : Int)))) : (convert 63 9 (.slice (some ⟨g, 0, none⟩) 1 1)).run Tryz.prog w = .ok (.string (strB [dgt d])) w := by
  have := run_convert_bytes_arg (P := Tryz.prog) w 63 5 Tryz.underlying63 Tryz.underlying5 g 0 1 1 [48 + (d : Int)] rfl (fun i hi => by
    obtain rfl : i = 0 := by omega
    exact hc) 9 Tryz.underlying9
  rw [this]
  have e : (48 + (d : Int)).toNat = 48 + d := by omega
  simp only [strOfNums, List.map_cons, List.map_nil, e]
  rfl
theorem wp_conv1 {o : Oper} {x : Operand} {a : Act} {w : World} {K : Act → World → Prop} {Q : Exit → Act → World → Prop} {g : Nat} {d : Nat} (ho : o.op = .convert 63 9 x) (hx : a.eval x = .slice (some ⟨g, 0, none⟩) 1 1)
    (hc : w.cell? ⟨g, 0, none⟩ = some (.int .u8 (48 + (d : Int)))) (hK : K (a.put o.dst (.string (strB [dgt d]))) w) : o.wp Tryz.prog a w K Q := by
  unfold Oper.wp
  simp only [execOp, ho, hx, Sem.run_bind, conv1 hc, Result.andThen_ok, Sem.run_pure]
  exact hK
theorem new_cell (w : World) (v : Value) (t : TypeId) : (w.alloc (.cells #[v] t)).cell? ⟨w.heap.size, 0, none⟩ = some v := by simp [World.cell?_alloc_at]
theorem dec_one {u : Nat} (h : u < 10) : Lib.decDigits u = [dgt u] := Lib.decDigits_one h
theorem dec_big {u : Nat} (h : ¬ u < 10) : Lib.decDigits u = Lib.decDigits (u / 10) ++ [dgt (u % 10)] := by rw [Lib.decDigits, dif_neg h]; rfl
theorem dec_len {u : Nat} (h : u ≤ 9223372036854775807) : (Lib.decDigits u).length ≤ 21 := by
  have := Lib.itoa_length_le (u : Int) (by omega) (by omega)
  rwa [Lib.itoa_nonneg] at this
theorem ret_str {a b : ByteArray} (h : a = b) : Ending.returned (.string a) = .returned (.string b) := by rw [h]
theorem str_eq {a b : ByteArray} (h : a = b) : Value.string a = .string b := by rw [h]
set_option maxRecDepth 100000 in
set_option maxHeartbeats 1000000 in
theorem sDec_small (u : Nat) (h : u < 10) (w : World) :
    Calls Tryz.prog 39 #[.int .i64 u] w fun e w' => e = .returned (.string (strB (Lib.decDigits u))) ∧ Below w.heap.size w w' := by
  have hi0 : (0 : Int) ≤ (u : Int) := by omega
  have hi1 : (u : Int) < 10 := by omega
  have hcv := conv1 (new_cell w (.int .u8 (48 + (u : Int))) 5)
  go_enter Tryz.func39, Tryz.ntmps39
  go_wp2
  go_ret
  exact ⟨by rw [dec_one h]; rfl, (Below.refl _ _).alloc (Nat.le_refl _) _⟩
attribute [local go_sem] strB_size
set_option maxRecDepth 100000 in
set_option maxHeartbeats 2000000 in
theorem sDec_nat (u : Nat) : ∀ (_ : u ≤ 9223372036854775807) (w : World),
    Calls Tryz.prog 39 #[.int .i64 u] w fun e w' => e = .returned (.string (strB (Lib.decDigits u))) ∧ Below w.heap.size w w' := by
  induction u using Nat.strongRecOn with
  | _ u ih =>
    intro hu w
    by_cases h : u < 10
    · exact sDec_small u h w
    · have hi1 : (10 : Int) ≤ (u : Int) := by omega
      have hi2 : (u : Int) ≤ 9223372036854775807 := by omega
      have hd : (u : Int).tdiv 10 = ((u / 10 : Nat) : Int) := by rw [Int.tdiv_eq_ediv_of_nonneg (by omega)]; simp
      have hm : (u : Int).tmod 10 = ((u % 10 : Nat) : Int) := by rw [Int.tmod_eq_emod_of_nonneg (by omega)]; simp
      have hm1 : ((u % 10 : Nat) : Int) < 10 := by omega
      have hm0 : (0 : Int) ≤ ((u % 10 : Nat) : Int) := by omega
      have hq0 : (0 : Int) ≤ ((u / 10 : Nat) : Int) := by omega
      have hq1 : ((u / 10 : Nat) : Int) ≤ 922337203685477580 := by omega
      have IH := Lib.hid (ih (u / 10) (by omega) (by omega))
      have hlen := dec_len (u := u / 10) (by omega)
      have hlen2 : ((Lib.decDigits (u / 10)).length : Int) ≤ 21 := by omega
      have DD := Lib.hid (dec_big h)
      generalize Lib.decDigits (u / 10) = D at *
      generalize u / 10 = q at *
      generalize u % 10 = r at *
      clear ih
      go_enter Tryz.func39, Tryz.ntmps39
      go_upto_region 7 with (fail)
      have bd : Below w.heap.size w w.drew := ⟨rfl, rfl, rfl, Nat.le_refl _, fun _ _ => rfl⟩
      refine region_T (.det 0 (.det 1 (.det 3 (.det 4 (.det 5 (.det 6 (.two 2 (.one 7 (.one 8 (.det 9 (.det 10 .done)))) 7 (.two 2 (.one 8 (.det 9 (.det 10 .done))) 8 (.one 2 (.det 9 (.det 10 .done)))))))))) ) (by kernel_rfl) (by kernel_rfl) rfl (by kernel_rfl) ?_
      repeat (refine wpT_det (by rfl) (by rfl) (fun K hK => ?_); go_big_quiet_op; refine hK _ ?_; clear hK K)
      refine wpT_two (by rfl) (by rfl) (by rfl) (by rfl) (fun K hK => ?_) (fun K hK => ?_)
      · go_big_op
        go_at_call 39
        refine (IH.out _).mono ?_
        rintro e w1 ⟨rfl, hb1⟩
        refine hK _ _ (regrown_of_below (bd.andThen hb1)) ?_
        clear hK K
        refine wpT_one (by rfl) (by rfl) (fun K hK => ?_)
        go_big_op
        refine hK _ _ (regrown_of_below ((bd.andThen hb1).andThen ((Below.refl _ _).alloc (Nat.le_refl _) _))) ?_
        clear hK K
        refine wpT_one (by rfl) (by rfl) (fun K hK => ?_)
        refine wp_conv1 rfl rfl (new_cell _ _ _) ?_
        refine hK _ _ (regrown_of_below ((bd.andThen hb1).andThen ((Below.refl _ _).alloc (Nat.le_refl _) _))) ?_
        clear hK K
        simp only [Act.put, List.setIfInBounds_toArray, List.set_cons_zero, List.set_cons_succ]
        repeat (refine wpT_det (by rfl) (by rfl) (fun K hK => ?_); go_big_quiet_op; refine hK _ ?_; clear hK K)
        refine wpT_nil ?_
        go_wp2
        go_ret
        exact ⟨ret_str (by rw [DD.out, strB_append]), (bd.andThen hb1).andThen ((Below.refl _ _).alloc (Nat.le_refl _) _)⟩
      · go_big_op
        refine hK _ _ (regrown_of_below (bd.andThen ((Below.refl _ _).alloc (Nat.le_refl _) _))) ?_
        clear hK K
        have bda : Below w.heap.size w (w.drew.alloc (.cells #[.int .u8 (48 + (r : Int))] 5)) := bd.andThen ((Below.refl _ _).alloc (Nat.le_refl _) _)
        refine wpT_two (by rfl) (by rfl) (by rfl) (by rfl) (fun K hK => ?_) (fun K hK => ?_)
        · go_big_op
          go_at_call 39
          refine (IH.out _).mono ?_
          rintro e w1 ⟨rfl, hb1⟩
          refine hK _ _ (regrown_of_below (bda.andThen hb1)) ?_
          clear hK K
          refine wpT_one (by rfl) (by rfl) (fun K hK => ?_)
          refine wp_conv1 rfl rfl ((hb1.cell (p := ⟨w.heap.size, 0, none⟩) (by simp)).trans (new_cell _ _ _)) ?_
          refine hK _ _ (regrown_of_below (bda.andThen hb1)) ?_
          clear hK K
          simp only [Act.put, List.setIfInBounds_toArray, List.set_cons_zero, List.set_cons_succ]
          repeat (refine wpT_det (by rfl) (by rfl) (fun K hK => ?_); go_big_quiet_op; refine hK _ ?_; clear hK K)
          refine wpT_nil ?_
          go_wp2
          go_ret
          exact ⟨ret_str (by rw [DD.out, strB_append]), bda.andThen hb1⟩
        · refine wp_conv1 rfl rfl (new_cell _ _ _) ?_
          refine hK _ _ (regrown_of_below bda) ?_
          clear hK K
          simp only [Act.put, List.setIfInBounds_toArray, List.set_cons_zero, List.set_cons_succ]
          refine wpT_one (by rfl) (by rfl) (fun K hK => ?_)
          go_big_op
          go_at_call 39
          refine (IH.out _).mono ?_
          rintro e w1 ⟨rfl, hb1⟩
          refine hK _ _ (regrown_of_below (bda.andThen hb1)) ?_
          clear hK K
          repeat (refine wpT_det (by rfl) (by rfl) (fun K hK => ?_); go_big_quiet_op; refine hK _ ?_; clear hK K)
          refine wpT_nil ?_
          go_wp2
          go_ret
          exact ⟨ret_str (by rw [DD.out, strB_append]), bda.andThen hb1⟩
set_option maxRecDepth 100000 in
set_option maxHeartbeats 1000000 in
/-- every number -/
theorem sDec_any (n : Int) (h0 : -9223372036854775808 ≤ n) (h1 : n ≤ 9223372036854775807) (w : World) :
    Calls Tryz.prog 39 #[.int .i64 n] w fun e w' => e = .returned (.string (strB (Lib.itoa n))) ∧ Below w.heap.size w w' := by
  by_cases hn : 0 ≤ n
  · obtain ⟨u, rfl⟩ := Int.eq_ofNat_of_zero_le hn
    rw [Lib.itoa_nonneg]
    exact sDec_nat u (by omega) w
  · by_cases hm : n = -9223372036854775808
    · subst hm
      have he := Lib.hid (show strB (Lib.itoa (-9223372036854775808)) = ⟨#[45, 57, 50, 50, 51, 51, 55, 50, 48, 51, 54, 56, 53, 52, 55, 55, 53, 56, 48, 56]⟩ by
        rw [show (-9223372036854775808 : Int) = -((9223372036854775808 : Nat) : Int) from rfl, Lib.itoa_neg _ (by decide), Lib.decDigits_eq, Lib.nDigits_unique 18 _ (by decide) (by decide)]
        decide +kernel)
      go_enter Tryz.func39, Tryz.ntmps39
      go_wp2
      go_ret
      exact ⟨ret_str he.out.symm, Below.refl _ _⟩
    · obtain ⟨u, rfl⟩ : ∃ u : Nat, n = -(u : Int) := ⟨n.natAbs, by omega⟩
      rw [Lib.itoa_neg u (by omega)]
      have hu0 : (1 : Int) ≤ (u : Int) := by omega
      have hu1 : (u : Int) ≤ 9223372036854775807 := by omega
      have hlen := dec_len (u := u) (by omega)
      have hlen2 : ((Lib.decDigits u).length : Int) ≤ 21 := by omega
      have IH := Lib.hid (sDec_nat u (by omega))
      have hs : (⟨#[45]⟩ : ByteArray) = strB [45] := rfl
      clear h0 h1 hn hm
      generalize Lib.decDigits u = D at *
      go_enter Tryz.func39, Tryz.ntmps39
      go_wp2_with (go_at_call 39; refine (IH.out _).mono ?_; rintro e w1 ⟨rfl, hb1⟩)
      go_ret
      exact ⟨ret_str (by first | rw [hs, strB_append]; rfl | rw [strB_append]; rfl), hb1⟩
end Go.Proofs.YtknfpigaognklaaGreatDoor
