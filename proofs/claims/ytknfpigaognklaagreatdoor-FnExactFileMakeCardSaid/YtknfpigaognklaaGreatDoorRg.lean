/- A region that draws its order, walked once in an order of the prover's choice: what only reads may come in any order; a call or an allocation has to be the only one that may come up. -/
import Derived.Test.YtknfpigaognklaaGreatDoorBase
import Derived.Lib.QuietBelow
import Derived.BigQuiet
import Derived.OrdersHeld
namespace Go.Proofs.YtknfpigaognklaaGreatDoor
open Go.RowKit Go.Sort
/-- operations that yield a value and leave the world alone -/
def plainOp (o : Oper) : Bool := match o.op with
  | .move _ => true
  | .assign _ => true
  | .pick _ _ _ => true
  | .load _ _ => true
  | .nilCheck _ => true
  | .binOp _ _ _ _ _ => true
  | .unOp _ _ _ => true
  | .fieldAddr _ _ _ => true
  | .field _ _ _ => true
  | .indexAddr _ _ _ => true
  | .index _ _ _ => true
  | .build _ _ => true
  | .extract _ _ => true
  | .makeFunc _ _ _ => true
  | .slice _ _ _ _ _ => true
  | .call c => (match c.callee with | .builtin .len => true | _ => false)
  | _ => false
theorem ok_value {α : Type} {s : Sem α} {g : α → Value} {P : Program} {w w' : World} {n : Next} (h : (s >>= fun x => pure (Next.value (g x)) : Sem Next).run P w = .ok n w') : ∃ u, n = .value u := by
  rw [Sem.run_bind] at h
  cases hs : s.run P w with
  | ok v w1 => rw [hs] at h; simp only [Result.andThen_ok, Sem.run_pure] at h; injection h with h1 _; exact ⟨_, h1.symm⟩
  | halt x w1 => rw [hs] at h; cases h
theorem panics_not {α : Type} {P : Program} {w w' : World} {n : α} (h : (runtimePanic .nilDeref : Sem α).run P w = .ok n w') : False := by
  simp [runtimePanic, go_sem] at h
theorem plain_value {o : Oper} (hp : plainOp o = true) {P : Program} {ρ : Operand → Value} {w w' : World} {n : Next} (h : (execOp ρ o).run P w = .ok n w') : ∃ u, n = .value u := by
  obtain ⟨dst, op, ty, pos, aft, gd⟩ := o
  cases op <;> simp only [plainOp, Bool.false_eq_true] at hp <;> simp only [execOp] at h
  case nilCheck x =>
    split at h
    · exact (panics_not h).elim
    · exact (panics_not h).elim
    · exact (panics_not h).elim
    · split at h
      · exact (panics_not h).elim
      · rw [Sem.run_bind] at h
        cases hs : (program : Sem Program).run P w with
        | ok v w1 =>
          rw [hs] at h
          simp only [Result.andThen_ok] at h
          rw [Sem.run_bind] at h
          rename_i t v1 _ name _
          cases hs2 : Sem.run P (nilAhead (v.types.size + Made.depth) _ _ _) w1 with
          | ok v2 w2 =>
            rw [hs2] at h
            simp only [Result.andThen_ok] at h
            split at h
            · simp [go_sem] at h
            · rw [Sem.run_pure] at h; injection h with h1 _; exact ⟨_, h1.symm⟩
          | halt _ _ => rw [hs2] at h; cases h
        | halt _ _ => rw [hs] at h; cases h
      · rw [Sem.run_pure] at h; injection h with h1 _; exact ⟨_, h1.symm⟩
    · rw [Sem.run_pure] at h; injection h with h1 _; exact ⟨_, h1.symm⟩
  case call c =>
    obtain ⟨callee, args, tys⟩ := c
    cases callee with
    | builtin b => cases b <;> simp only [Bool.false_eq_true] at hp; exact ok_value (s := Builtin.len_ _ _ _) (g := id) h
    | _ => simp at hp
  all_goals first
    | exact ok_value (g := id) h
    | exact ok_value h
    | (rw [Sem.run_pure] at h; injection h with h1 _; exact ⟨_, h1.symm⟩)
section
variable {P : Program} {ops : Array Oper} {C : World → Prop} {md : Region.Mode}
/-- one walk, in the order of the list; 'true' stands at the operations that must come alone -/
def wpR (P : Program) (ops : Array Oper) (C : World → Prop) (Q : Act → World → Prop) : List Bool → List Oper → Act → World → Prop
  | _, [], a, w => Q a w
  | [], _ :: _, _, _ => False
  | b :: fs, o :: rest, a, w => if Region.wanted o (yielded ops a.tmps) = true then
        (if b = true then o.wp P a w (fun a' w' => C w' ∧ wpR P ops C Q fs rest a' w') (fun _ _ _ => False)
         else o.quiet P a C (fun a' => wpR P ops C Q fs rest a' w))
      else wpR P ops C Q fs rest (a.put o.dst undef) w
/-- is such an order one that the region allows -/
def ordB (md : Region.Mode) (ops : Array Oper) : List Bool → List Nat → Array Bool → Bool
  | _, [], listed => (Region.ready md ops listed).isEmpty
  | [], _ :: _, _ => false
  | b :: fs, i :: rest, listed => (if b then Region.ready md ops listed == [i] else
      ((Region.ready md ops listed).contains i && (Region.free md ops listed i && ((ops[i]?).map plainOp).getD false))) && ordB md ops fs rest (listed.setIfInBounds i true)
theorem wpAnyH_of_wpR {K : Act → World → Prop} (hs : Region.noSelect ops = true) : ∀ (fs : List Bool) (l : List Nat) (L : List Oper) (listed : Array Bool) (a : Act) (w : World), l.map (fun i => ops[i]?) = L.map some → ordB md ops fs l listed = true → C w →
    wpR P ops C K fs L a w → wpAnyH P md ops (fun e a w => e = .normal ∧ K a w) C l.length listed a w
  | fs, [], [], listed, a, w, _, ho, _, h => ⟨by cases fs <;> simpa [ordB] using ho, rfl, by cases fs <;> exact h⟩
  | _, [], _ :: _, _, _, _, hl, _, _, _ => by simp at hl
  | _, _ :: _, [], _, _, _, hl, _, _, _ => by simp at hl
  | [], _ :: _, _ :: _, _, _, _, _, ho, _, _ => by simp [ordB] at ho
  | b :: fs, i :: rest, o :: L, listed, a, w, hl, ho, hC, h => by
    simp only [ordB, Bool.and_eq_true] at ho
    obtain ⟨ho1, ho2⟩ := ho
    simp only [wpR] at h
    simp only [List.map_cons, List.cons.injEq] at hl
    obtain ⟨hi, hl⟩ := hl
    by_cases hb : b = true
    · simp only [hb, if_true] at ho1 h
      have hr : Region.ready md ops listed = [i] := by simpa using ho1
      refine wpAnyH_all hr (by simp) fun j hj => ?_
      obtain rfl : j = i := by simpa using hj
      unfold wpOp
      simp only [hi]
      split
      · rename_i hw
        simp only [hw, if_true] at h
        refine .inl ?_
        have h2 := Oper.wp_mono (K' := fun a' w' => C w' ∧ wpAnyH P md ops (fun e a w => e = .normal ∧ K a w) C rest.length (listed.setIfInBounds j true) a' w') (fun a' w' hh => ⟨hh.1, wpAnyH_of_wpR hs fs rest L _ a' w' hl ho2 hh.1 hh.2⟩) h
        unfold Oper.wp at *
        generalize (execOp a.eval o).run P w = r at *
        cases r with
        | ok n w' =>
          cases n <;> simp only [Oper.upon] at h2 ⊢ <;> first
            | exact h2
            | exact Calls.mono h2 fun e w'' he => by
                cases e with
                | returned v => exact he
                | panicked c => exact he.elim
                | outgrown => obtain ⟨_, _, q⟩ := he; exact q.elim
        | halt x w' => cases x <;> simp only [Oper.upon] at h2 ⊢ <;> exact h2.elim
      · rename_i hw
        simp only [hw] at h
        exact ⟨hC, wpAnyH_of_wpR hs fs rest L _ _ w hl ho2 hC h⟩
    · simp only [hb] at ho1 h
      simp only [Bool.false_eq_true, if_false, Bool.and_eq_true] at ho1 h
      obtain ⟨hr, hf, hp⟩ := ho1
      have hp' : plainOp o = true := by simpa [hi] using hp
      by_cases hw : Region.wanted o (yielded ops a.tmps) = true
      · simp only [hw, if_true] at h
        obtain ⟨v, h1, h2⟩ := h
        refine wpAnyH_take hi hs hf hr (fun c a w q => by cases q.1) (.inl ⟨hw, fun w' hw' => ?_⟩) hC (wpAnyH_of_wpR hs fs rest L _ _ w hl ho2 hC h2)
        have h3 := h1 w' hw'
        unfold Oper.quietAt at h3
        generalize hx : (execOp a.eval o).run P w' = r at h3
        cases r with
        | ok n w'' =>
          obtain ⟨u, rfl⟩ := plain_value hp' hx
          simp only [Oper.quietUpon] at h3
          rw [h3.1, h3.2]
        | halt x w'' => exact h3.elim
      · have hw' : Region.wanted o (yielded ops a.tmps) = false := by simpa using hw
        simp only [hw', Bool.false_eq_true, if_false] at h
        exact wpAnyH_take hi hs hf hr (fun c a w q => by cases q.1) (.inr ⟨hw', rfl⟩) hC (wpAnyH_of_wpR hs fs rest L _ _ w hl ho2 hC h)
/-- the walk, behind a word that no tactic looks into -/
structure Rgn (P : Program) (ops : Array Oper) (C : World → Prop) (Q : Act → World → Prop) (fs : List Bool) (l : List Oper) (a : Act) (w : World) : Prop where
  out : wpR P ops C Q fs l a w
/-- **the region**: the class of worlds is 'w' with some draws and some blocks laid behind it; any order that the region allows -/
theorem region_in {id : Nat} {Q : Exit → Act → World → Prop} {a : Act} {w : World} {l : List Oper} (fs : List Bool) (ord : List Nat) (L : List Oper) (hm : P.follows .mixedOrders = true) (hs : Region.noSelect l.toArray = true)
    (hn : ord.length = l.length) (hL : ord.map (fun i => l.toArray[i]?) = L.map some) (hB : ordB .any l.toArray fs ord (Array.replicate l.length false) = true)
    (h : Rgn P l.toArray (fun w' => ∃ p : Regrown, w' = grow (redrawn w p.d) p.os) (fun a' w' => Q .normal a' w') fs L a w.drew) : (Code.region id l.toArray true).wp P Q a w := by
  refine Code.wp_mono (Q := fun e a w => e = .normal ∧ Q .normal a w) (fun e a w hh => by obtain ⟨rfl, hh⟩ := hh; exact hh) ?_
  refine wp_region_held (S := fun w' => ∃ p : Regrown, w' = grow (redrawn w p.d) p.os) hm ?_
  have := wpAnyH_of_wpR (md := .any) hs fs ord L (Array.replicate l.length false) a w.drew hL hB ⟨⟨w.drawn + 1, #[]⟩, by rw [grow_empty]; rfl⟩ h.out
  rw [hn] at this
  simpa using this
/-- the operations in another order -/
def permL (l : List Oper) : List Nat → List Oper
  | [] => []
  | i :: r => (l[i]?).toList ++ permL l r
theorem region_or {id : Nat} {Q : Exit → Act → World → Prop} {a : Act} {w : World} {l : List Oper} (fs : List Bool) (ord : List Nat) (hm : P.follows .mixedOrders = true) (hs : Region.noSelect l.toArray = true)
    (hn : ord.length = l.length) (hL : ord.map (fun i => l.toArray[i]?) = (permL l ord).map some) (hB : ordB .any l.toArray fs ord (Array.replicate l.length false) = true)
    (h : Rgn P l.toArray (fun w' => ∃ p : Regrown, w' = grow (redrawn w p.d) p.os) (fun a' w' => Q .normal a' w') fs (permL l ord) a w.drew) : (Code.region id l.toArray true).wp P Q a w :=
  region_in fs ord (permL l ord) hm hs hn hL hB h
/-- in the order of the text -/
theorem region_by {id : Nat} {Q : Exit → Act → World → Prop} {a : Act} {w : World} {l : List Oper} (fs : List Bool) (hm : P.follows .mixedOrders = true) (hs : Region.noSelect l.toArray = true)
    (hB : ordB .any l.toArray fs (List.range l.length) (Array.replicate l.length false) = true)
    (h : Rgn P l.toArray (fun w' => ∃ p : Regrown, w' = grow (redrawn w p.d) p.os) (fun a' w' => Q .normal a' w') fs l a w.drew) : (Code.region id l.toArray true).wp P Q a w :=
  region_in fs (List.range l.length) l hm hs (by simp) (by
    apply List.ext_getElem?
    intro i
    rw [List.getElem?_map, List.getElem?_map]
    by_cases hi : i < l.length
    · simp [hi]
    · simp [hi]) hB h
theorem wpR_nil {fs : List Bool} {Q : Act → World → Prop} {a : Act} {w : World} (h : Q a w) : Rgn P ops C Q fs [] a w := ⟨by cases fs <;> exact h⟩
theorem wpR_skip {Q : Act → World → Prop} {a : Act} {w : World} {b : Bool} {fs : List Bool} {rest : List Oper} {o : Oper} (hw : Region.wanted o (yielded ops a.tmps) = false)
    (h : Rgn P ops C Q fs rest (a.put o.dst undef) w) : Rgn P ops C Q (b :: fs) (o :: rest) a w := ⟨by
  simp only [wpR, hw, Bool.false_eq_true, if_false]; exact h.out⟩
theorem wpR_det {Q : Act → World → Prop} {a : Act} {w : World} {fs : List Bool} {rest : List Oper} {o : Oper} (hw : Region.wanted o (yielded ops a.tmps) = true)
    (h : ∀ K : Act → Prop, (∀ a, Rgn P ops C Q fs rest a w → K a) → o.quiet P a C K) : Rgn P ops C Q (false :: fs) (o :: rest) a w := ⟨by
  simp only [wpR, hw, Bool.false_eq_true, if_false, if_true]; exact h _ fun _ h => h.out⟩
theorem wpR_bar {Q : Act → World → Prop} {a : Act} {w : World} {fs : List Bool} {rest : List Oper} {o : Oper} (hw : Region.wanted o (yielded ops a.tmps) = true)
    (h : ∀ K : Act → World → Prop, (∀ a w', C w' → Rgn P ops C Q fs rest a w' → K a w') → o.wp P a w K (fun _ _ _ => False)) : Rgn P ops C Q (true :: fs) (o :: rest) a w := ⟨by
  simp only [wpR, hw, if_true]; exact h _ fun _ _ h1 h2 => ⟨h1, h2.out⟩⟩
end
/-- one name for a world with a new block, behind a draw -/
theorem gen1d {w : World} {c1 : Array Value} {t1 : TypeId} {p : World → Prop}
    (h : ∀ W, Below w.heap.size w W → W.heap.size = w.heap.size + 1 → Blk W w.heap.size t1 c1 → p W) :
    p (w.alloc (.cells c1 t1)).drew :=
  h _ (((Below.refl _ _).alloc (Nat.le_refl _) _).drew) (by simp) (Blk.drew (Blk.new _ _ _))
end Go.Proofs.YtknfpigaognklaaGreatDoor
