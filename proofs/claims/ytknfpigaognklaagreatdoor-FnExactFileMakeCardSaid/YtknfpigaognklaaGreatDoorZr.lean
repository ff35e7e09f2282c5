/- A loop over an iterator that keeps state of its own in memory and hands out memory of its own: one law. With it: a drawn region within a round, walked once in an order of the prover's choice. A region that draws its order, with calls and with stores at its end: walked once; as a law at a plain place and in a round. -/
import Derived.Test.YtknfpigaognklaaGreatDoorRg
import Derived.RangeFuncNested
import Derived.RangeFuncBound
import Derived.RangeFuncCalls
import Derived.RangeFuncLeaves
import Derived.Shelf.Abstract
import Derived.Shelf.RegionOpen
import Derived.OwnWalkIn
import Derived.TacticsInMore
import Derived.LoopNIn
import Derived.LoopIn
import Derived.StillTail
namespace Go.Proofs.YtknfpigaognklaaGreatDoor
open Go.RowKit Go.Sort
/-- W' is as W, but for the blocks of S, which may have been written, and for new blocks -/
structure Kept (S : Nat → Prop) (W W' : World) : Prop where
  os : W'.os = W.os
  tape : W'.tape = W.tape
  output : W'.output = W.output
  size : W.heap.size ≤ W'.heap.size
  block : ∀ k, k < W.heap.size → ¬ S k → W'.heap[k]? = W.heap[k]?
theorem Kept.refl (S : Nat → Prop) (W : World) : Kept S W W := ⟨rfl, rfl, rfl, Nat.le_refl _, fun _ _ _ => rfl⟩
theorem Kept.trans {S : Nat → Prop} {A B C : World} (h : Kept S A B) (k : Kept S B C) : Kept S A C :=
  ⟨k.os.trans h.os, k.tape.trans h.tape, k.output.trans h.output, Nat.le_trans h.size k.size, fun i h1 h2 => (k.block i (Nat.lt_of_lt_of_le h1 h.size) h2).trans (h.block i h1 h2)⟩
theorem Kept.of_below {S : Nat → Prop} {A B : World} (h : Below A.heap.size A B) : Kept S A B := ⟨h.os, h.tape, h.output, h.size, fun k h1 _ => h.block k h1⟩
theorem Kept.grown {S : Nat → Prop} {A B : World} {row : Option Nat} (h : A.grownBy B row) (hr : ∀ k, row = some k → S k) : Kept S A B :=
  ⟨h.os, h.tape, h.output, h.size, fun k h1 h2 => h.block k h1 (fun e => h2 (hr k e.symm))⟩
theorem Kept.set {S : Nat → Prop} {A : World} {b : Nat} (h1 : S b) (v : Value) (o : Nat) : Kept S A (A.setCell ⟨b, o, none⟩ v) :=
  ⟨rfl, rfl, rfl, by simp [World.setCell], fun k _ h3 => Below.heap_setCell _ _ _ _ (fun e => h3 (by rw [show k = b from e]; exact h1))⟩
theorem Kept.drew {S : Nat → Prop} {A B : World} (h : Kept S A B) : Kept S A B.drew := ⟨h.os, h.tape, h.output, h.size, h.block⟩
theorem Kept.mono {S T : Nat → Prop} {A B : World} (h : Kept S A B) (hs : ∀ k, S k → T k) : Kept T A B := ⟨h.os, h.tape, h.output, h.size, fun k h1 h2 => h.block k h1 (fun e => h2 (hs k e))⟩
theorem Kept.below {S : Nat → Prop} {A B : World} {n : Nat} (h : Kept S A B) (hn : n ≤ A.heap.size) (hs : ∀ k, S k → n ≤ k) : Below n A B :=
  ⟨h.os, h.tape, h.output, h.size, fun k hk => h.block k (by omega) (fun e => by have := hs k e; omega)⟩
/-- what speaks of nothing from B on -/
def Stays {β : Type} (B : Nat) (J : β → World → Prop) : Prop := ∀ s A C row, J s A → A.grownBy C row → (∀ r, row = some r → B ≤ r) → J s C
theorem Stays.putObj {β : Type} {B : Nat} {J : β → World → Prop} (h : Stays B J) {s : β} {W : World} {l : Nat} (o : Obj) (hs : J s W) (hl : B ≤ l) : J s (W.putObj l o) :=
  h _ _ _ _ hs (grownBy_putObj' W l o) (fun r e => by cases e; exact hl)
/-- what an iterator promises whose rounds get what 'G' says of the world -/
def Runs {α : Type} (P : Program) (gf : FuncId) (lb : Array Value) (enc : α → Value) (G : Nat → List α → α → World → Prop) (S : Nat → Prop) (Dn Sp : List α → Prop) (w0 : World) : Prop :=
  ∀ (l : Nat) (J Jx : List α → World → Prop) (W : World), w0.heap.size ≤ l → l < W.heap.size → Below w0.heap.size w0 W → Stays W.heap.size J →
    (∀ pre x W1, J pre W1 → W.heap.size ≤ W1.heap.size → G W.heap.size pre x W1 → YieldAt Fence.wide 2 P l #[enc x] W1 fun e W' =>
      (e = .returned (.bool true) ∧ J (pre ++ [x]) W' ∧ Kept (fun k => S k ∨ k = l) W1 W') ∨ (e = .returned (.bool false) ∧ Jx (pre ++ [x]) W')) →
    J [] W → Calls P gf (#[.func (.yield l) #[] #[]] ++ lb) W fun e W' => (∃ v, e = .returned v) ∧ ((∃ xs, Dn xs ∧ J xs W') ∨ (∃ pre, Sp pre ∧ Jx pre W'))
/-- how a round's body may be left -/
def roundQ {α : Type} (S : Nat → Prop) (I : List α → World → Prop) (Ix : Code → List α → World → Prop) (xs : List α) (W : World) : Exit → Act → World → Prop
  | .normal, _, W' => Kept S W W' ∧ I xs W'
  | .ret, _, W' => Kept S W W' ∧ Ix .ret xs W'
  | .exit id, _, W' => Kept S W W' ∧ Ix (.exit id) xs W'
  | .goto t, _, W' => Kept S W W' ∧ Ix (.goto t) xs W'
  | .panic _, _, _ => False
  | .outgrown, _, _ => False
theorem wp_runs {α : Type} {P : Program} {g : Operand} {p0 : Tmp} {assign body : Code} {Q : Exit → Act → World → Prop} {a : Act} {w : World} {gf : FuncId} {lb : Array Value}
    (hg : a.eval g = .func (.func gf) #[] lb) (eg : ∀ args w, (callFunc gf args).run P w = .ok (.enter gf args) w) {enc : α → Value} {G : Nat → List α → α → World → Prop} {S : Nat → Prop} {Dn Sp : List α → Prop} {w0 : World}
    (hseq : Runs P gf lb enc G S Dn Sp w0) (hb0 : Below w0.heap.size w0 w) (hS : ∀ k, S k → k < w.heap.size)
    (I : List α → World → Prop) (Ix : Code → List α → World → Prop) (hI : Stays w.heap.size I) (hIx : ∀ c, Stays w.heap.size (Ix c)) (h0 : I [] w)
    (hround : ∀ (l : Nat) (pre : List α) (x : α) (W1 : World), l = w.heap.size + 1 → l < W1.heap.size → I pre W1 → G (w.heap.size + 2) pre x W1 →
      assign.wpIn (Fence.wide.inRound l) 2 P (Exit.then (fun a' Wa => W1.grownBy Wa none ∧ ∀ o : Obj, body.wpIn (Fence.wide.inRound l) 2 P (roundQ S I Ix (pre ++ [x]) (Wa.putObj l o)) a' (Wa.putObj l o)) (fun _ _ _ => False))
        { tmps := (#[p0].zip #[enc x]).foldl (fun t (p, v) => t.setIfInBounds p v) a.tmps, defers := [] } W1)
    (hdone : ∀ (D : Nat) (xs : List α) (W : World), w.heap.size ≤ D → Dn xs → I xs W → W.heap[D]? = some (.deferred (some [])) → Q .normal { a with defers := { target := .collected D, args := #[] } :: a.defers } W)
    (hstop : ∀ (D : Nat) (c : Code) (pre : List α) (W : World), w.heap.size ≤ D → Sp pre → Ix c pre W → W.heap[D]? = some (.deferred (some [])) → c.wpIn Fence.wide 4 P Q { a with defers := { target := .collected D, args := #[] } :: a.defers } W) :
    (Code.rangeFunc g #[p0] assign body).wpIn Fence.wide 4 P Q a w := by
  refine wpIn_rangeFunc ?_
  intro fn hfn
  obtain ⟨rec, hrec⟩ : ∃ rec : LoopState → Option Code → Loop, rec = fun st pe => { state := st, pending := pe, fn, tmps := a.tmps, params := #[p0], assign, body, defers := w.heap.size } := ⟨_, rfl⟩
  obtain ⟨W1, hW1⟩ : ∃ W1, (w.alloc (.deferred (some []))).alloc (.loop (rec .ready none)) = W1 := ⟨_, rfl⟩
  have hs1 : W1.heap.size = w.heap.size + 2 := by rw [← hW1]; simp
  have hL1 : W1.heap[w.heap.size + 1]? = some (.loop (rec .ready none)) := by
    rw [← hW1]; have := World.alloc_heap_new (w.alloc (.deferred (some []))) (.loop (rec .ready none)); rwa [World.size_alloc] at this
  have hK1 : W1.heap[w.heap.size]? = some (.deferred (some [])) := by
    rw [← hW1]; exact (Below.heap_alloc _ _ _ (by simp)).trans (World.alloc_heap_new w _)
  have al : ∀ {β : Type} {J : β → World → Prop} {s : β} {W : World} (o : Obj), Stays w.heap.size J → J s W → J s (W.alloc o) := fun o hJ hs => hJ _ _ _ none hs (World.grownBy_alloc _ _ _) (by simp)
  have hI1 : I [] W1 := by rw [← hW1]; exact al _ hI (al _ hI h0)
  have hb1 : Below w0.heap.size w0 W1 := by
    rw [← hW1]; exact hb0.trans ((((Below.refl _ w).alloc (Nat.le_refl _) _).alloc (by simp) _).mono hb0.size)
  refine ⟨w.heap.size + 1, [{ target := .collected w.heap.size, args := #[] }], W1, { target := .fn (.func gf) lb, args := #[.func (.yield (w.heap.size + 1)) #[] #[]] }, W1, gf,
    #[.func (.yield (w.heap.size + 1)) #[] #[]] ++ lb, W1, ?_, ?_, ?_, ?_, fun h => (by simp [Fence.wide] at h), ?_⟩
  · rw [← hW1, hrec]; exact run_enterLoop_outer _ _ _ _ _
  · simp only [resolve, hg]
    simp [go_sem]
  · intro f' hf'; trivial
  · simp [invoke, go_sem, eg]
  · refine callsIn_wide.2 ((hseq (w.heap.size + 1)
      (fun pre W => I pre W ∧ W.heap[w.heap.size + 1]? = some (.loop (rec .ready none)) ∧ W.heap[w.heap.size]? = some (.deferred (some [])))
      (fun pre W => ∃ c, Ix c pre W ∧ W.heap[w.heap.size + 1]? = some (.loop (rec .done (some c))) ∧ W.heap[w.heap.size]? = some (.deferred (some [])))
      W1 (by have := hb0.size; omega) (by omega) hb1 ?_ ?_ ⟨hI1, hL1, hK1⟩).mono ?_)
    · intro s A C row hs hg' hr
      have hsz := (Array.getElem?_eq_some_iff.1 hs.2.1).1
      exact ⟨hI s A C row hs.1 hg' (fun r e => by have := hr r e; omega), (hg'.block _ hsz (fun e => by have := hr _ e.symm; omega)).trans hs.2.1,
        (hg'.block _ (by omega) (fun e => by have := hr _ e.symm; omega)).trans hs.2.2⟩
    · rintro pre x W ⟨hi, hl, hk⟩ hsz hGx
      rw [hs1] at hsz hGx
      have hy := run_yield (P := P) (args := #[enc x]) hl (by rw [hrec]; rfl)
      rw [hrec] at hy
      refine ⟨fn, _, assign, body, hy, roundIn_of_wpIn hfn ?_⟩
      have hr0 := hround (w.heap.size + 1) pre x W rfl (by omega) hi hGx
      clear hy
      refine wpIn_mono hr0 ?_
      intro e a' Wa hp
      cases e with
      | normal =>
        obtain ⟨hgr, hbody⟩ := hp
        have hl2 := (hgr.block (w.heap.size + 1) (by omega) (by simp)).trans hl
        have hk2 := (hgr.block w.heap.size (by omega) (by simp)).trans hk
        have hsz2 := hgr.size
        have hia := hI pre W Wa none hi hgr (by simp)
        refine ⟨_, run_beginRound hl2 (by rw [hrec]), ?_⟩
        refine wpIn_mono (hbody _) ?_
        have k1 : Kept (fun k => S k ∨ k = w.heap.size + 1) W (Wa.putObj (w.heap.size + 1) (.loop { rec .ready none with state := .busy })) :=
          (Kept.grown hgr (by simp)).trans (Kept.grown (grownBy_putObj' _ _ _) (fun k e => by cases e; exact .inr rfl))
        have hl3 : (Wa.putObj (w.heap.size + 1) (.loop { rec .ready none with state := .busy })).heap[w.heap.size + 1]? = some (.loop { rec .ready none with state := .busy }) := World.putObj_heap_same (by omega)
        have hk3 : (Wa.putObj (w.heap.size + 1) (.loop { rec .ready none with state := .busy })).heap[w.heap.size]? = some (.deferred (some [])) := (World.putObj_heap_other (by omega)).trans hk2
        have hs3 : w.heap.size + 2 ≤ (Wa.putObj (w.heap.size + 1) (.loop { rec .ready none with state := .busy })).heap.size := by simp; omega
        have fin : ∀ (jump : Option Code) (W3 : World), Kept S (Wa.putObj (w.heap.size + 1) (.loop { rec .ready none with state := .busy })) W3 →
            (Instr.endRound (w.heap.size + 1) jump).run P W3 = .ok (.bool jump.isNone) (W3.putObj (w.heap.size + 1) (.loop (rec (if jump.isNone then .ready else .done) jump))) ∧
            (W3.putObj (w.heap.size + 1) (.loop (rec (if jump.isNone then .ready else .done) jump))).heap[w.heap.size + 1]? = some (.loop (rec (if jump.isNone then .ready else .done) jump)) ∧
            (W3.putObj (w.heap.size + 1) (.loop (rec (if jump.isNone then .ready else .done) jump))).heap[w.heap.size]? = some (.deferred (some [])) ∧
            Kept (fun k => S k ∨ k = w.heap.size + 1) W (W3.putObj (w.heap.size + 1) (.loop (rec (if jump.isNone then .ready else .done) jump))) := fun jump W3 hk4 => by
          have hl5 := (hk4.block _ (by omega) (fun e => by have := hS _ e; omega)).trans hl3
          have hk5 := (hk4.block _ (by omega) (fun e => by have := hS _ e; omega)).trans hk3
          have := run_endRound (P := P) jump hl5
          rw [hrec] at this ⊢
          have hlt := (Array.getElem?_eq_some_iff.1 hl5).1
          refine ⟨this, World.putObj_heap_same hlt, (World.putObj_heap_other (by omega)).trans hk5, k1.trans ?_⟩
          exact (hk4.mono (fun k e => .inl e)).trans (Kept.grown (grownBy_putObj' _ _ _) (fun k e => by cases e; exact .inr rfl))
        generalize hWb : Wa.putObj (w.heap.size + 1) (.loop { rec .ready none with state := .busy }) = Wb at *
        intro e2 a3 W3 hp2
        cases e2 with
        | normal =>
          obtain ⟨hk4, hi4⟩ := hp2
          obtain ⟨hr, hl5, hk5, hk6⟩ := fin none W3 hk4
          exact ⟨_, _, hr, .inl ⟨rfl, ⟨hI.putObj _ hi4 (by omega), hl5, hk5⟩, hk6⟩⟩
        | ret =>
          obtain ⟨hk4, hi4⟩ := hp2
          obtain ⟨hr, hl5, hk5, hk6⟩ := fin (some .ret) W3 hk4
          exact ⟨_, _, hr, .inr ⟨rfl, .ret, (hIx _).putObj _ hi4 (by omega), hl5, hk5⟩⟩
        | exit id =>
          obtain ⟨hk4, hi4⟩ := hp2
          obtain ⟨hr, hl5, hk5, hk6⟩ := fin (some (.exit id)) W3 hk4
          exact ⟨_, _, hr, .inr ⟨rfl, .exit id, (hIx _).putObj _ hi4 (by omega), hl5, hk5⟩⟩
        | goto t =>
          obtain ⟨hk4, hi4⟩ := hp2
          obtain ⟨hr, hl5, hk5, hk6⟩ := fin (some (.goto t)) W3 hk4
          exact ⟨_, _, hr, .inr ⟨rfl, .goto t, (hIx _).putObj _ hi4 (by omega), hl5, hk5⟩⟩
        | panic ch => exact hp2.elim
        | outgrown => exact hp2.elim
      | exit id => exact hp.elim
      | goto t => exact hp.elim
      | ret => exact hp.elim
      | panic chain => exact hp.elim
      | outgrown => exact hp.elim
    · rintro e W2 ⟨⟨v, rfl⟩, (⟨xs, hS, hi, hl, hk⟩ | ⟨pre, hSp, c, hi, hl, hk⟩)⟩
      · exact ⟨none, _, by have := run_endLoop (P := P) hl (by rw [hrec]; simp); rw [hrec] at this; exact this, hdone _ xs _ (Nat.le_refl _) hS (hI.putObj _ hi (by omega)) ((World.putObj_heap_other (by omega)).trans hk)⟩
      · exact ⟨some c, _, by have := run_endLoop (P := P) hl (by rw [hrec]; simp); rw [hrec] at this; exact this, hstop _ c pre _ (Nat.le_refl _) hSp ((hIx c).putObj _ hi (by omega)) ((World.putObj_heap_other (by omega)).trans hk)⟩
/-! ### an operation within a round -/
theorem op_in {P : Program} {n l : Nat} {o : Oper} {a : Act} {w : World} {K : Act → World → Prop} {Q : Exit → Act → World → Prop} (hd : ∀ c : Call, o.op ≠ .defer c) (h : o.wp P a w K Q) : o.wpIn (Fence.wide.inRound l) n P a w K Q := by
  refine ⟨fun _ _ => trivial, ?_⟩
  rw [Oper.semAt_plain _ _ _ hd]
  unfold Oper.wp at h
  generalize (execOp a.eval o).run P w = r at *
  have hw : ((Fence.wide.inRound l).depth.isSome = true → 1 ≤ n) := fun h => by simp [Fence.wide, Fence.inRound] at h
  cases r with
  | ok x w' =>
    cases x <;> simp only [Oper.upon, Oper.uponIn] at h ⊢ <;> first
      | exact h
      | exact h.elim
      | (refine ⟨hw, CallsIn.inRound l (callsIn_wide.2 ?_)⟩; refine Calls.mono h ?_; intro e w'' he; cases e <;> exact he)
      | exact ⟨hw, fun c cs _ => let ⟨v, w', r, s⟩ := h c cs; ⟨v, w', r, stepsIn_wide.2 s⟩⟩
  | halt x w' => cases x <;> simp only [Oper.upon, Oper.uponIn] at h ⊢ <;> first | exact h | exact h.elim
theorem any_in {P : Program} {md : Region.Mode} {ops : Array Oper} {n l : Nat} {Q : Exit → Act → World → Prop} (hd : ∀ (i : Nat) (o : Oper) (c : Call), ops[i]? = some o → o.op ≠ .defer c) (hQ : ¬ LetsOut Q) : ∀ (fuel : Nat) (listed : Array Bool) (a : Act) (w : World), wpAny P md ops Q fuel listed a w → wpAnyIn (Fence.wide.inRound l) n P md ops Q fuel listed a w
  | 0, _, _, _, h => h
  | fuel + 1, listed, a, w, h => ⟨h.1, fun i hi => by
    have h2 := h.2 i hi
    unfold wpOp at h2
    unfold wpOpIn
    cases ho : ops[i]? with
    | none => rw [ho] at h2; simp only at h2 ⊢; exact any_in hd hQ fuel _ a w h2
    | some o =>
      rw [ho] at h2
      simp only at h2 ⊢
      split
      · rename_i hw
        simp only [hw, if_true] at h2
        rcases h2 with h2 | h2
        · exact op_in (fun c => hd i o c ho) (Oper.wp_mono (fun a' w' h3 => any_in hd hQ fuel _ a' w' h3) h2)
        · exact absurd h2.2 hQ
      · rename_i hw
        simp only [hw] at h2
        exact ⟨fun _ _ => trivial, any_in hd hQ fuel _ _ w h2⟩⟩
def deferB (o : Oper) : Bool := match o.op with
  | .defer _ => true
  | _ => false
theorem deferB_no {ops : Array Oper} (h : ops.all (fun o => !deferB o) = true) (i : Nat) (o : Oper) (c : Call) (ho : ops[i]? = some o) : o.op ≠ .defer c := by
  intro e
  rw [Array.all_eq_true] at h
  obtain ⟨hlt, rfl⟩ := Array.getElem?_eq_some_iff.1 ho
  have := h i hlt
  simp [deferB, e] at this
/-- the drawn region within a round, in an order of the prover's choice -/
theorem region_inR {P : Program} {id n l : Nat} {Q : Exit → Act → World → Prop} {a : Act} {w : World} {L0 : List Oper} (fs : List Bool) (ord : List Nat) (L : List Oper) (hm : P.follows .mixedOrders = true) (hs : Region.noSelect L0.toArray = true) (hd : L0.toArray.all (fun o => !deferB o) = true)
    (hn : ord.length = L0.length) (hL : ord.map (fun i => L0.toArray[i]?) = L.map some) (hB : ordB .any L0.toArray fs ord (Array.replicate L0.length false) = true)
    (h : Rgn P L0.toArray (fun w' => ∃ p : Regrown, w' = grow (redrawn w p.d) p.os) (fun a' w' => Q .normal a' w') fs L a w.drew) : (Code.region id L0.toArray true).wpIn (Fence.wide.inRound l) n P Q a w := by
  refine wpIn_mono (Q := fun e a w => e = .normal ∧ Q .normal a w) ?_ (fun e a w hh => by obtain ⟨rfl, hh⟩ := hh; exact hh)
  refine wpIn_region_any hm ?_
  have := wpAnyH_of_wpR (md := .any) hs fs ord L (Array.replicate L0.length false) a w.drew hL hB ⟨⟨w.drawn + 1, #[]⟩, by rw [grow_empty]; rfl⟩ h.out
  rw [hn] at this
  simpa using any_in (l := l) (n := n) (deferB_no hd) (fun ⟨_, _, hq⟩ => by cases hq.1) _ _ _ _ (wpAny_of_held _ _ _ _ this)
theorem region_orR {P : Program} {id n l : Nat} {Q : Exit → Act → World → Prop} {a : Act} {w : World} {L0 : List Oper} (fs : List Bool) (ord : List Nat) (hm : P.follows .mixedOrders = true) (hs : Region.noSelect L0.toArray = true) (hd : L0.toArray.all (fun o => !deferB o) = true)
    (hn : ord.length = L0.length) (hL : ord.map (fun i => L0.toArray[i]?) = (permL L0 ord).map some) (hB : ordB .any L0.toArray fs ord (Array.replicate L0.length false) = true)
    (h : Rgn P L0.toArray (fun w' => ∃ p : Regrown, w' = grow (redrawn w p.d) p.os) (fun a' w' => Q .normal a' w') fs (permL L0 ord) a w.drew) : (Code.region id L0.toArray true).wpIn (Fence.wide.inRound l) n P Q a w :=
  region_inR fs ord (permL L0 ord) hm hs hd hn hL hB h
end Go.Proofs.YtknfpigaognklaaGreatDoor
namespace Go.Proofs.YtknfpigaognklaaGreatDoor
open Go.RowKit Go.Sort
section
variable {P : Program} {ops : Array Oper} {C : World → Prop} {md : Region.Mode} {Q : Exit → Act → World → Prop} {n : Nat}
/-- any order from here on; behind each operation C holds, or it is not one of the first n -/
def anyB (P : Program) (md : Region.Mode) (ops : Array Oper) (Q : Exit → Act → World → Prop) (C : World → Prop) (n : Nat) : Nat → Array Bool → Act → World → Prop
  | 0, listed, a, w => Region.ready md ops listed = [] ∧ Q .normal a w
  | fuel + 1, listed, a, w => (Region.ready md ops listed = [] → Q .normal a w) ∧
    ∀ i ∈ Region.ready md ops listed, wpOp P ops Q i (fun a' w' => (C w' ∨ n ≤ i) ∧ anyB P md ops Q C n fuel (listed.setIfInBounds i true) a' w') a w
theorem any_of_B : ∀ (fuel : Nat) (listed : Array Bool) (a : Act) (w : World), anyB P md ops Q C n fuel listed a w → wpAny P md ops Q fuel listed a w
  | 0, _, _, _, h => h
  | fuel + 1, _, _, _, h => ⟨h.1, fun i hi => wpOp_mono (fun a' w' h' => any_of_B fuel _ a' w' h'.2) (h.2 i hi)⟩
/-- one of the first n that may come up now, and that nobody minds, is taken first -/
theorem anyB_first {i : Nat} {oi : Oper} {v : Value} (hw : ∀ j, n ≤ j → j < ops.size → ∀ i, i < n → Region.waitsFor md ops j i = true) (hin : i < n) (hi : ops[i]? = some oi) (hsel : ∀ (j : Nat) (o : Oper) cs b, ops[j]? = some o → o.op ≠ .select cs b)
    (hQ : ∀ c a w, Q (.panic c) (a.put oi.dst v) w → Q (.panic c) a w) : ∀ (fuel : Nat) (listed : Array Bool) (a : Act) (w : World),
      (∀ j oj, ops[j]? = some oj → j ≠ i → listed.getD j true = false → (∀ e ∈ oj.after, Region.binds md e = true → e.on ≠ i) → oi.apart ops oj = true) →
      i ∈ Region.ready md ops listed → YieldsIf P ops C oi v a → C w →
      anyB P md ops Q C n fuel (listed.setIfInBounds i true) (a.put oi.dst v) w → anyB P md ops Q C n (fuel + 1) listed a w
  | 0, listed, a, w, _, hr, hy, hS, H => by
    refine ⟨fun h => (by rw [h] at hr; cases hr), fun j hj => ?_⟩
    by_cases hji : j = i
    · subst hji; exact hy.wpOp hi hS ⟨.inl hS, H⟩
    · have := ready_mono hj hji
      rw [H.1] at this
      cases this
  | fuel + 1, listed, a, w, hfree, hr, hy, hS, H => by
    refine ⟨fun h => (by rw [h] at hr; cases hr), fun j hj => ?_⟩
    by_cases hji : j = i
    · subst hji; exact hy.wpOp hi hS ⟨.inl hS, H⟩
    · have h1 := H.2 j (ready_mono hj hji)
      obtain ⟨hjun, oj, hoj, hall⟩ := mem_ready.1 hj
      have hiun := (mem_ready.1 hr).1
      have hnot : ∀ e ∈ oj.after, Region.binds md e = true → e.on ≠ i := fun e he hb heq => by
        have h1 := hall e he hb
        rw [heq] at h1
        rcases Nat.lt_or_ge i listed.size with h' | h'
        · simp [h'] at hiun h1; rw [hiun] at h1; cases h1
        · simp [Array.getElem?_eq_none h'] at h1
      have h2 := wpOp_putIf hoj (hfree j oj hoj hji hjun hnot) (fun cs b => hsel i oi cs b hi) (fun cs b => hsel j oj cs b hoj) hQ hy h1
      have hfree' : ∀ k ok, ops[k]? = some ok → k ≠ i → (listed.setIfInBounds j true).getD k true = false →
          (∀ e ∈ ok.after, Region.binds md e = true → e.on ≠ i) → oi.apart ops ok = true := fun k ok hk hki hun hno => by
        refine hfree k ok hk hki ?_ hno
        by_cases hjk : j = k
        · subst hjk; exact hjun
        · rw [getD_set_ne true hjk] at hun; exact hun
      refine wpOp_mono (fun a' w' h3 => ?_) h2
      obtain ⟨hy3, hC3, h3⟩ := h3
      rcases hC3 with hC3 | hC3
      · refine ⟨.inl hC3, anyB_first hw hin hi hsel hQ fuel (listed.setIfInBounds j true) a' w' hfree' (ready_mono hr (Ne.symm hji)) hy3 hC3 ?_⟩
        rw [Array.setIfInBounds_comm _ _ hji]
        exact h3
      · obtain ⟨oj', ho', e, he, hb, heq⟩ := Region.waitsFor_spec (hw j hC3 (Array.getElem?_eq_some_iff.1 hoj).1 i hin)
        rw [hoj] at ho'
        injection ho' with ho'
        subst ho'
        exact absurd heq (hnot e he hb)
/-- the walk: 0: a plain operation; 1: one that must come alone, C holding behind it; 2: one that must come alone behind all of the first n -/
def wpS (P : Program) (ops : Array Oper) (C : World → Prop) (K : Act → World → Prop) : List Nat → List Oper → Act → World → Prop
  | _, [], a, w => K a w
  | [], _ :: _, _, _ => False
  | b :: fs, o :: rest, a, w => if Region.wanted o (yielded ops a.tmps) = true then
        (if b = 0 then o.quiet P a C (fun a' => wpS P ops C K fs rest a' w)
         else o.wp P a w (fun a' w' => (b = 2 ∨ C w') ∧ wpS P ops C K fs rest a' w') (fun _ _ _ => False))
      else wpS P ops C K fs rest (a.put o.dst undef) w
def ordS (md : Region.Mode) (ops : Array Oper) (n : Nat) : List Nat → List Nat → Array Bool → Bool
  | _, [], listed => (Region.ready md ops listed).isEmpty
  | [], _ :: _, _ => false
  | b :: fs, i :: rest, listed => (if b = 0 then decide (i < n) && ((Region.ready md ops listed).contains i && (Region.free md ops listed i && ((ops[i]?).map plainOp).getD false))
      else (Region.ready md ops listed == [i] && (b != 2 || decide (n ≤ i)))) && ordS md ops n fs rest (listed.setIfInBounds i true)
def waitB (md : Region.Mode) (ops : Array Oper) (n : Nat) : Bool := (List.range ops.size).all fun j => decide (j < n) || (List.range n).all fun i => Region.waitsFor md ops j i
theorem waitB_spec (h : waitB md ops n = true) (j : Nat) (h1 : n ≤ j) (h2 : j < ops.size) (i : Nat) (h3 : i < n) : Region.waitsFor md ops j i = true := by
  have := List.all_eq_true.1 h j (List.mem_range.2 h2)
  rw [show decide (j < n) = false by simpa using h1, Bool.false_or] at this
  exact List.all_eq_true.1 this i (List.mem_range.2 h3)
theorem anyB_of_wpS {K : Act → World → Prop} (hs : Region.noSelect ops = true) (hw : ∀ j, n ≤ j → j < ops.size → ∀ i, i < n → Region.waitsFor md ops j i = true) : ∀ (fs l : List Nat) (L : List Oper) (listed : Array Bool) (a : Act) (w : World), l.map (fun i => ops[i]?) = L.map some → ordS md ops n fs l listed = true → (C w ∨ ∀ k, k < n → listed.getD k true = true) →
    wpS P ops C K fs L a w → anyB P md ops (fun e a w => e = .normal ∧ K a w) C n l.length listed a w
  | fs, [], [], listed, a, w, _, ho, _, h => ⟨by cases fs <;> simpa [ordS] using ho, rfl, by cases fs <;> exact h⟩
  | _, [], _ :: _, _, _, _, hl, _, _, _ => by simp at hl
  | _, _ :: _, [], _, _, _, hl, _, _, _ => by simp at hl
  | [], _ :: _, _ :: _, _, _, _, _, ho, _, _ => by simp [ordS] at ho
  | b :: fs, i :: rest, o :: L, listed, a, w, hl, ho, hC, h => by
    simp only [ordS, Bool.and_eq_true] at ho
    obtain ⟨ho1, ho2⟩ := ho
    simp only [wpS] at h
    simp only [List.map_cons, List.cons.injEq] at hl
    obtain ⟨hi, hl⟩ := hl
    have keep : (∀ k, k < n → listed.getD k true = true) → ∀ k, k < n → (listed.setIfInBounds i true).getD k true = true := fun h k hk => by
      by_cases e : i = k
      · subst e
        rcases Nat.lt_or_ge i listed.size with h' | h'
        · simp [Array.getElem?_setIfInBounds_self_of_lt h']
        · simp [Array.getElem?_eq_none (show (listed.setIfInBounds i true).size ≤ i by simpa using h')]
      · rw [getD_set_ne true e]; exact h k hk
    by_cases hb : b = 0
    · subst hb
      simp only [if_true, Bool.and_eq_true, decide_eq_true_eq] at ho1 h
      obtain ⟨hin, hr, hf, hp⟩ := ho1
      have hrd : i ∈ Region.ready md ops listed := by simpa using hr
      have hCw : C w := by
        rcases hC with hC | hC
        · exact hC
        · have h1 := hC i hin
          rw [(mem_ready.1 hrd).1] at h1
          cases h1
      have hp' : plainOp o = true := by simpa [hi] using hp
      by_cases hwd : Region.wanted o (yielded ops a.tmps) = true
      · simp only [hwd, if_true] at h
        obtain ⟨v, h1, h2⟩ := h
        refine anyB_first hw hin hi (Region.noSelect_spec hs) (fun c a w q => by cases q.1) rest.length listed a w (Region.free_spec hi hf) hrd (.inl ⟨hwd, fun w' hw' => ?_⟩) hCw (anyB_of_wpS hs hw fs rest L _ _ w hl ho2 (.inl hCw) h2)
        have h3 := h1 w' hw'
        unfold Oper.quietAt at h3
        generalize hx : (execOp a.eval o).run P w' = r at h3
        cases r with
        | ok n w'' =>
          obtain ⟨u, rfl⟩ := plain_value hp' hx
          simp only [Oper.quietUpon] at h3
          rw [h3.1, h3.2]
        | halt x w'' => exact h3.elim
      · have hwd' : Region.wanted o (yielded ops a.tmps) = false := by simpa using hwd
        simp only [hwd', Bool.false_eq_true, if_false] at h
        exact anyB_first hw hin hi (Region.noSelect_spec hs) (fun c a w q => by cases q.1) rest.length listed a w (Region.free_spec hi hf) hrd (.inr ⟨hwd', rfl⟩) hCw (anyB_of_wpS hs hw fs rest L _ _ w hl ho2 (.inl hCw) h)
    · simp only [if_neg hb, Bool.and_eq_true] at ho1 h
      obtain ⟨ho1, ht⟩ := ho1
      have hr : Region.ready md ops listed = [i] := by simpa using ho1
      have hrd : i ∈ Region.ready md ops listed := by rw [hr]; simp
      have tail : b = 2 → ∀ k, k < n → (listed.setIfInBounds i true).getD k true = true := fun e => by
        have hni : n ≤ i := by simpa [e] using ht
        refine keep fun k hk => ?_
        obtain ⟨_, oi, hoi, hall⟩ := mem_ready.1 hrd
        obtain ⟨oi', ho', ed, hed, hbd, heq⟩ := Region.waitsFor_spec (hw i hni (Array.getElem?_eq_some_iff.1 hoi).1 k hk)
        rw [hoi] at ho'
        injection ho' with ho'
        subst ho'
        have h1 := hall ed hed hbd
        rw [heq] at h1
        rcases Nat.lt_or_ge k listed.size with h' | h'
        · simp [h'] at h1 ⊢; exact h1
        · simp [Array.getElem?_eq_none h'] at h1
      refine ⟨fun h0 => (by rw [hr] at h0; cases h0), fun j hj => ?_⟩
      obtain rfl : j = i := by rw [hr] at hj; simpa using hj
      unfold wpOp
      simp only [hi]
      have done : ∀ a' w', (b = 2 ∨ C w') ∧ wpS P ops C K fs L a' w' → (C w' ∨ n ≤ j) ∧ anyB P md ops (fun e a w => e = .normal ∧ K a w) C n rest.length (listed.setIfInBounds j true) a' w' := fun a' w' hh => by
        rcases hh.1 with e | e
        · exact ⟨.inr (by simpa [e] using ht), anyB_of_wpS hs hw fs rest L _ a' w' hl ho2 (.inr (tail e)) hh.2⟩
        · exact ⟨.inl e, anyB_of_wpS hs hw fs rest L _ a' w' hl ho2 (.inl e) hh.2⟩
      split
      · rename_i hwd
        simp only [hwd, if_true] at h
        refine .inl ?_
        have h2 := Oper.wp_mono done h
        unfold Oper.wp at *
        generalize (execOp a.eval o).run P w = r at *
        cases r with
        | ok n w' =>
          cases n <;> simp only [Oper.upon] at h2 ⊢ <;> first
            | exact h2
            | exact Calls.mono h2 fun e w'' he => by
                cases e with
                | returned v => exact he
                | panicked c => exact he.elim
                | outgrown => obtain ⟨_, _, q⟩ := he; exact q.elim
        | halt x w' => cases x <;> simp only [Oper.upon] at h2 ⊢ <;> exact h2.elim
      · rename_i hwd
        simp only [hwd] at h
        rcases hC with hC | hC
        · exact ⟨.inl hC, anyB_of_wpS hs hw fs rest L _ _ w hl ho2 (.inl hC) h⟩
        · by_cases hjn : n ≤ j
          · exact ⟨.inr hjn, anyB_of_wpS hs hw fs rest L _ _ w hl ho2 (.inr (keep hC)) h⟩
          · have h1 := hC j (by omega)
            rw [(mem_ready.1 hrd).1] at h1
            cases h1
end
/-- the walk, behind a word that no tactic looks into -/
structure Rgs (P : Program) (ops : Array Oper) (C : World → Prop) (K : Act → World → Prop) (fs : List Nat) (l : List Oper) (a : Act) (w : World) : Prop where
  out : wpS P ops C K fs l a w
section
variable {P : Program} {ops : Array Oper} {C : World → Prop} {K : Act → World → Prop}
theorem wpS_nil {fs : List Nat} {a : Act} {w : World} (h : K a w) : Rgs P ops C K fs [] a w := ⟨by cases fs <;> exact h⟩
theorem wpS_skip {a : Act} {w : World} {b : Nat} {fs : List Nat} {rest : List Oper} {o : Oper} (hw : Region.wanted o (yielded ops a.tmps) = false)
    (h : Rgs P ops C K fs rest (a.put o.dst undef) w) : Rgs P ops C K (b :: fs) (o :: rest) a w := ⟨by
  simp only [wpS, hw, Bool.false_eq_true, if_false]; exact h.out⟩
theorem wpS_det {a : Act} {w : World} {fs : List Nat} {rest : List Oper} {o : Oper} (hw : Region.wanted o (yielded ops a.tmps) = true)
    (h : ∀ K' : Act → Prop, (∀ a, Rgs P ops C K fs rest a w → K' a) → o.quiet P a C K') : Rgs P ops C K (0 :: fs) (o :: rest) a w := ⟨by
  simp only [wpS, hw, if_true]; exact h _ fun _ h => h.out⟩
theorem wpS_bar {a : Act} {w : World} {fs : List Nat} {rest : List Oper} {o : Oper} (hw : Region.wanted o (yielded ops a.tmps) = true)
    (h : ∀ K' : Act → World → Prop, (∀ a w', C w' → Rgs P ops C K fs rest a w' → K' a w') → o.wp P a w K' (fun _ _ _ => False)) : Rgs P ops C K (1 :: fs) (o :: rest) a w := ⟨by
  simp only [wpS, hw, if_true]; exact h _ fun _ _ h1 h2 => ⟨.inr h1, h2.out⟩⟩
theorem wpS_end {a : Act} {w : World} {fs : List Nat} {rest : List Oper} {o : Oper} (hw : Region.wanted o (yielded ops a.tmps) = true)
    (h : ∀ K' : Act → World → Prop, (∀ a w', Rgs P ops C K fs rest a w' → K' a w') → o.wp P a w K' (fun _ _ _ => False)) : Rgs P ops C K (2 :: fs) (o :: rest) a w := ⟨by
  simp only [wpS, hw, if_true]; exact h _ fun _ _ h2 => ⟨.inl trivial, h2.out⟩⟩
end
theorem region_any {P : Program} {Q : Exit → Act → World → Prop} {a : Act} {w : World} {L0 : List Oper} (n : Nat) (fs ord : List Nat) (hs : Region.noSelect L0.toArray = true) (hw : waitB .any L0.toArray n = true)
    (hn : ord.length = L0.length) (hL : ord.map (fun i => L0.toArray[i]?) = (permL L0 ord).map some) (hB : ordS .any L0.toArray n fs ord (Array.replicate L0.length false) = true)
    (h : Rgs P L0.toArray (fun w' => ∃ p : Regrown, w' = grow (redrawn w p.d) p.os) (fun a' w' => Q .normal a' w') fs (permL L0 ord) a w.drew) :
    wpAny P .any L0.toArray (fun e a w => e = .normal ∧ Q .normal a w) L0.toArray.size (Array.replicate L0.toArray.size false) a w.drew := by
  have := anyB_of_wpS (md := .any) hs (waitB_spec hw) fs ord (permL L0 ord) (Array.replicate L0.length false) a w.drew hL hB (.inl ⟨⟨w.drawn + 1, #[]⟩, by rw [grow_empty]; rfl⟩) h.out
  rw [hn] at this
  simpa using any_of_B _ _ _ _ this
/-- at a plain place -/
theorem region_S {P : Program} {id : Nat} {Q : Exit → Act → World → Prop} {a : Act} {w : World} {L0 : List Oper} (n : Nat) (fs ord : List Nat) (hm : P.follows .mixedOrders = true) (hs : Region.noSelect L0.toArray = true) (hw : waitB .any L0.toArray n = true)
    (hn : ord.length = L0.length) (hL : ord.map (fun i => L0.toArray[i]?) = (permL L0 ord).map some) (hB : ordS .any L0.toArray n fs ord (Array.replicate L0.length false) = true)
    (h : Rgs P L0.toArray (fun w' => ∃ p : Regrown, w' = grow (redrawn w p.d) p.os) (fun a' w' => Q .normal a' w') fs (permL L0 ord) a w.drew) : (Code.region id L0.toArray true).wp P Q a w := by
  refine Code.wp_mono (Q := fun e a w => e = .normal ∧ Q .normal a w) (fun e a w hh => by obtain ⟨rfl, hh⟩ := hh; exact hh) ?_
  exact wp_region_any hm (region_any n fs ord hs hw hn hL hB h)
/-- in a round -/
theorem region_SR {P : Program} {id m l : Nat} {Q : Exit → Act → World → Prop} {a : Act} {w : World} {L0 : List Oper} (n : Nat) (fs ord : List Nat) (hm : P.follows .mixedOrders = true) (hs : Region.noSelect L0.toArray = true) (hd : L0.toArray.all (fun o => !deferB o) = true) (hw : waitB .any L0.toArray n = true)
    (hn : ord.length = L0.length) (hL : ord.map (fun i => L0.toArray[i]?) = (permL L0 ord).map some) (hB : ordS .any L0.toArray n fs ord (Array.replicate L0.length false) = true)
    (h : Rgs P L0.toArray (fun w' => ∃ p : Regrown, w' = grow (redrawn w p.d) p.os) (fun a' w' => Q .normal a' w') fs (permL L0 ord) a w.drew) : (Code.region id L0.toArray true).wpIn (Fence.wide.inRound l) m P Q a w := by
  refine wpIn_mono (Q := fun e a w => e = .normal ∧ Q .normal a w) ?_ (fun e a w hh => by obtain ⟨rfl, hh⟩ := hh; exact hh)
  refine wpIn_region_any hm ?_
  exact any_in (l := l) (n := m) (deferB_no hd) (fun ⟨_, _, hq⟩ => by cases hq.1) _ _ _ _ (region_any n fs ord hs hw hn hL hB h)
/-- in a round, for any class of worlds -/
theorem region_SRC {P : Program} {id m l : Nat} {Q : Exit → Act → World → Prop} {a : Act} {w : World} {L0 : List Oper} (C : World → Prop) (hC : C w.drew) (n : Nat) (fs ord : List Nat) (hm : P.follows .mixedOrders = true) (hs : Region.noSelect L0.toArray = true) (hd : L0.toArray.all (fun o => !deferB o) = true) (hw : waitB .any L0.toArray n = true)
    (hn : ord.length = L0.length) (hL : ord.map (fun i => L0.toArray[i]?) = (permL L0 ord).map some) (hB : ordS .any L0.toArray n fs ord (Array.replicate L0.length false) = true)
    (h : Rgs P L0.toArray C (fun a' w' => Q .normal a' w') fs (permL L0 ord) a w.drew) : (Code.region id L0.toArray true).wpIn (Fence.wide.inRound l) m P Q a w := by
  refine wpIn_mono (Q := fun e a w => e = .normal ∧ Q .normal a w) ?_ (fun e a w hh => by obtain ⟨rfl, hh⟩ := hh; exact hh)
  refine wpIn_region_any hm ?_
  have := anyB_of_wpS (md := .any) hs (waitB_spec hw) fs ord (permL L0 ord) (Array.replicate L0.length false) a w.drew hL hB (.inl hC) h.out
  rw [hn] at this
  exact any_in (l := l) (n := m) (deferB_no hd) (fun ⟨_, _, hq⟩ => by cases hq.1) _ _ _ _ (by simpa using any_of_B _ _ _ _ this)
/-- one of two worlds, with draws and blocks behind -/
structure Twice where
  b : Bool
  d : Nat
  os : Array Obj
instance : Nonempty Twice := ⟨⟨true, 0, #[]⟩⟩
def twoC (f : Bool → World) (w' : World) : Prop := ∃ p : Twice, w' = grow (redrawn (f p.b) p.d) p.os
theorem twoC_drew {f : Bool → World} {w : World} (b : Bool) (h : f b = w) : twoC f w.drew := ⟨⟨b, w.drawn + 1, #[]⟩, by rw [grow_empty, h]; rfl⟩
end Go.Proofs.YtknfpigaognklaaGreatDoor
