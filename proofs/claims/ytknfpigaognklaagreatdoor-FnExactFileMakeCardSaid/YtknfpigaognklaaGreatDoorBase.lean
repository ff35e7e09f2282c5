/- Small facts for the walks of this seat: ranges, results, slices of charges. -/
import Derived.Test.YtknfpigaognklaaGreatDoorRows
import Derived.WalkKit
import Derived.WalkSpells
import Derived.WalkLawsBesides
import Derived.Lib.Hide
namespace Go.Proofs.YtknfpigaognklaaGreatDoor
open Go.RowKit
def inR (n a b : Int) : Bool := decide (a ≤ n) && decide (n ≤ b)
theorem inR_iff {n a b : Int} : inR n a b = true ↔ a ≤ n ∧ n ≤ b := by simp [inR]
theorem ret_bool {a b : Bool} (h : a = b) : Ending.returned (.bool a) = .returned (.bool b) := by rw [h]
theorem ret_int {k : IntKind} {a b : Int} (h : a = b) : Ending.returned (.int k a) = .returned (.int k b) := by rw [h]
theorem bcell {W w1 : World} (hb : Below W.heap.size W w1) : (∀ b o, b < W.heap.size → w1.cell? ⟨b, o, none⟩ = W.cell? ⟨b, o, none⟩) ∧ (∀ b o, b < W.heap.size → w1.frozen? ⟨b, o, none⟩ = W.frozen? ⟨b, o, none⟩) :=
  ⟨fun b o h => hb.cell (p := ⟨b, o, none⟩) h, fun b o h => hb.frozen (p := ⟨b, o, none⟩) h⟩
theorem _root_.Go.RowKit.Below.andThen {W a b : World} (h : Below W.heap.size W a) (hb : Below a.heap.size a b) : Below W.heap.size W b := h.trans (hb.mono h.size)
theorem _root_.Go.RowKit.Below.drewN {B : Nat} {a w : World} (h : Below B a w) (n : Nat) : Below B a (w.drewN n) := ⟨h.os, h.tape, h.output, h.size, h.block⟩
theorem quiet_left {P : Program} {f : FuncId} {args : Array Value} {w : World} {n : Nat} {v : Value}
    (h : Calls P f args (w.drewN n) fun e w' => e = .returned v ∧ w.drewN n = w') : Calls P f args (w.drewN n) fun e w'' => e = .returned v ∧ ∃ m, w'' = w.drewN m :=
  h.mono fun _ _ ⟨he, hm⟩ => ⟨he, n, hm.symm⟩
theorem take_snoc {α : Type} {l : List α} {k : Nat} (h : k < l.length) : l.take (k + 1) = l.take k ++ [l[k]] := by simp [List.take_append_getElem]
theorem all_snoc {α : Type} {p : α → Bool} {l : List α} {k : Nat} (h : k < l.length) (h1 : (l.take k).all p = true) (h2 : p l[k] = true) : (l.take (k + 1)).all p = true := by
  rw [take_snoc h, List.all_append, h1]; simp [h2]
theorem all_not {α : Type} {p : α → Bool} {l : List α} {k : Nat} (h : k < l.length) (h2 : p l[k] = false) : l.all p = false := by
  rw [List.all_eq_false]; exact ⟨l[k], List.getElem_mem _, by simp [h2]⟩
theorem run_make_rowN {P : Program} (t e : TypeId) (i : TypeInfo) (z : Value) (ht : P.underlying t = some (.slice e)) (hi : P.info? e = some i) (hz : i.zero = some z)
    (kl kc : IntKind) (n c : Nat) (hnc : n ≤ c) (hbytes : i.bytes * c ≤ 281474976710656) (h63 : c ≤ 9223372036854775807) (w : World) :
    (Instr.makeSlice t (.int kl (n : Int)) (.int kc (c : Int))).run P w = .ok (.slice (some ⟨w.heap.size, 0, none⟩) n c) (w.alloc (.cells (madeCells z.cells (c * i.size)) e)) := by
  have hb : (i.bytes : Int) * (c : Int) ≤ 281474976710656 := by
    have h : ((i.bytes * c : Nat) : Int) ≤ 281474976710656 := by omega
    rwa [Int.natCast_mul] at h
  have hr := run_make (P := P) w t e i z ht hi hz kl kc n c (by omega) (by omega) hb (by omega)
  simp only [Int.toNat_natCast] at hr
  exact hr
theorem made {P : Program} (t e : TypeId) (z : Value) (size bytes : Nat) (ht : P.underlying t = some (.slice e)) (hi : (P.info? e).map (fun i => (i.zero, i.size, i.bytes)) = some (some z, size, bytes))
    (n : Nat) (hbytes : bytes * n ≤ 281474976710656) (h63 : n ≤ 9223372036854775807) :
    ∃ C : Array Value, C.size = n * size ∧ ∀ w : World, (Instr.makeSlice t (.int .i64 (n : Int)) (.int .i64 (n : Int))).run P w = .ok (.slice (some ⟨w.heap.size, 0, none⟩) n n) (w.alloc (.cells C e)) := by
  obtain ⟨i0, hi, hz0, hz1, hz2⟩ := info_parts hi
  refine ⟨madeCells z.cells (n * i0.size), by rw [size_madeCells, hz1], fun w => ?_⟩
  exact run_make_rowN t e i0 z ht hi hz0 .i64 .i64 n n (Nat.le_refl _) (by rw [hz2]; exact hbytes) h63 w
theorem addr_mid (b o j : Nat) : (⟨b, o, none⟩ : Addr).add j = ⟨b, o + j, none⟩ := by unfold Addr.add; split <;> simp_all
theorem val_eq {k : IntKind} {a b : Int} (h : a = b) : Value.int k a = Value.int k b := by rw [h]
/-- a block known whole -/
def Blk (w : World) (g : Nat) (t : TypeId) (cs : Array Value) : Prop := w.heap[g]? = some (.cells cs t (0, 0))
section
variable {w w' : World} {g : Nat} {t : TypeId} {cs : Array Value}
theorem Blk.lt (h : Blk w g t cs) : g < w.heap.size := by
  rcases Nat.lt_or_ge g w.heap.size with hlt | hge
  · exact hlt
  · unfold Blk at h; rw [Array.getElem?_eq_none hge] at h; cases h
theorem Blk.cell (h : Blk w g t cs) (i : Nat) : w.cell? ⟨g, i, none⟩ = cs[i]? := cell_of_row w g i cs t (0, 0) h
theorem Blk.in_ (h : Blk w g t cs) (i : Nat) (hi : i < cs.size) : ∃ v, w.cell? ⟨g, i, none⟩ = some v := ⟨cs[i], by rw [h.cell]; exact Array.getElem?_eq_getElem hi⟩
theorem Blk.frozen (h : Blk w g t cs) (i : Nat) : w.frozen? ⟨g, i, none⟩ = false := by
  unfold Blk at h
  simp [World.frozen?, h]
theorem Blk.new (w : World) (t : TypeId) (cs : Array Value) : Blk (w.alloc (.cells cs t)) w.heap.size t cs := heap_alloc_new w _
theorem Blk.drew (h : Blk w g t cs) : Blk w.drew g t cs := h
theorem Blk.alloc (h : Blk w g t cs) (o : Obj) : Blk (w.alloc o) g t cs := (Below.heap_alloc w o g h.lt).trans h
theorem Blk.set_ (h : Blk w g t cs) (i : Nat) (u : Value) : Blk (w.setCell ⟨g, i, none⟩ u) g t (cs.setIfInBounds i u) := by
  unfold Blk at h ⊢
  simp [World.setCell, Array.getElem?_modify, h]
theorem Blk.far (h : Blk w g t cs) {p : Addr} (hp : g ≠ p.block) (u : Value) : Blk (w.setCell p u) g t cs := (Below.heap_setCell w p u g hp).trans h
theorem Blk.below {B : Nat} (h : Blk w g t cs) (hb : Below B w w') (hg : g < B) : Blk w' g t cs := (hb.block g hg).trans h
end
/-- one name for a world with three new blocks -/
theorem gen3 {w : World} {c1 c2 c3 : Array Value} {t1 t2 t3 : TypeId} {p : World → Prop}
    (h : ∀ W, Below w.heap.size w W → W.heap.size = w.heap.size + 3 → Blk W w.heap.size t1 c1 → Blk W (w.heap.size + 1) t2 c2 → Blk W (w.heap.size + 1 + 1) t3 c3 → p W) :
    p (((w.alloc (.cells c1 t1)).alloc (.cells c2 t2)).alloc (.cells c3 t3)) :=
  h _ ((((Below.refl _ _).alloc (Nat.le_refl _) _).alloc (by simp) _).alloc (by simp; omega) _) (by simp)
    (((Blk.new _ _ _).alloc _).alloc _) (by simpa using (Blk.new (w.alloc (.cells c1 t1)) t2 c2).alloc (.cells c3 t3)) (by simpa using Blk.new ((w.alloc (.cells c1 t1)).alloc (.cells c2 t2)) t3 c3)
theorem gen2 {w : World} {c1 c2 : Array Value} {t1 t2 : TypeId} {p : World → Prop}
    (h : ∀ W, Below w.heap.size w W → W.heap.size = w.heap.size + 2 → Blk W w.heap.size t1 c1 → Blk W (w.heap.size + 1) t2 c2 → p W) :
    p ((w.alloc (.cells c1 t1)).alloc (.cells c2 t2)) :=
  h _ (((Below.refl _ _).alloc (Nat.le_refl _) _).alloc (by simp) _) (by simp)
    ((Blk.new _ _ _).alloc _) (by simpa using Blk.new (w.alloc (.cells c1 t1)) t2 c2)
theorem gen1 {w : World} {c1 : Array Value} {t1 : TypeId} {p : World → Prop}
    (h : ∀ W, Below w.heap.size w W → W.heap.size = w.heap.size + 1 → Blk W w.heap.size t1 c1 → p W) :
    p (w.alloc (.cells c1 t1)) :=
  h _ ((Below.refl _ _).alloc (Nat.le_refl _) _) (by simp) (Blk.new _ _ _)
/-- W differs from w in block g alone -/
structure But (g : Nat) (w W : World) : Prop where
  os : W.os = w.os
  tape : W.tape = w.tape
  output : W.output = w.output
  size : W.heap.size = w.heap.size
  block : ∀ k, k ≠ g → W.heap[k]? = w.heap[k]?
/-- one name for a world behind a store into a block that is known whole -/
theorem genSet {w : World} {g i : Nat} {u : Value} {t : TypeId} {cs : Array Value} (hb : Blk w g t cs) {p : World → Prop}
    (h : ∀ W, But g w W → Blk W g t (cs.setIfInBounds i u) → p W) : p (w.setCell ⟨g, i, none⟩ u) :=
  h _ ⟨rfl, rfl, rfl, by simp [World.setCell], fun k hk => Below.heap_setCell _ _ _ _ hk⟩ (hb.set_ i u)
theorem But.refl_ (g : Nat) (w : World) : But g w w := ⟨rfl, rfl, rfl, rfl, fun _ _ => rfl⟩
theorem But.trans {g : Nat} {a b c : World} (h : But g a b) (k : But g b c) : But g a c := ⟨k.os.trans h.os, k.tape.trans h.tape, k.output.trans h.output, k.size.trans h.size, fun i hi => (k.block i hi).trans (h.block i hi)⟩
theorem genSet5 {w : World} {g i0 i1 i2 i3 i4 : Nat} {u0 u1 u2 u3 u4 : Value} {t : TypeId} {cs : Array Value} (hb : Blk w g t cs) {p : World → Prop}
    (h : ∀ W, But g w W → Blk W g t (((((cs.setIfInBounds i0 u0).setIfInBounds i1 u1).setIfInBounds i2 u2).setIfInBounds i3 u3).setIfInBounds i4 u4) → p W) :
    p (((((w.setCell ⟨g, i0, none⟩ u0).setCell ⟨g, i1, none⟩ u1).setCell ⟨g, i2, none⟩ u2).setCell ⟨g, i3, none⟩ u3).setCell ⟨g, i4, none⟩ u4) :=
  genSet hb (p := fun W => p ((((W.setCell _ _).setCell _ _).setCell _ _).setCell _ _)) fun _ a1 b1 =>
  genSet b1 (p := fun W => p (((W.setCell _ _).setCell _ _).setCell _ _)) fun _ a2 b2 =>
  genSet b2 (p := fun W => p ((W.setCell _ _).setCell _ _)) fun _ a3 b3 =>
  genSet b3 (p := fun W => p (W.setCell _ _)) fun _ a4 b4 =>
  genSet b4 (p := p) fun W5 a5 b5 => h W5 ((((a1.trans a2).trans a3).trans a4).trans a5) b5
theorem But.set_ (w : World) (g i : Nat) (u : Value) : But g w (w.setCell ⟨g, i, none⟩ u) := ⟨rfl, rfl, rfl, by simp [World.setCell], fun k hk => Below.heap_setCell _ _ _ _ hk⟩
theorem But.below {g B : Nat} {w W : World} (h : But g w W) (hB : B ≤ g) : Below B w W := ⟨h.os, h.tape, h.output, by rw [h.size]; omega, fun k hk => h.block k (by omega)⟩
theorem But.blk {g g' : Nat} {w W : World} {t : TypeId} {cs : Array Value} (h : But g w W) (hb : Blk w g' t cs) (hg : g' ≠ g) : Blk W g' t cs := (h.block g' hg).trans hb
theorem But.cell {g : Nat} {w W : World} (h : But g w W) {b o : Nat} (hp : b ≠ g) : W.cell? ⟨b, o, none⟩ = w.cell? ⟨b, o, none⟩ := World.cell?_of_block (w := w) (h.block _ hp)
/-- the cells of a slice of numbers -/
structure IntS (w : World) (A : Option Addr) (L : List Int) : Prop where
  at_ : ∀ k (h : k < L.length), ∃ b o, A = some ⟨b, o, none⟩ ∧ b < w.heap.size ∧ w.cell? ⟨b, o + k, none⟩ = some (.int .i64 L[k])
theorem IntS.one (w : World) (a : Int) (t : TypeId) : IntS (w.alloc (.cells #[.int .i64 a] t)) (some ⟨w.heap.size, 0, none⟩) [a] := ⟨fun k hk => by
  obtain rfl : k = 0 := by simpa using hk
  exact ⟨_, _, rfl, by simp, by simp [World.cell?_alloc_at]⟩⟩
theorem IntS.keep {w w1 : World} {A : Option Addr} {L : List Int} (h : IntS w A L) (hb : Below w.heap.size w w1) : IntS w1 A L := ⟨fun k hk => by
  obtain ⟨b, o, rfl, h0, h1⟩ := h.at_ k hk
  exact ⟨b, o, rfl, Nat.lt_of_lt_of_le h0 hb.size, (hb.cell h0).trans h1⟩⟩
theorem IntS.but {g : Nat} {w w1 : World} {A : Option Addr} {L : List Int} (h : IntS w A L) (hb : But g w w1) (hg : ∀ a, A = some a → a.block ≠ g) : IntS w1 A L := ⟨fun k hk => by
  obtain ⟨b, o, rfl, h0, h1⟩ := h.at_ k hk
  exact ⟨b, o, rfl, by rw [hb.size]; exact h0, (hb.cell (show b ≠ g from hg _ rfl)).trans h1⟩⟩
end Go.Proofs.YtknfpigaognklaaGreatDoor
