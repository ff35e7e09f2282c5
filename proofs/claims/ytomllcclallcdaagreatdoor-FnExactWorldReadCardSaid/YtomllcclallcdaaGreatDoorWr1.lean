/- A part of the proof. -/
import Derived.Test.YtomllcclallcdaaGreatDoorRows
import Derived.WalkKit
import Derived.WalkSpells
import Derived.WalkLawsBesides
import Derived.Lib.Hide
import Derived.ChangeKeysEq
import Derived.Deep.WholeRow
import Derived.Deep.Cut
import Derived.StillTailTactics
namespace Go.Proofs.YtomllcclallcdaaGreatDoor
section
open Go.RowKit
def inR (n a b : Int) : Bool := decide (a ≤ n) && decide (n ≤ b)
theorem inR_iff {n a b : Int} : inR n a b = true ↔ a ≤ n ∧ n ≤ b := by simp [inR]
theorem ret_bool {a b : Bool} (h : a = b) : Ending.returned (.bool a) = .returned (.bool b) := by rw [h]
theorem ret_int {k : IntKind} {a b : Int} (h : a = b) : Ending.returned (.int k a) = .returned (.int k b) := by rw [h]
theorem _root_.Go.RowKit.Below.andThen {W a b : World} (h : Below W.heap.size W a) (hb : Below a.heap.size a b) : Below W.heap.size W b := h.trans (hb.mono h.size)
theorem _root_.Go.RowKit.Below.drewN {B : Nat} {a w : World} (h : Below B a w) (n : Nat) : Below B a (w.drewN n) := ⟨h.os, h.tape, h.output, h.size, h.block⟩
theorem quiet_left {P : Program} {f : FuncId} {args : Array Value} {w : World} {n : Nat} {v : Value}
    (h : Calls P f args (w.drewN n) fun e w' => e = .returned v ∧ w.drewN n = w') : Calls P f args (w.drewN n) fun e w'' => e = .returned v ∧ ∃ m, w'' = w.drewN m :=
  h.mono fun _ _ ⟨he, hm⟩ => ⟨he, n, hm.symm⟩
theorem take_snoc {α : Type} {l : List α} {k : Nat} (h : k < l.length) : l.take (k + 1) = l.take k ++ [l[k]] := by simp [List.take_append_getElem]
theorem all_snoc {α : Type} {p : α → Bool} {l : List α} {k : Nat} (h : k < l.length) (h1 : (l.take k).all p = true) (h2 : p l[k] = true) : (l.take (k + 1)).all p = true := by
  rw [take_snoc h, List.all_append, h1]; simp [h2]
theorem all_not {α : Type} {p : α → Bool} {l : List α} {k : Nat} (h : k < l.length) (h2 : p l[k] = false) : l.all p = false := by
  rw [List.all_eq_false]; exact ⟨l[k], List.getElem_mem _, by simp [h2]⟩
theorem run_make_rowN {P : Program} (t e : TypeId) (i : TypeInfo) (z : Value) (ht : P.underlying t = some (.slice e)) (hi : P.info? e = some i) (hz : i.zero = some z)
    (kl kc : IntKind) (n c : Nat) (hnc : n ≤ c) (hbytes : i.bytes * c ≤ 281474976710656) (h63 : c ≤ 9223372036854775807) (w : World) :
    (Instr.makeSlice t (.int kl (n : Int)) (.int kc (c : Int))).run P w = .ok (.slice (some ⟨w.heap.size, 0, none⟩) n c) (w.alloc (.cells (madeCells z.cells (c * i.size)) e)) := by
  have hb : (i.bytes : Int) * (c : Int) ≤ 281474976710656 := by
    have h : ((i.bytes * c : Nat) : Int) ≤ 281474976710656 := by omega
    rwa [Int.natCast_mul] at h
  have hr := run_make (P := P) w t e i z ht hi hz kl kc n c (by omega) (by omega) hb (by omega)
  simp only [Int.toNat_natCast] at hr
  exact hr
theorem addr_mid (b o j : Nat) : (⟨b, o, none⟩ : Addr).add j = ⟨b, o + j, none⟩ := by unfold Addr.add; split <;> simp_all
theorem val_eq {k : IntKind} {a b : Int} (h : a = b) : Value.int k a = Value.int k b := by rw [h]
def Blk (w : World) (g : Nat) (t : TypeId) (cs : Array Value) : Prop := w.heap[g]? = some (.cells cs t (0, 0))
section
variable {w w' : World} {g : Nat} {t : TypeId} {cs : Array Value}
theorem Blk.lt (h : Blk w g t cs) : g < w.heap.size := by
  rcases Nat.lt_or_ge g w.heap.size with hlt | hge
  · exact hlt
  · unfold Blk at h; rw [Array.getElem?_eq_none hge] at h; cases h
theorem Blk.cell (h : Blk w g t cs) (i : Nat) : w.cell? ⟨g, i, none⟩ = cs[i]? := cell_of_row w g i cs t (0, 0) h
theorem Blk.in_ (h : Blk w g t cs) (i : Nat) (hi : i < cs.size) : ∃ v, w.cell? ⟨g, i, none⟩ = some v := ⟨cs[i], by rw [h.cell]; exact Array.getElem?_eq_getElem hi⟩
theorem Blk.frozen (h : Blk w g t cs) (i : Nat) : w.frozen? ⟨g, i, none⟩ = false := by
  unfold Blk at h
  simp [World.frozen?, h]
theorem Blk.new (w : World) (t : TypeId) (cs : Array Value) : Blk (w.alloc (.cells cs t)) w.heap.size t cs := heap_alloc_new w _
theorem Blk.drew (h : Blk w g t cs) : Blk w.drew g t cs := h
theorem Blk.alloc (h : Blk w g t cs) (o : Obj) : Blk (w.alloc o) g t cs := (Below.heap_alloc w o g h.lt).trans h
theorem Blk.set_ (h : Blk w g t cs) (i : Nat) (u : Value) : Blk (w.setCell ⟨g, i, none⟩ u) g t (cs.setIfInBounds i u) := by
  unfold Blk at h ⊢
  simp [World.setCell, Array.getElem?_modify, h]
theorem Blk.far (h : Blk w g t cs) {p : Addr} (hp : g ≠ p.block) (u : Value) : Blk (w.setCell p u) g t cs := (Below.heap_setCell w p u g hp).trans h
theorem Blk.below {B : Nat} (h : Blk w g t cs) (hb : Below B w w') (hg : g < B) : Blk w' g t cs := (hb.block g hg).trans h
end
theorem gen3 {w : World} {c1 c2 c3 : Array Value} {t1 t2 t3 : TypeId} {p : World → Prop}
    (h : ∀ W, Below w.heap.size w W → W.heap.size = w.heap.size + 3 → Blk W w.heap.size t1 c1 → Blk W (w.heap.size + 1) t2 c2 → Blk W (w.heap.size + 1 + 1) t3 c3 → p W) :
    p (((w.alloc (.cells c1 t1)).alloc (.cells c2 t2)).alloc (.cells c3 t3)) :=
  h _ ((((Below.refl _ _).alloc (Nat.le_refl _) _).alloc (by simp) _).alloc (by simp; omega) _) (by simp)
    (((Blk.new _ _ _).alloc _).alloc _) (by simpa using (Blk.new (w.alloc (.cells c1 t1)) t2 c2).alloc (.cells c3 t3)) (by simpa using Blk.new ((w.alloc (.cells c1 t1)).alloc (.cells c2 t2)) t3 c3)
theorem gen2 {w : World} {c1 c2 : Array Value} {t1 t2 : TypeId} {p : World → Prop}
    (h : ∀ W, Below w.heap.size w W → W.heap.size = w.heap.size + 2 → Blk W w.heap.size t1 c1 → Blk W (w.heap.size + 1) t2 c2 → p W) :
    p ((w.alloc (.cells c1 t1)).alloc (.cells c2 t2)) :=
  h _ (((Below.refl _ _).alloc (Nat.le_refl _) _).alloc (by simp) _) (by simp)
    ((Blk.new _ _ _).alloc _) (by simpa using Blk.new (w.alloc (.cells c1 t1)) t2 c2)
theorem gen1 {w : World} {c1 : Array Value} {t1 : TypeId} {p : World → Prop}
    (h : ∀ W, Below w.heap.size w W → W.heap.size = w.heap.size + 1 → Blk W w.heap.size t1 c1 → p W) :
    p (w.alloc (.cells c1 t1)) :=
  h _ ((Below.refl _ _).alloc (Nat.le_refl _) _) (by simp) (Blk.new _ _ _)
structure But (g : Nat) (w W : World) : Prop where
  os : W.os = w.os
  tape : W.tape = w.tape
  output : W.output = w.output
  size : W.heap.size = w.heap.size
  block : ∀ k, k ≠ g → W.heap[k]? = w.heap[k]?
theorem But.refl_ (g : Nat) (w : World) : But g w w := ⟨rfl, rfl, rfl, rfl, fun _ _ => rfl⟩
theorem But.trans {g : Nat} {a b c : World} (h : But g a b) (k : But g b c) : But g a c := ⟨k.os.trans h.os, k.tape.trans h.tape, k.output.trans h.output, k.size.trans h.size, fun i hi => (k.block i hi).trans (h.block i hi)⟩
theorem But.set_ (w : World) (g i : Nat) (u : Value) : But g w (w.setCell ⟨g, i, none⟩ u) := ⟨rfl, rfl, rfl, by simp [World.setCell], fun k hk => Below.heap_setCell _ _ _ _ hk⟩
theorem But.below {g B : Nat} {w W : World} (h : But g w W) (hB : B ≤ g) : Below B w W := ⟨h.os, h.tape, h.output, by rw [h.size]; omega, fun k hk => h.block k (by omega)⟩
theorem But.blk {g g' : Nat} {w W : World} {t : TypeId} {cs : Array Value} (h : But g w W) (hb : Blk w g' t cs) (hg : g' ≠ g) : Blk W g' t cs := (h.block g' hg).trans hb
structure IntS (w : World) (A : Option Addr) (L : List Int) : Prop where
  at_ : ∀ k (h : k < L.length), ∃ b o, A = some ⟨b, o, none⟩ ∧ b < w.heap.size ∧ w.cell? ⟨b, o + k, none⟩ = some (.int .i64 L[k])
theorem IntS.keep {w w1 : World} {A : Option Addr} {L : List Int} (h : IntS w A L) (hb : Below w.heap.size w w1) : IntS w1 A L := ⟨fun k hk => by
  obtain ⟨b, o, rfl, h0, h1⟩ := h.at_ k hk
  exact ⟨b, o, rfl, Nat.lt_of_lt_of_le h0 hb.size, (hb.cell h0).trans h1⟩⟩
end
end Go.Proofs.YtomllcclallcdaaGreatDoor
namespace Go.Proofs.YtomllcclallcdaaGreatDoor
section
open Go.RowKit
def kv (a : Int) (s : ByteArray) : Value := .agg #[.int .i64 a, .string s]
theorem key_eq (a b : Int) (s t : ByteArray) (w : World) : (Op.equal 167 (kv a s) (kv b t)).run Tryz.prog w = .ok ((a == b) && (s.toList == t.toList)) w := by
  unfold kv Op.equal Op.maxDepth
  go_simp
  by_cases h1 : a = b <;> by_cases h2 : s.toList = t.toList <;> simp [h1, h2]
theorem key_ok (e : Bool) (a : Int) (s : ByteArray) (w : World) : (Instr.checkKey e 10000 167 (kv a s)).run Tryz.prog w = .ok () w := by
  unfold kv
  kernel_rfl
structure KvAt (w : World) (r : Nat) (L : List (Int × ByteArray)) : Prop where
  at_ : ∃ es clock, w.heap[r]? = some (.map es clock) ∧ es.toList.map (fun e => e.key) = L.map fun x => kv x.1 x.2
def kvHas (L : List (Int × ByteArray)) (a : Int) (s : ByteArray) : Bool := L.any fun x => (a == x.1) && (s.toList == x.2.toList)
theorem run_findAsking (a : Int) (s : ByteArray) (w : World) : ∀ (L : List (Int × ByteArray)) (es : List MapEntry) (i : Nat), es.map (fun e => e.key) = L.map (fun x => kv x.1 x.2) →
    if kvHas L a s = true then ∃ r, (Instr.findAsking 167 (kv a s) es i).run Tryz.prog w = .ok (some r) w else (Instr.findAsking 167 (kv a s) es i).run Tryz.prog w = .ok none w
  | [], [], i, _ => by simp [kvHas, Instr.findAsking]
  | [], _ :: _, _, h => by simp at h
  | _ :: _, [], _, h => by simp at h
  | (b, t) :: L, e :: es, i, h => by
    simp only [List.map_cons, List.cons.injEq] at h
    obtain ⟨h1, h2⟩ := h
    have ih := run_findAsking a s w L es (i + 1) h2
    simp only [Instr.findAsking, Sem.run_bind, h1, key_eq, Result.andThen_ok]
    by_cases hc : ((a == b) && (s.toList == t.toList)) = true
    · rw [if_pos (by simp [kvHas, hc])]
      rw [hc]
      simp
    · have hc' : ((a == b) && (s.toList == t.toList)) = false := by simpa only [Bool.not_eq_true] using hc
      have hk : kvHas ((b, t) :: L) a s = kvHas L a s := by simp only [kvHas, List.any_cons, hc', Bool.false_or]
      rw [hk, hc']
      simpa using ih
theorem run_findKey (a : Int) (s : ByteArray) (w : World) (L : List (Int × ByteArray)) (es : List MapEntry) (h : es.map (fun e => e.key) = L.map (fun x => kv x.1 x.2)) :
    if kvHas L a s = true then ∃ r, (Instr.findKey 167 (kv a s) es).run Tryz.prog w = .ok (some r) w else (Instr.findKey 167 (kv a s) es).run Tryz.prog w = .ok none w := by
  have hu : Tryz.prog.underlying 167 = some (.struct (Tryz.prog.fieldsOf 167)) := by kernel_rfl
  have hn : ∀ k es i, Instr.findNow (.struct (Tryz.prog.fieldsOf 167)) k es i = if es.isEmpty then some none else none := by
    intro k es i
    cases es <;> rfl
  simp only [Instr.findKey, Sem.run_bind, run_underlying hu, Result.andThen_ok, hn]
  cases es with
  | nil =>
    cases L with
    | nil => simp [kvHas]
    | cons => simp at h
  | cons e es => exact run_findAsking a s w L (e :: es) 0 h
theorem KvAt.look {w : World} {r : Nat} {L : List (Int × ByteArray)} (hm : KvAt w r L) (a : Int) (s : ByteArray) (h : kvHas L a s = false) :
    (Instr.lookup 165 (.map (some r)) (.agg #[.int .i64 a, .string s]) true).run Tryz.prog w = .ok (.tuple #[.int .i64 0, .bool false]) w := by
  obtain ⟨es, clock, h1, h2⟩ := hm.at_
  have hu : Tryz.prog.underlying 165 = some (.map 167 3) := by kernel_rfl
  have hf := run_findKey a s w L es.toList h2
  rw [if_neg (by rw [h]; decide)] at hf
  have hz : (zeroValue 3).run Tryz.prog w = .ok (.int .i64 0) w := by kernel_rfl
  have hk := key_ok es.isEmpty a s w
  unfold kv at hf hk
  have hg : (getObj r).run Tryz.prog w = .ok (.map es clock) w := by simp [getObj, Sem.run, h1]
  simp [Instr.lookup, Sem.run_bind, run_underlying hu, hg, hk, hf, hz]
theorem KvAt.found {w : World} {r : Nat} {L : List (Int × ByteArray)} (hm : KvAt w r L) (a : Int) (s : ByteArray) (h : kvHas L a s = true) :
    ∃ v, (Instr.lookup 165 (.map (some r)) (.agg #[.int .i64 a, .string s]) true).run Tryz.prog w = .ok (.tuple #[v, .bool true]) w := by
  obtain ⟨es, clock, h1, h2⟩ := hm.at_
  have hu : Tryz.prog.underlying 165 = some (.map 167 3) := by kernel_rfl
  have hf := run_findKey a s w L es.toList h2
  rw [if_pos h] at hf
  obtain ⟨q, hf⟩ := hf
  have hk := key_ok es.isEmpty a s w
  unfold kv at hf hk
  have hg : (getObj r).run Tryz.prog w = .ok (.map es clock) w := by simp [getObj, Sem.run, h1]
  exact ⟨q.2, by simp [Instr.lookup, Sem.run_bind, run_underlying hu, hg, hk, hf]⟩
theorem KvAt.put {w : World} {r : Nat} {L : List (Int × ByteArray)} (hm : KvAt w r L) (a : Int) (s : ByteArray) (v : Value) (h : kvHas L a s = false) :
    ∃ W, (Instr.mapUpdate 165 (.map (some r)) (.agg #[.int .i64 a, .string s]) v).run Tryz.prog w = .ok () W ∧ But r w W ∧ KvAt W r (L ++ [(a, s)]) := by
  obtain ⟨es, clock, h1, h2⟩ := hm.at_
  have hu : Tryz.prog.underlying 165 = some (.map 167 3) := by kernel_rfl
  have hf := run_findKey a s w L es.toList h2
  rw [if_neg (by rw [h]; decide)] at hf
  have hk := key_ok false a s w
  unfold kv at hf hk
  have hg : (getObj r).run Tryz.prog w = .ok (.map es clock) w := by simp [getObj, Sem.run, h1]
  have hlt : r < w.heap.size := by
    rcases Nat.lt_or_ge r w.heap.size with h' | h'
    · exact h'
    · rw [Array.getElem?_eq_none h'] at h1; cases h1
  refine ⟨{ w with heap := w.heap.setIfInBounds r (.map (es.push { key := .agg #[.int .i64 a, .string s], val := v, born := clock }) (clock + 1)) }, ?_, ⟨rfl, rfl, rfl, by simp, fun k hk => by simp [Array.getElem?_setIfInBounds_ne (Ne.symm hk)]⟩, ⟨es.push { key := .agg #[.int .i64 a, .string s], val := v, born := clock }, clock + 1, by simp [hlt], ?_⟩⟩
  · simp [Instr.mapUpdate, Sem.run_bind, run_underlying hu, hg, hk, hf, setObj, Sem.run, h1]
  · simp [h2, kv]
theorem KvAt.below {w w1 : World} {r : Nat} {L : List (Int × ByteArray)} (h : KvAt w r L) {B : Nat} (hb : Below B w w1) (hr : r < B) : KvAt w1 r L := by
  obtain ⟨es, c, h1, h2⟩ := h.at_
  exact ⟨es, c, (hb.block r hr).trans h1, h2⟩
theorem KvAt.but {g : Nat} {w w1 : World} {r : Nat} {L : List (Int × ByteArray)} (h : KvAt w r L) (hb : But g w w1) (hr : r ≠ g) : KvAt w1 r L := by
  obtain ⟨es, c, h1, h2⟩ := h.at_
  exact ⟨es, c, (hb.block r hr).trans h1, h2⟩
theorem KvAt.lt {w : World} {r : Nat} {L : List (Int × ByteArray)} (h : KvAt w r L) : r < w.heap.size := by
  obtain ⟨es, c, h1, h2⟩ := h.at_
  rcases Nat.lt_or_ge r w.heap.size with h' | h'
  · exact h'
  · rw [Array.getElem?_eq_none h'] at h1; cases h1
end
end Go.Proofs.YtomllcclallcdaaGreatDoor
namespace Go.Proofs.YtomllcclallcdaaGreatDoor
section
open Go.RowKit
structure CpuM where
  up : Bool
  cur : Int
  ran : Int
  busy : Int
  idle : Int
structure CpuS (w : World) (A : Option Addr) (L : List CpuM) : Prop where
  at_ : ∀ k (h : k < L.length), ∃ b o, A = some ⟨b, o, none⟩ ∧ b < w.heap.size ∧ w.cell? ⟨b, o + k * 5, none⟩ = some (.bool L[k].up) ∧ w.cell? ⟨b, o + k * 5 + 1, none⟩ = some (.int .i64 L[k].cur) ∧ w.cell? ⟨b, o + k * 5 + 2, none⟩ = some (.int .i64 L[k].ran) ∧ w.cell? ⟨b, o + k * 5 + 3, none⟩ = some (.int .i64 L[k].busy) ∧ w.cell? ⟨b, o + k * 5 + 4, none⟩ = some (.int .i64 L[k].idle)
theorem CpuS.keep {w w1 : World} {A : Option Addr} {L : List CpuM} (h : CpuS w A L) (hb : Below w.heap.size w w1) : CpuS w1 A L := ⟨fun k hk => by
  obtain ⟨b, o, rfl, h0, h1, h2, h3, h4, h5⟩ := h.at_ k hk
  exact ⟨b, o, rfl, Nat.lt_of_lt_of_le h0 hb.size, (hb.cell h0).trans h1, (hb.cell h0).trans h2, (hb.cell h0).trans h3, (hb.cell h0).trans h4, (hb.cell h0).trans h5⟩⟩
structure TaskM where
  st : Int
  gr : Int
  cpu : Int
  nice : Int
  mask : Int
  v : Int
  sum : Int
  used : Int
  load : Int
structure TaskS (w : World) (A : Option Addr) (L : List TaskM) : Prop where
  at_ : ∀ k (h : k < L.length), ∃ b o, A = some ⟨b, o, none⟩ ∧ b < w.heap.size ∧ w.cell? ⟨b, o + k * 9, none⟩ = some (.int .i64 L[k].st) ∧ w.cell? ⟨b, o + k * 9 + 1, none⟩ = some (.int .i64 L[k].gr) ∧ w.cell? ⟨b, o + k * 9 + 2, none⟩ = some (.int .i64 L[k].cpu) ∧ w.cell? ⟨b, o + k * 9 + 3, none⟩ = some (.int .i64 L[k].nice) ∧ w.cell? ⟨b, o + k * 9 + 4, none⟩ = some (.int .i64 L[k].mask) ∧ w.cell? ⟨b, o + k * 9 + 5, none⟩ = some (.int .i64 L[k].v) ∧ w.cell? ⟨b, o + k * 9 + 6, none⟩ = some (.int .i64 L[k].sum) ∧ w.cell? ⟨b, o + k * 9 + 7, none⟩ = some (.int .i64 L[k].used) ∧ w.cell? ⟨b, o + k * 9 + 8, none⟩ = some (.int .i64 L[k].load)
theorem TaskS.keep {w w1 : World} {A : Option Addr} {L : List TaskM} (h : TaskS w A L) (hb : Below w.heap.size w w1) : TaskS w1 A L := ⟨fun k hk => by
  obtain ⟨b, o, rfl, h0, h1, h2, h3, h4, h5, h6, h7, h8, h9⟩ := h.at_ k hk
  exact ⟨b, o, rfl, Nat.lt_of_lt_of_le h0 hb.size, (hb.cell h0).trans h1, (hb.cell h0).trans h2, (hb.cell h0).trans h3, (hb.cell h0).trans h4, (hb.cell h0).trans h5, (hb.cell h0).trans h6, (hb.cell h0).trans h7, (hb.cell h0).trans h8, (hb.cell h0).trans h9⟩⟩
structure ShelfM where
  floor : Int
  on : Bool
  v : Int
  w : Int
  sum : Int
structure ShelfS (w : World) (A : Option Addr) (L : List ShelfM) : Prop where
  at_ : ∀ k (h : k < L.length), ∃ b o, A = some ⟨b, o, none⟩ ∧ b < w.heap.size ∧ w.cell? ⟨b, o + k * 5, none⟩ = some (.int .i64 L[k].floor) ∧ w.cell? ⟨b, o + k * 5 + 1, none⟩ = some (.bool L[k].on) ∧ w.cell? ⟨b, o + k * 5 + 2, none⟩ = some (.int .i64 L[k].v) ∧ w.cell? ⟨b, o + k * 5 + 3, none⟩ = some (.int .i64 L[k].w) ∧ w.cell? ⟨b, o + k * 5 + 4, none⟩ = some (.int .i64 L[k].sum)
theorem ShelfS.keep {w w1 : World} {A : Option Addr} {L : List ShelfM} (h : ShelfS w A L) (hb : Below w.heap.size w w1) : ShelfS w1 A L := ⟨fun k hk => by
  obtain ⟨b, o, rfl, h0, h1, h2, h3, h4, h5⟩ := h.at_ k hk
  exact ⟨b, o, rfl, Nat.lt_of_lt_of_le h0 hb.size, (hb.cell h0).trans h1, (hb.cell h0).trans h2, (hb.cell h0).trans h3, (hb.cell h0).trans h4, (hb.cell h0).trans h5⟩⟩
structure BoolS (w : World) (A : Option Addr) (L : List Bool) : Prop where
  at_ : ∀ k (h : k < L.length), ∃ b o, A = some ⟨b, o, none⟩ ∧ b < w.heap.size ∧ w.cell? ⟨b, o + k, none⟩ = some (.bool L[k])
theorem BoolS.keep {w w1 : World} {A : Option Addr} {L : List Bool} (h : BoolS w A L) (hb : Below w.heap.size w w1) : BoolS w1 A L := ⟨fun k hk => by
  obtain ⟨b, o, rfl, h0, h1⟩ := h.at_ k hk
  exact ⟨b, o, rfl, Nat.lt_of_lt_of_le h0 hb.size, (hb.cell h0).trans h1⟩⟩
structure BandM where
  quota : Int
  pool : Int
  spent : Int
  locals : List Int
  dry : List Bool
structure GroupM where
  used : Bool
  parent : Int
  name : ByteArray
  weight : Int
  cpus : Int
  period : Int
  next : Int
  sum : Int
  band : BandM
  shelves : List ShelfM
structure WorldM where
  now : Int
  cpus : List CpuM
  tasks : List TaskM
  groups : List GroupM
structure GH where
  la : Option Addr
  lc : Nat
  da : Option Addr
  dc : Nat
  sa : Option Addr
  sc : Nat
structure GroupS (w : World) (A : Option Addr) (H : Nat → GH) (L : List GroupM) : Prop where
  at_ : ∀ k (h : k < L.length), ∃ b o, A = some ⟨b, o, none⟩ ∧ b < w.heap.size ∧ w.cell? ⟨b, o + k * 14, none⟩ = some (.bool L[k].used) ∧ w.cell? ⟨b, o + k * 14 + 1, none⟩ = some (.int .i64 L[k].parent) ∧ w.cell? ⟨b, o + k * 14 + 2, none⟩ = some (.string L[k].name) ∧ w.cell? ⟨b, o + k * 14 + 3, none⟩ = some (.int .i64 L[k].weight) ∧ w.cell? ⟨b, o + k * 14 + 4, none⟩ = some (.int .i64 L[k].cpus) ∧ w.cell? ⟨b, o + k * 14 + 5, none⟩ = some (.int .i64 L[k].period) ∧ w.cell? ⟨b, o + k * 14 + 6, none⟩ = some (.int .i64 L[k].next) ∧ w.cell? ⟨b, o + k * 14 + 7, none⟩ = some (.int .i64 L[k].sum) ∧ w.cell? ⟨b, o + k * 14 + 8, none⟩ = some (.int .i64 L[k].band.quota) ∧ w.cell? ⟨b, o + k * 14 + 9, none⟩ = some (.int .i64 L[k].band.pool) ∧ w.cell? ⟨b, o + k * 14 + 10, none⟩ = some (.int .i64 L[k].band.spent) ∧ w.cell? ⟨b, o + k * 14 + 11, none⟩ = some (.slice (H k).la L[k].band.locals.length (H k).lc) ∧ w.cell? ⟨b, o + k * 14 + 12, none⟩ = some (.slice (H k).da L[k].band.dry.length (H k).dc) ∧ w.cell? ⟨b, o + k * 14 + 13, none⟩ = some (.slice (H k).sa L[k].shelves.length (H k).sc)
  loc : ∀ k (h : k < L.length), IntS w (H k).la L[k].band.locals
  dry : ∀ k (h : k < L.length), BoolS w (H k).da L[k].band.dry
  she : ∀ k (h : k < L.length), ShelfS w (H k).sa L[k].shelves
theorem GroupS.keep {w w1 : World} {A : Option Addr} {H : Nat → GH} {L : List GroupM} (h : GroupS w A H L) (hb : Below w.heap.size w w1) : GroupS w1 A H L :=
  ⟨fun k hk => by
    obtain ⟨b, o, rfl, h0, h1, h2, h3, h4, h5, h6, h7, h8, h9, h10, h11, h12, h13, h14⟩ := h.at_ k hk
    exact ⟨b, o, rfl, Nat.lt_of_lt_of_le h0 hb.size, (hb.cell h0).trans h1, (hb.cell h0).trans h2, (hb.cell h0).trans h3, (hb.cell h0).trans h4, (hb.cell h0).trans h5, (hb.cell h0).trans h6, (hb.cell h0).trans h7, (hb.cell h0).trans h8, (hb.cell h0).trans h9, (hb.cell h0).trans h10, (hb.cell h0).trans h11, (hb.cell h0).trans h12, (hb.cell h0).trans h13, (hb.cell h0).trans h14⟩, fun k hk => (h.loc k hk).keep hb, fun k hk => (h.dry k hk).keep hb, fun k hk => (h.she k hk).keep hb⟩
structure WH where
  ca : Option Addr
  cc : Nat
  ta : Option Addr
  tc : Nat
  ga : Option Addr
  gc : Nat
  gh : Nat → GH
structure WAt (w : World) (h : WH) (M : WorldM) : Prop where
  cpu : CpuS w h.ca M.cpus
  task : TaskS w h.ta M.tasks
  group : GroupS w h.ga h.gh M.groups
theorem WAt.keep {w w1 : World} {h : WH} {M : WorldM} (hw : WAt w h M) (hb : Below w.heap.size w w1) : WAt w1 h M := ⟨hw.cpu.keep hb, hw.task.keep hb, hw.group.keep hb⟩
end
end Go.Proofs.YtomllcclallcdaaGreatDoor
namespace Go.Proofs.YtomllcclallcdaaGreatDoor
section
def timeB (n : Int) : Bool := inR n 0 100000000000000000
def wof (nice : Int) : Int := if inR nice (-10) 9 then 10 - nice else 0
def vstep (u w : Int) : Int := if inR w 1 20 && inR u 0 100000000 then u * (232792560 / w) else 0
def lagM (w : Int) : Int := vstep 149 w
theorem step_bd (w : Int) (h1 : 1 ≤ w) (h2 : w ≤ 20) : 11639628 ≤ 232792560 / w ∧ 232792560 / w ≤ 232792560 := by
  have h : w = 1 ∨ w = 2 ∨ w = 3 ∨ w = 4 ∨ w = 5 ∨ w = 6 ∨ w = 7 ∨ w = 8 ∨ w = 9 ∨ w = 10 ∨ w = 11 ∨ w = 12 ∨ w = 13 ∨ w = 14 ∨ w = 15 ∨ w = 16 ∨ w = 17 ∨ w = 18 ∨ w = 19 ∨ w = 20 := by omega
  rcases h with rfl | rfl | rfl | rfl | rfl | rfl | rfl | rfl | rfl | rfl | rfl | rfl | rfl | rfl | rfl | rfl | rfl | rfl | rfl | rfl <;> decide
theorem prod_bd {u q : Int} (h1 : 0 ≤ u) (h2 : u ≤ 100000000) (h3 : 0 ≤ q) (h4 : q ≤ 232792560) : 0 ≤ u * q ∧ u * q ≤ 23279256000000000 := by
  refine ⟨Int.mul_nonneg h1 h3, ?_⟩
  have := Int.mul_le_mul h2 h4 h3 (by omega)
  omega
theorem vstep_bd (u w : Int) : 0 ≤ vstep u w ∧ vstep u w ≤ 23279256000000000 := by
  unfold vstep
  split
  · rename_i h
    simp only [Bool.and_eq_true, inR_iff] at h
    have hs := step_bd w h.1.1 h.1.2
    exact prod_bd h.2.1 h.2.2 (by omega) hs.2
  · omega
def mhas (m c : Int) : Bool := inR m 0 15 && inR c 0 3 && (m / 2 ^ c.toNat % 2 == 1)
def mand (a b : Int) : Int := if inR a 0 15 && inR b 0 15 then ((a.toNat &&& b.toNat : Nat) : Int) else 0
def mandTo (a b : Int) : Nat → Int
  | 0 => 0
  | k + 1 => mandTo a b k + if mhas a k && mhas b k then 2 ^ k else 0
theorem mand_to (a b : Int) (ha : inR a 0 15 = true) (hb : inR b 0 15 = true) : mandTo a b 4 = mand a b := by
  rw [inR_iff] at ha hb
  have h1 : a = 0 ∨ a = 1 ∨ a = 2 ∨ a = 3 ∨ a = 4 ∨ a = 5 ∨ a = 6 ∨ a = 7 ∨ a = 8 ∨ a = 9 ∨ a = 10 ∨ a = 11 ∨ a = 12 ∨ a = 13 ∨ a = 14 ∨ a = 15 := by omega
  have h2 : b = 0 ∨ b = 1 ∨ b = 2 ∨ b = 3 ∨ b = 4 ∨ b = 5 ∨ b = 6 ∨ b = 7 ∨ b = 8 ∨ b = 9 ∨ b = 10 ∨ b = 11 ∨ b = 12 ∨ b = 13 ∨ b = 14 ∨ b = 15 := by omega
  rcases h1 with rfl | rfl | rfl | rfl | rfl | rfl | rfl | rfl | rfl | rfl | rfl | rfl | rfl | rfl | rfl | rfl <;>
  rcases h2 with rfl | rfl | rfl | rfl | rfl | rfl | rfl | rfl | rfl | rfl | rfl | rfl | rfl | rfl | rfl | rfl <;> decide
theorem pow_bd {k : Nat} (h : k < 4) : 1 ≤ (2 : Int) ^ k ∧ (2 : Int) ^ k ≤ 8 := by
  have : k = 0 ∨ k = 1 ∨ k = 2 ∨ k = 3 := by omega
  rcases this with rfl | rfl | rfl | rfl <;> decide
theorem mandTo_bd (a b : Int) (k : Nat) (hk : k ≤ 4) : 0 ≤ mandTo a b k ∧ mandTo a b k ≤ 15 := by
  have h : ∀ j : Nat, (0 : Int) ≤ (if mhas a j && mhas b j then (2 : Int) ^ j else 0) := by intro j; split <;> simp [Int.pow_nonneg]
  have e : ∀ j : Nat, (if mhas a j && mhas b j then (2 : Int) ^ j else 0) ≤ 2 ^ j := by intro j; have : (0 : Int) ≤ 2 ^ j := Int.pow_nonneg (by omega); split <;> omega
  have h0 := h 0; have h1 := h 1; have h2 := h 2; have h3 := h 3
  have e0 := e 0; have e1 := e 1; have e2 := e 2; have e3 := e 3
  simp only [show (2 : Int) ^ 0 = 1 from rfl, show (2 : Int) ^ 1 = 2 from rfl, show (2 : Int) ^ 2 = 4 from rfl, show (2 : Int) ^ 3 = 8 from rfl] at e0 e1 e2 e3 h0 h1 h2 h3
  rcases k with _ | _ | _ | _ | _ | k
  · simp [mandTo]
  all_goals first | omega | (simp only [mandTo, show (2 : Int) ^ 0 = 1 from rfl, show (2 : Int) ^ 1 = 2 from rfl, show (2 : Int) ^ 2 = 4 from rfl, show (2 : Int) ^ 3 = 8 from rfl, show (0 : Nat) + 1 = 1 from rfl, show (1 : Nat) + 1 = 2 from rfl, show (2 : Nat) + 1 = 3 from rfl] at *; omega)
theorem mand_bd (a b : Int) : 0 ≤ mand a b ∧ mand a b ≤ 15 := by
  unfold mand
  split
  · rename_i h
    simp only [Bool.and_eq_true, inR_iff] at h
    have : a.toNat &&& b.toNat ≤ a.toNat := Nat.and_le_left
    omega
  · omega
end
end Go.Proofs.YtomllcclallcdaaGreatDoor
namespace Go.Proofs.YtomllcclallcdaaGreatDoor
section
open Go.RowKit
def cpu0 : CpuM := ⟨false, 0, 0, 0, 0⟩
def task0 : TaskM := ⟨0, 0, 0, 0, 0, 0, 0, 0, 0⟩
def shelf0 : ShelfM := ⟨0, false, 0, 0, 0⟩
def band0 : BandM := ⟨0, 0, 0, [], []⟩
def group0 : GroupM := ⟨false, 0, .empty, 0, 0, 0, 0, 0, band0, []⟩
def tsk (M : WorldM) (k : Nat) : TaskM := M.tasks.getD k task0
def cpo (M : WorldM) (k : Nat) : CpuM := M.cpus.getD k cpu0
def grp (M : WorldM) (k : Nat) : GroupM := M.groups.getD k group0
def she (M : WorldM) (g c : Nat) : ShelfM := (grp M g).shelves.getD c shelf0
theorem tsk_eq {M : WorldM} {k : Nat} (h : k < M.tasks.length) : M.tasks[k] = tsk M k := by simp [tsk, h]
theorem cpo_eq {M : WorldM} {k : Nat} (h : k < M.cpus.length) : M.cpus[k] = cpo M k := by simp [cpo, h]
theorem grp_eq {M : WorldM} {k : Nat} (h : k < M.groups.length) : M.groups[k] = grp M k := by simp [grp, h]
theorem she_eq {M : WorldM} {g c : Nat} (h : c < (grp M g).shelves.length) : (grp M g).shelves[c] = she M g c := by simp [she, h]
structure WA (w : World) (ca ta ga : Option Addr) (gh : Nat → GH) (M : WorldM) : Prop where
  cpu : CpuS w ca M.cpus
  task : TaskS w ta M.tasks
  group : GroupS w ga gh M.groups
section
variable {w w1 : World} {ca ta ga : Option Addr} {cc tc gc p : Nat} {gh : Nat → GH} {M : WorldM}
theorem WA.keep (hw : WA w ca ta ga gh M) (hb : Below w.heap.size w w1) : WA w1 ca ta ga gh M := ⟨hw.cpu.keep hb, hw.task.keep hb, hw.group.keep hb⟩
theorem WA.cpu_ (hw : WA w ca ta ga gh M) {k : Nat} (hk : k < M.cpus.length) : ∃ b o, ca = some ⟨b, o, none⟩ ∧ b < w.heap.size ∧ w.cell? ⟨b, o + k * 5, none⟩ = some (.bool (cpo M k).up) ∧ w.cell? ⟨b, o + k * 5 + 1, none⟩ = some (.int .i64 (cpo M k).cur) ∧ w.cell? ⟨b, o + k * 5 + 2, none⟩ = some (.int .i64 (cpo M k).ran) ∧ w.cell? ⟨b, o + k * 5 + 3, none⟩ = some (.int .i64 (cpo M k).busy) ∧ w.cell? ⟨b, o + k * 5 + 4, none⟩ = some (.int .i64 (cpo M k).idle) := by
  have := hw.cpu.at_ k hk
  rwa [cpo_eq hk] at this
theorem WA.task_ (hw : WA w ca ta ga gh M) {k : Nat} (hk : k < M.tasks.length) : ∃ b o, ta = some ⟨b, o, none⟩ ∧ b < w.heap.size ∧ w.cell? ⟨b, o + k * 9, none⟩ = some (.int .i64 (tsk M k).st) ∧ w.cell? ⟨b, o + k * 9 + 1, none⟩ = some (.int .i64 (tsk M k).gr) ∧ w.cell? ⟨b, o + k * 9 + 2, none⟩ = some (.int .i64 (tsk M k).cpu) ∧ w.cell? ⟨b, o + k * 9 + 3, none⟩ = some (.int .i64 (tsk M k).nice) ∧ w.cell? ⟨b, o + k * 9 + 4, none⟩ = some (.int .i64 (tsk M k).mask) ∧ w.cell? ⟨b, o + k * 9 + 5, none⟩ = some (.int .i64 (tsk M k).v) ∧ w.cell? ⟨b, o + k * 9 + 6, none⟩ = some (.int .i64 (tsk M k).sum) ∧ w.cell? ⟨b, o + k * 9 + 7, none⟩ = some (.int .i64 (tsk M k).used) ∧ w.cell? ⟨b, o + k * 9 + 8, none⟩ = some (.int .i64 (tsk M k).load) := by
  have := hw.task.at_ k hk
  rwa [tsk_eq hk] at this
theorem WA.group_ (hw : WA w ca ta ga gh M) {k : Nat} (hk : k < M.groups.length) : ∃ b o, ga = some ⟨b, o, none⟩ ∧ b < w.heap.size ∧ w.cell? ⟨b, o + k * 14, none⟩ = some (.bool (grp M k).used) ∧ w.cell? ⟨b, o + k * 14 + 1, none⟩ = some (.int .i64 (grp M k).parent) ∧ w.cell? ⟨b, o + k * 14 + 2, none⟩ = some (.string (grp M k).name) ∧ w.cell? ⟨b, o + k * 14 + 3, none⟩ = some (.int .i64 (grp M k).weight) ∧ w.cell? ⟨b, o + k * 14 + 4, none⟩ = some (.int .i64 (grp M k).cpus) ∧ w.cell? ⟨b, o + k * 14 + 5, none⟩ = some (.int .i64 (grp M k).period) ∧ w.cell? ⟨b, o + k * 14 + 6, none⟩ = some (.int .i64 (grp M k).next) ∧ w.cell? ⟨b, o + k * 14 + 7, none⟩ = some (.int .i64 (grp M k).sum) ∧ w.cell? ⟨b, o + k * 14 + 8, none⟩ = some (.int .i64 (grp M k).band.quota) ∧ w.cell? ⟨b, o + k * 14 + 9, none⟩ = some (.int .i64 (grp M k).band.pool) ∧ w.cell? ⟨b, o + k * 14 + 10, none⟩ = some (.int .i64 (grp M k).band.spent) ∧ w.cell? ⟨b, o + k * 14 + 11, none⟩ = some (.slice (gh k).la (grp M k).band.locals.length (gh k).lc) ∧ w.cell? ⟨b, o + k * 14 + 12, none⟩ = some (.slice (gh k).da (grp M k).band.dry.length (gh k).dc) ∧ w.cell? ⟨b, o + k * 14 + 13, none⟩ = some (.slice (gh k).sa (grp M k).shelves.length (gh k).sc) := by
  have := hw.group.at_ k hk
  rwa [grp_eq hk] at this
theorem WA.shelf_ (hw : WA w ca ta ga gh M) {g k : Nat} (hg : g < M.groups.length) (hk : k < (grp M g).shelves.length) : ∃ b o, (gh g).sa = some ⟨b, o, none⟩ ∧ b < w.heap.size ∧ w.cell? ⟨b, o + k * 5, none⟩ = some (.int .i64 (she M g k).floor) ∧ w.cell? ⟨b, o + k * 5 + 1, none⟩ = some (.bool (she M g k).on) ∧ w.cell? ⟨b, o + k * 5 + 2, none⟩ = some (.int .i64 (she M g k).v) ∧ w.cell? ⟨b, o + k * 5 + 3, none⟩ = some (.int .i64 (she M g k).w) ∧ w.cell? ⟨b, o + k * 5 + 4, none⟩ = some (.int .i64 (she M g k).sum) := by
  have h := hw.group.she g hg
  rw [grp_eq hg] at h
  have := h.at_ k hk
  rwa [she_eq hk] at this
theorem WA.local_ (hw : WA w ca ta ga gh M) {g k : Nat} (hg : g < M.groups.length) (hk : k < (grp M g).band.locals.length) : ∃ b o, (gh g).la = some ⟨b, o, none⟩ ∧ b < w.heap.size ∧ w.cell? ⟨b, o + k, none⟩ = some (.int .i64 ((grp M g).band.locals.getD k 0)) := by
  have h := hw.group.loc g hg
  rw [grp_eq hg] at h
  have := h.at_ k hk
  rwa [show (grp M g).band.locals[k] = (grp M g).band.locals.getD k 0 by simp [hk]] at this
theorem WA.dry_ (hw : WA w ca ta ga gh M) {g k : Nat} (hg : g < M.groups.length) (hk : k < (grp M g).band.dry.length) : ∃ b o, (gh g).da = some ⟨b, o, none⟩ ∧ b < w.heap.size ∧ w.cell? ⟨b, o + k, none⟩ = some (.bool ((grp M g).band.dry.getD k false)) := by
  have h := hw.group.dry g hg
  rw [grp_eq hg] at h
  have := h.at_ k hk
  rwa [show (grp M g).band.dry[k] = (grp M g).band.dry.getD k false by simp [hk]] at this
structure PA (w : World) (p : Nat) (ca : Option Addr) (cc : Nat) (ta : Option Addr) (tc : Nat) (ga : Option Addr) (gc : Nat) (gh : Nat → GH) (M : WorldM) : Prop where
  lt : p < w.heap.size
  now : w.cell? ⟨p, 0, none⟩ = some (.int .i64 M.now)
  cpus : w.cell? ⟨p, 1, none⟩ = some (.slice ca M.cpus.length cc)
  tasks : w.cell? ⟨p, 2, none⟩ = some (.slice ta M.tasks.length tc)
  groups : w.cell? ⟨p, 3, none⟩ = some (.slice ga M.groups.length gc)
  wa : WA w ca ta ga gh M
theorem PA.keep (hw : PA w p ca cc ta tc ga gc gh M) (hb : Below w.heap.size w w1) : PA w1 p ca cc ta tc ga gc gh M :=
  ⟨Nat.lt_of_lt_of_le hw.lt hb.size, (hb.cell hw.lt).trans hw.now, (hb.cell hw.lt).trans hw.cpus, (hb.cell hw.lt).trans hw.tasks, (hb.cell hw.lt).trans hw.groups, hw.wa.keep hb⟩
theorem PA.box (hw : WA w ca ta ga gh M) (t : TypeId) : PA (w.alloc (.cells #[.int .i64 M.now, .slice ca M.cpus.length cc, .slice ta M.tasks.length tc, .slice ga M.groups.length gc] t)) w.heap.size ca cc ta tc ga gc gh M :=
  ⟨by simp, by simp [World.cell?_alloc_at], by simp [World.cell?_alloc_at], by simp [World.cell?_alloc_at], by simp [World.cell?_alloc_at], hw.keep ((Below.refl _ _).alloc (Nat.le_refl _) _)⟩
theorem PA.gen (hw : WA w ca ta ga gh M) {t : TypeId} {P : World → Prop}
    (h : ∀ W, Below w.heap.size w W → W.heap.size = w.heap.size + 1 → PA W w.heap.size ca cc ta tc ga gc gh M → P W) :
    P (w.alloc (.cells #[.int .i64 M.now, .slice ca M.cpus.length cc, .slice ta M.tasks.length tc, .slice ga M.groups.length gc] t)) :=
  h _ ((Below.refl _ _).alloc (Nat.le_refl _) _) (by simp) (PA.box hw t)
end
end
end Go.Proofs.YtomllcclallcdaaGreatDoor
namespace Go.Proofs.YtomllcclallcdaaGreatDoor
section
open Go.RowKit
theorem any_succ (p : Nat → Bool) (k : Nat) : (List.range (k + 1)).any p = ((List.range k).any p || p k) := by
  rw [List.range_succ, List.any_append]; simp
theorem all_succ (p : Nat → Bool) (k : Nat) : (List.range (k + 1)).all p = ((List.range k).all p && p k) := by
  rw [List.range_succ, List.all_append]; simp
theorem any_of {p : Nat → Bool} {k n : Nat} (h : k < n) (hp : p k = true) : (List.range n).any p = true := by
  rw [List.any_eq_true]; exact ⟨k, by simpa using h, hp⟩
theorem all_of {p : Nat → Bool} {k n : Nat} (h : k < n) (hp : p k = false) : (List.range n).all p = false := by
  rw [List.all_eq_false]; exact ⟨k, by simpa using h, by simp [hp]⟩
def upsTo (M : WorldM) : Nat → Int
  | 0 => 0
  | k + 1 => upsTo M k + if (cpo M k).up then 2 ^ k else 0
def ups (M : WorldM) : Int := upsTo M M.cpus.length
theorem upsTo_bd (M : WorldM) : ∀ k : Nat, k ≤ 4 → 0 ≤ upsTo M k ∧ upsTo M k < 2 ^ k
  | 0, _ => by simp [upsTo]
  | k + 1, h => by
    have ih := upsTo_bd M k (by omega)
    have e : (2 : Int) ^ (k + 1) = 2 ^ k * 2 := Int.pow_succ 2 k
    have hp : (0 : Int) ≤ 2 ^ k := Int.pow_nonneg (by omega)
    simp only [upsTo]
    split <;> omega
def par (M : WorldM) (g : Nat) : Nat := (grp M g).parent.toNat
def dpF (M : WorldM) : Nat → Nat → Nat
  | 0, _ => 0
  | f + 1, g => if g = 0 then 0 else dpF M f (par M g) + 1
def dp (M : WorldM) (g : Nat) : Nat := dpF M 8 g
structure Tree (M : WorldM) : Prop where
  len : M.groups.length = 8
  root : (grp M 0).used = true
  rpar : (grp M 0).parent = -1
  rname : (grp M 0).name.toList = []
  up : ∀ g, g < 8 → (grp M g).used = true → g ≠ 0 → (grp M g).parent = (par M g : Int) ∧ par M g < 8 ∧ (grp M (par M g)).used = true ∧ dp M g = dp M (par M g) + 1
  dp3 : ∀ g, g < 8 → (grp M g).used = true → dp M g ≤ 3
theorem dp_zero (M : WorldM) : dp M 0 = 0 := rfl
def chF (M : WorldM) : Nat → Nat → List Nat
  | 0, g => [g]
  | d + 1, g => g :: chF M d (par M g)
def ch (M : WorldM) (g : Nat) : List Nat := chF M (dp M g) g
theorem ch_zero (M : WorldM) : ch M 0 = [0] := rfl
theorem Tree.ch_step {M : WorldM} (h : Tree M) {g : Nat} (hg : g < 8) (hu : (grp M g).used = true) (h0 : g ≠ 0) : ch M g = g :: ch M (par M g) := by
  unfold ch
  rw [(h.up g hg hu h0).2.2.2]
  rfl
theorem ch_cons (M : WorldM) (g : Nat) : ch M g = g :: (ch M g).tail := by
  unfold ch
  cases dp M g <;> rfl
def pinsL (M : WorldM) (m : Int) (l : List Nat) : Int := l.foldl (fun m p => mand m (grp M p).cpus) m
def pins (M : WorldM) (g : Nat) : Int := pinsL M (grp M g).cpus (ch M g).tail
def whereM (M : WorldM) (g : Nat) (mask : Int) : Int :=
  if mand mask (mand (pins M g) (ups M)) ≠ 0 then mand mask (mand (pins M g) (ups M)) else if mand (pins M g) (ups M) ≠ 0 then mand (pins M g) (ups M) else ups M
def tq (M : WorldM) (t : Nat) (g c : Int) : Bool := (tsk M t).st == 1 && (tsk M t).gr == g && (tsk M t).cpu == c
def gq (M : WorldM) (h : Nat) (g : Int) (c : Nat) : Bool := (h != 0) && ((grp M h).used && ((grp M h).parent == g) && (she M h c).on)
def act (M : WorldM) (g : Int) (c : Nat) : Bool := (List.range M.tasks.length).any (fun t => tq M t g c) || (List.range M.groups.length).any (fun h => gq M h g c)
def dryM (M : WorldM) (g c : Nat) : Bool := decide (0 < (grp M g).band.quota) && (grp M g).band.dry.getD c false
def onL (M : WorldM) (c : Nat) (l : List Nat) : Bool := l.all fun p => p == 0 || (she M p c).on
def lineM (M : WorldM) (t : Nat) : Bool := (tsk M t).st == 1 && onL M (tsk M t).cpu.toNat (ch M (tsk M t).gr.toNat)
def standW (v floor w : Int) : Bool := decide (floor ≤ v) && decide (wrap64 (v - floor) ≤ lagM w)
structure GOk (M : WorldM) : Prop where
  she : ∀ g, g < 8 → (grp M g).used = true → (grp M g).shelves.length = M.cpus.length
  dry : ∀ g, g < 8 → (grp M g).used = true → 0 < (grp M g).band.quota → (grp M g).band.dry.length = M.cpus.length ∧ (grp M g).band.locals.length = M.cpus.length
def noBand (x : BandM) : Bool := (x.quota == 0) && (x.pool == 0) && (x.spent == 0) && ((x.locals.length : Int) == 0) && ((x.dry.length : Int) == 0)
def lcB (x : BandM) (c : Nat) : Bool := inR (x.locals.getD c 0) 0 x.quota && !(x.dry.getD c false && (decide (0 < x.locals.getD c 0) || decide (0 < x.pool)))
def lsum (x : BandM) : Nat → Int
  | 0 => 0
  | k + 1 => lsum x k + x.locals.getD k 0
def bandHead (x : BandM) : Bool := inR x.quota 1 10000 && inR x.locals.length 1 4 && (x.dry.length == x.locals.length) && inR x.pool 0 x.quota && inR x.spent 0 x.quota
def bandB (x : BandM) : Bool := bandHead x && (List.range x.locals.length).all (lcB x) && (x.pool + x.spent + lsum x x.locals.length == x.quota)
theorem lcB_bd {x : BandM} {c : Nat} (h : lcB x c = true) : 0 ≤ x.locals.getD c 0 ∧ x.locals.getD c 0 ≤ x.quota := by
  simp only [lcB, Bool.and_eq_true, inR_iff] at h
  exact h.1
theorem lsum_bd {x : BandM} (hq : x.quota ≤ 10000) : ∀ k : Nat, (List.range k).all (lcB x) = true → 0 ≤ lsum x k ∧ lsum x k ≤ k * 10000
  | 0, _ => by simp [lsum]
  | k + 1, h => by
    rw [all_succ, Bool.and_eq_true] at h
    have ih := lsum_bd hq k h.1
    have := lcB_bd h.2
    simp only [lsum]
    omega
def usedI (M : WorldM) (g : Int) : Bool := decide (0 ≤ g) && decide (g < M.groups.length) && (grp M g.toNat).used
def zeroT (x : TaskM) : Bool := (x.st == 0) && (x.gr == 0) && (x.cpu == 0) && (x.nice == 0) && (x.mask == 0) && (x.v == 0) && (x.sum == 0) && (x.used == 0) && (x.load == 0)
def taskB1 (M : WorldM) (x : TaskM) : Bool := ((x.st == 1) || (x.st == 2)) && usedI M x.gr && !(wof x.nice == 0) && inR x.mask 0 15 && !(x.mask == 0)
def taskB2 (M : WorldM) (x : TaskM) : Bool := timeB x.v && timeB x.sum && timeB x.used && inR x.load 0 8000000 && mhas (whereM M x.gr.toNat x.mask) x.cpu
def taskB3 (M : WorldM) (x : TaskM) : Bool := (x.st == 2) || standW x.v (she M x.gr.toNat x.cpu.toNat).floor (wof x.nice)
def taskB (M : WorldM) (t : Nat) : Bool := if (tsk M t).st = 0 then zeroT (tsk M t) else taskB1 M (tsk M t) && taskB2 M (tsk M t) && taskB3 M (tsk M t)
def shelfB1 (x : ShelfM) : Bool := timeB x.floor && timeB x.v && timeB x.sum && inR x.w 1 20
def onB (M : WorldM) (k c : Nat) : Bool := act M k c && !dryM M k c
def shelfB (M : WorldM) (k c : Nat) : Bool := shelfB1 (she M k c) &&
  (if k = 0 then !(she M k c).on && ((she M k c).v == 0) && ((she M k c).w == 10)
   else ((she M k c).on == onB M k c) && (!(she M k c).on || standW (she M k c).v (she M (par M k) c).floor (she M k c).w))
def grpZ (x : GroupM) : Bool := (x.parent == 0) && x.name.toList.isEmpty && (x.weight == 0) && (x.cpus == 0) && (x.period == 0) && (x.next == 0) && (x.sum == 0) && ((x.shelves.length : Int) == 0) && noBand x.band
def grpU (M : WorldM) (x : GroupM) : Bool := inR x.weight 1 20 && inR x.cpus 0 15 && !(x.cpus == 0) && timeB x.sum && ((x.shelves.length : Int) == M.cpus.length)
def grpR (x : GroupM) : Bool := (x.weight == 10) && (x.cpus == 15) && (x.band.quota == 0)
def grpQ (M : WorldM) (x : GroupM) : Bool := if x.band.quota = 0 then noBand x.band && (x.period == 0) && (x.next == 0)
  else bandB x.band && ((x.band.locals.length : Int) == M.cpus.length) && inR x.period 1 1000 && decide (M.now < x.next) && decide (wrap64 (x.next - M.now) ≤ x.period)
def groupB (M : WorldM) (k : Nat) : Bool := if (grp M k).used then grpU M (grp M k) && (decide (k ≠ 0) || grpR (grp M k)) && grpQ M (grp M k) else grpZ (grp M k)
def stayT (M : WorldM) (c : Nat) (t : TaskM) : Bool := decide (t.v - (she M t.gr.toNat c).floor ≤ vstep (cpo M c).ran (wof t.nice))
def stayG (M : WorldM) (c : Nat) (g : Nat) : Bool := (g == 0) || decide ((she M g c).v - (she M (par M g) c).floor ≤ vstep (cpo M c).ran (she M g c).w)
def stayB (M : WorldM) (c : Nat) : Bool := stayT M c (tsk M (cpo M c).cur.toNat) && (ch M (tsk M (cpo M c).cur.toNat).gr.toNat).all (stayG M c)
def cpuHead (M : WorldM) (x : CpuM) : Bool := timeB x.busy && timeB x.idle && inR x.cur (-1) (M.tasks.length - 1)
def cpuB (M : WorldM) (c : Nat) : Bool := cpuHead M (cpo M c) &&
  (if (cpo M c).cur < 0 then (cpo M c).ran == 0 else (cpo M c).up && inR (cpo M c).ran 1 149 && ((tsk M (cpo M c).cur.toNat).cpu == c) && lineM M (cpo M c).cur.toNat && stayB M c)
def charB (b : UInt8) : Bool := inR b.toNat 97 122 || inR b.toNat 48 57
def fileB (s : ByteArray) : Bool := (s.toList == [119, 101, 105, 103, 104, 116]) || (s.toList == [109, 97, 120]) || (s.toList == [99, 112, 117, 115]) || (s.toList == [112, 114, 111, 99, 115]) || (s.toList == [115, 116, 97, 116])
def nameB (s : ByteArray) : Bool := inR s.size 1 8 && !fileB s && s.data.toList.all charB
def depL (M : WorldM) : Nat → Int → Int → Int
  | 0, _, _ => -1
  | r + 1, n, g => if usedI M g then (if g = 0 then n else depL M r (n + 1) (grp M g.toNat).parent) else -1
def sameB (M : WorldM) (g h : Nat) : Bool := (grp M h).used && ((grp M h).parent == (grp M g).parent) && ((grp M h).name.toList == (grp M g).name.toList)
def nodeB (M : WorldM) (g : Nat) : Bool := !(grp M g).used || (nameB (grp M g).name && inR (depL M 9 0 g) 1 3 && !(List.range g).any (fun h => h != 0 && sameB M g h))
def treeB (M : WorldM) : Bool := (M.groups.length == 8) && (grp M 0).used && ((grp M 0).parent == -1) && (grp M 0).name.toList.isEmpty && (List.range 8).all (fun g => g == 0 || nodeB M g)
theorem mhas_bit {m c : Int} : mhas m c = true ↔ (0 ≤ m ∧ m ≤ 15 ∧ 0 ≤ c ∧ c ≤ 3 ∧ m.toNat.testBit c.toNat = true) := by
  unfold mhas
  simp only [Bool.and_eq_true, inR_iff, beq_iff_eq]
  constructor
  · rintro ⟨⟨⟨h1, h2⟩, h3, h4⟩, h5⟩
    refine ⟨h1, h2, h3, h4, ?_⟩
    obtain ⟨n, rfl⟩ := Int.eq_ofNat_of_zero_le h1
    have e : ((n : Int) / 2 ^ c.toNat % 2) = ((n / 2 ^ c.toNat % 2 : Nat) : Int) := by simp
    rw [e] at h5
    rw [Nat.testBit_eq_decide_div_mod_eq]
    simp only [Int.toNat_natCast, decide_eq_true_eq]
    omega
  · rintro ⟨h1, h2, h3, h4, h5⟩
    refine ⟨⟨⟨h1, h2⟩, h3, h4⟩, ?_⟩
    obtain ⟨n, rfl⟩ := Int.eq_ofNat_of_zero_le h1
    have e : ((n : Int) / 2 ^ c.toNat % 2) = ((n / 2 ^ c.toNat % 2 : Nat) : Int) := by simp
    rw [e]
    rw [Nat.testBit_eq_decide_div_mod_eq] at h5
    simp only [Int.toNat_natCast, decide_eq_true_eq] at h5
    omega
theorem mand_has {a b c : Int} (h : mhas (mand a b) c = true) : mhas a c = true ∧ mhas b c = true := by
  unfold mand at h
  split at h
  · rename_i hb
    simp only [Bool.and_eq_true, inR_iff] at hb
    rw [mhas_bit] at h
    obtain ⟨_, _, h3, h4, h5⟩ := h
    simp only [Int.toNat_natCast, Nat.testBit_and, Bool.and_eq_true] at h5
    exact ⟨mhas_bit.2 ⟨hb.1.1, hb.1.2, h3, h4, h5.1⟩, mhas_bit.2 ⟨hb.2.1, hb.2.2, h3, h4, h5.2⟩⟩
  · rw [mhas_bit] at h
    simp at h
theorem ups_has {M : WorldM} (hl : M.cpus.length ≤ 4) {c : Int} (h : mhas (ups M) c = true) : 0 ≤ c ∧ c < M.cpus.length := by
  rw [mhas_bit] at h
  obtain ⟨h1, _, h3, _, h5⟩ := h
  refine ⟨h3, ?_⟩
  have hb := (upsTo_bd M M.cpus.length hl).2
  have hlt : (ups M).toNat < 2 ^ M.cpus.length := by
    have e : ((2 ^ M.cpus.length : Nat) : Int) = 2 ^ M.cpus.length := by simp
    unfold ups at *
    omega
  rcases Nat.lt_or_ge c.toNat M.cpus.length with hc | hc
  · omega
  · have hle : (2 : Nat) ^ M.cpus.length ≤ 2 ^ c.toNat := Nat.pow_le_pow_right (by omega) hc
    rw [Nat.testBit_lt_two_pow (by omega)] at h5
    cases h5
theorem where_has {M : WorldM} (hl : M.cpus.length ≤ 4) {g : Nat} {mask c : Int} (h : mhas (whereM M g mask) c = true) : 0 ≤ c ∧ c < M.cpus.length := by
  unfold whereM at h
  split at h
  · exact ups_has hl (mand_has (mand_has h).2).2
  · split at h
    · exact ups_has hl (mand_has h).2
    · exact ups_has hl h
end
end Go.Proofs.YtomllcclallcdaaGreatDoor
namespace Go.Proofs.YtomllcclallcdaaGreatDoor
section
theorem depL_spec (M : WorldM) : ∀ (r : Nat) (n g : Int), depL M r n g ≠ -1 →
    ∃ d : Nat, depL M r n g = n + d ∧ usedI M g = true ∧ (∀ f : Nat, d ≤ f → dpF M f g.toNat = d) ∧
      (g ≠ 0 → ∃ d' : Nat, d = d' + 1 ∧ usedI M (grp M g.toNat).parent = true ∧ (∀ f : Nat, d' ≤ f → dpF M f (grp M g.toNat).parent.toNat = d'))
  | 0, _, _, h => absurd rfl h
  | r + 1, n, g, h => by
    by_cases hu : usedI M g = true
    · by_cases h0 : g = 0
      · subst h0
        refine ⟨0, by simp [depL, hu], hu, fun f _ => by cases f <;> rfl, fun h => absurd rfl h⟩
      · have e : depL M (r + 1) n g = depL M r (n + 1) (grp M g.toNat).parent := by rw [depL, if_pos hu, if_neg h0]
        rw [e] at h
        obtain ⟨d, h1, h2, h3, _⟩ := depL_spec M r (n + 1) _ h
        have hg : g.toNat ≠ 0 := by
          simp only [usedI, Bool.and_eq_true, decide_eq_true_eq] at hu
          omega
        refine ⟨d + 1, by rw [e, h1]; omega, hu, fun f hf => ?_, fun _ => ⟨d, rfl, h2, h3⟩⟩
        obtain ⟨f', rfl⟩ : ∃ f', f = f' + 1 := ⟨f - 1, by omega⟩
        simp only [dpF, if_neg hg]
        rw [par, h3 f' (by omega)]
    · exact absurd (by simp [depL, hu]) h
theorem tree_of {M : WorldM} (h : treeB M = true) : Tree M := by
  simp only [treeB, Bool.and_eq_true, List.all_eq_true, List.mem_range, Bool.or_eq_true, beq_iff_eq, List.isEmpty_iff] at h
  obtain ⟨⟨⟨⟨h1, h2⟩, h3⟩, h4⟩, h5⟩ := h
  have hd : ∀ g : Nat, g < 8 → (grp M g).used = true → g ≠ 0 → ∃ d' : Nat, d' ≤ 2 ∧ dp M g = d' + 1 ∧ usedI M (grp M g).parent = true ∧ dp M (par M g) = d' := by
    intro g hg hu h0
    have hn := (h5 g hg).resolve_left h0
    simp only [nodeB, hu, Bool.not_true, Bool.false_or, Bool.and_eq_true, inR_iff] at hn
    obtain ⟨⟨_, hd1, hd3⟩, _⟩ := hn
    obtain ⟨d, e1, _, e3, e4⟩ := depL_spec M 9 0 g (by omega)
    obtain ⟨d', rfl, f2, f3⟩ := e4 (by omega)
    rw [Int.toNat_natCast] at e3 f2 f3
    exact ⟨d', by omega, e3 8 (by omega), f2, f3 8 (by omega)⟩
  refine ⟨h1, h2, h3, h4, fun g hg hu h0 => ?_, fun g hg hu => ?_⟩
  · obtain ⟨d', _, e1, e2, e3⟩ := hd g hg hu h0
    simp only [usedI, Bool.and_eq_true, decide_eq_true_eq] at e2
    refine ⟨by unfold par; omega, by unfold par; omega, e2.2, by rw [e1, e3]⟩
  · by_cases h0 : g = 0
    · subst h0; simp [dp_zero]
    · obtain ⟨d', e0, e1, _⟩ := hd g hg hu h0
      omega
end
end Go.Proofs.YtomllcclallcdaaGreatDoor
namespace Go.Proofs.YtomllcclallcdaaGreatDoor
section
def worldH (M : WorldM) : Bool := inR M.now 0 100000000000000000 && inR M.cpus.length 1 4 && (M.tasks.length == 12) && treeB M && !(ups M == 0)
def shelvesB (M : WorldM) : Bool := (List.range 8).all fun g => (List.range (grp M g).shelves.length).all (shelfB M g)
def cpusB (M : WorldM) : Bool := (List.range M.cpus.length).all (cpuB M)
def worldL (M : WorldM) : Bool := (List.range 8).all (groupB M) && (List.range M.tasks.length).all (taskB M) && (shelvesB M && cpusB M)
def worldB (M : WorldM) : Bool := worldH M && worldL M
theorem gok_of {M : WorldM} (h : (List.range 8).all (groupB M) = true) : GOk M := by
  have hall : ∀ k, k < 8 → groupB M k = true := fun k hk => List.all_eq_true.1 h k (List.mem_range.2 hk)
  constructor
  · intro g hg hu
    have h1 := hall g hg
    simp only [groupB, hu, if_true, Bool.and_eq_true, grpU, beq_iff_eq] at h1
    have := h1.1.1.2
    omega
  · intro g hg hu hq
    have h1 := hall g hg
    have hq0 : (grp M g).band.quota ≠ 0 := by omega
    simp only [groupB, hu, if_true, Bool.and_eq_true, grpQ, if_neg hq0, bandB, bandHead, beq_iff_eq] at h1
    obtain ⟨_, ⟨⟨⟨⟨⟨⟨⟨⟨_, _⟩, h5⟩, _⟩, _⟩, _⟩, _⟩, h6⟩, _⟩⟩ := h1
    omega
theorem gz_of {M : WorldM} (h : (List.range 8).all (groupB M) = true) : ∀ k, k < 8 → (grp M k).used = false → (grp M k).shelves.length = 0 := by
  intro k hk hu
  have h1 : groupB M k = true := List.all_eq_true.1 h k (List.mem_range.2 hk)
  simp only [groupB, hu, grpZ] at h1
  have := h1
  simp at this
  simp [this]
end
end Go.Proofs.YtomllcclallcdaaGreatDoor
namespace Go.Proofs.YtomllcclallcdaaGreatDoor
section
open Go.RowKit
set_option maxHeartbeats 400000 in
theorem iInRange_any (n a b : Int) (w : World) :
    Calls Tryz.prog 108 #[.int .i64 n, .int .i64 a, .int .i64 b] w fun e w' => e = .returned (.bool (inR n a b)) ∧ w = w' := by
  go_enter Tryz.func108, Tryz.ntmps108
  go_wp2
  all_goals go_ret
  all_goals exact ⟨ret_bool (by simp [inR]; try omega), rfl⟩
set_option maxHeartbeats 400000 in
theorem iWeightOk_any (n : Int) (w : World) :
    Calls Tryz.prog 113 #[.int .i64 n] w fun e w' => e = .returned (.bool (inR n 1 20)) ∧ w = w' := by
  go_enter Tryz.func113, Tryz.ntmps113
  go_wp2_with (go_at_call 108; refine (iInRange_any _ _ _ _).mono ?_; rintro e w' ⟨rfl, rfl⟩)
  go_ret
  exact ⟨rfl, rfl⟩
set_option maxHeartbeats 400000 in
theorem iNiceOk_any (n : Int) (w : World) :
    Calls Tryz.prog 117 #[.int .i64 n] w fun e w' => e = .returned (.bool (inR n (-10) 9)) ∧ w = w' := by
  go_enter Tryz.func117, Tryz.ntmps117
  go_wp2_with (go_at_call 108; refine (iInRange_any _ _ _ _).mono ?_; rintro e w' ⟨rfl, rfl⟩)
  go_ret
  exact ⟨rfl, rfl⟩
set_option maxHeartbeats 400000 in
theorem iLoadOk_any (n : Int) (w : World) :
    Calls Tryz.prog 118 #[.int .i64 n] w fun e w' => e = .returned (.bool (inR n 0 8000000)) ∧ w = w' := by
  go_enter Tryz.func118, Tryz.ntmps118
  go_wp2_with (go_at_call 108; refine (iInRange_any _ _ _ _).mono ?_; rintro e w' ⟨rfl, rfl⟩)
  go_ret
  exact ⟨rfl, rfl⟩
set_option maxHeartbeats 400000 in
theorem iSetOk_any (n : Int) (w : World) :
    Calls Tryz.prog 166 #[.int .i64 n] w fun e w' => e = .returned (.bool (inR n 0 15)) ∧ w = w' := by
  go_enter Tryz.func166, Tryz.ntmps166
  go_wp2
  all_goals go_ret
  all_goals exact ⟨ret_bool (by simp [inR]; try omega), rfl⟩
set_option maxHeartbeats 400000 in
theorem iMaskOk_any (n : Int) (w : World) :
    Calls Tryz.prog 151 #[.int .i64 n] w fun e w' => e = .returned (.bool (inR n 0 15)) ∧ w = w' := by
  go_enter Tryz.func151, Tryz.ntmps151
  go_wp2_with (go_at_call 166; refine (iSetOk_any _ _).mono ?_; rintro e w' ⟨rfl, rfl⟩)
  go_ret
  exact ⟨rfl, rfl⟩
set_option maxHeartbeats 400000 in
theorem iMaskFull_any (n : Int) (w : World) :
    Calls Tryz.prog 114 #[.int .i64 n] w fun e w' => e = .returned (.bool (inR n 0 15 && !(n == 0))) ∧ w = w' := by
  by_cases h : n = 0
  · subst h
    go_enter Tryz.func114, Tryz.ntmps114
    go_wp2
    go_ret
    exact ⟨rfl, rfl⟩
  · have h' : (n == 0) = false := by simpa using h
    have H := Lib.hid h'
    have h2 : (n != 0) = true := by simpa using h
    clear h h'
    go_enter Tryz.func114, Tryz.ntmps114
    go_wp2_with (go_at_call 151; refine (iMaskOk_any _ _).mono ?_; rintro e w' ⟨rfl, rfl⟩)
    go_ret
    exact ⟨ret_bool (by rw [H.out]; simp), rfl⟩
set_option maxHeartbeats 400000 in
theorem iWeightOf_any (n : Int) (w : World) :
    Calls Tryz.prog 124 #[.int .i64 n] w fun e w' => e = .returned (.int .i64 (wof n)) ∧ w = w' := by
  by_cases h : inR n (-10) 9 = true
  · have hb := inR_iff.1 h
    go_enter Tryz.func124, Tryz.ntmps124
    go_wp2_with (go_at_call 117; refine (iNiceOk_any _ _).mono ?_; rintro e w' ⟨rfl, rfl⟩; rw [h])
    go_ret
    exact ⟨ret_int (by rw [wof, if_pos h]), rfl⟩
  · have h' : inR n (-10) 9 = false := by simpa using h
    go_enter Tryz.func124, Tryz.ntmps124
    go_wp2_with (go_at_call 117; refine (iNiceOk_any _ _).mono ?_; rintro e w' ⟨rfl, rfl⟩; rw [h'])
    go_ret
    exact ⟨ret_int (by rw [wof, if_neg h]), rfl⟩
theorem bits_and {m n : Int} (hm : inR m 0 15 = true) (hn : inR n 0 15 = true) : bits BinOp.and IntKind.i64 m n = mand m n := by
  rw [mand, hm, hn]
  rw [inR_iff] at hm hn
  have h1 : m = 0 ∨ m = 1 ∨ m = 2 ∨ m = 3 ∨ m = 4 ∨ m = 5 ∨ m = 6 ∨ m = 7 ∨ m = 8 ∨ m = 9 ∨ m = 10 ∨ m = 11 ∨ m = 12 ∨ m = 13 ∨ m = 14 ∨ m = 15 := by omega
  have h2 : n = 0 ∨ n = 1 ∨ n = 2 ∨ n = 3 ∨ n = 4 ∨ n = 5 ∨ n = 6 ∨ n = 7 ∨ n = 8 ∨ n = 9 ∨ n = 10 ∨ n = 11 ∨ n = 12 ∨ n = 13 ∨ n = 14 ∨ n = 15 := by omega
  rcases h1 with rfl | rfl | rfl | rfl | rfl | rfl | rfl | rfl | rfl | rfl | rfl | rfl | rfl | rfl | rfl | rfl <;>
  rcases h2 with rfl | rfl | rfl | rfl | rfl | rfl | rfl | rfl | rfl | rfl | rfl | rfl | rfl | rfl | rfl | rfl <;> decide
set_option maxHeartbeats 400000 in
theorem iMaskAnd_any (a b : Int) (w : World) :
    Calls Tryz.prog 168 #[.int .i64 a, .int .i64 b] w fun e w' => e = .returned (.int .i64 (mand a b)) ∧ w = w' := by
  by_cases h : inR a 0 15 = true
  · by_cases h2 : inR b 0 15 = true
    · go_enter Tryz.func168, Tryz.ntmps168
      go_wp2_with fail
      refine (iMaskOk_any _ _).mono ?_
      rintro e w' ⟨rfl, rfl⟩
      rw [h]
      go_wp2_with fail
      refine (iMaskOk_any _ _).mono ?_
      rintro e w' ⟨rfl, rfl⟩
      rw [h2]
      go_wp2
      go_ret
      exact ⟨ret_int (bits_and h h2), rfl⟩
    · have h2' : inR b 0 15 = false := by simpa using h2
      go_enter Tryz.func168, Tryz.ntmps168
      go_wp2_with fail
      refine (iMaskOk_any _ _).mono ?_
      rintro e w' ⟨rfl, rfl⟩
      rw [h]
      go_wp2_with fail
      refine (iMaskOk_any _ _).mono ?_
      rintro e w' ⟨rfl, rfl⟩
      rw [h2']
      go_wp2
      go_ret
      exact ⟨ret_int (by rw [mand, h, h2']; rfl), rfl⟩
  · have h' : inR a 0 15 = false := by simpa using h
    go_enter Tryz.func168, Tryz.ntmps168
    go_wp2_with fail
    refine (iMaskOk_any _ _).mono ?_
    rintro e w' ⟨rfl, rfl⟩
    rw [h']
    go_wp2
    go_ret
    exact ⟨ret_int (by rw [mand, h']; rfl), rfl⟩
theorem bits_has {m c : Int} (hm : inR m 0 15 = true) (hc : inR c 0 3 = true) : (bits BinOp.and IntKind.i64 (m / 2 ^ c.toNat) 1 == 1) = mhas m c := by
  rw [inR_iff] at hm hc
  have h1 : m = 0 ∨ m = 1 ∨ m = 2 ∨ m = 3 ∨ m = 4 ∨ m = 5 ∨ m = 6 ∨ m = 7 ∨ m = 8 ∨ m = 9 ∨ m = 10 ∨ m = 11 ∨ m = 12 ∨ m = 13 ∨ m = 14 ∨ m = 15 := by omega
  have h2 : c = 0 ∨ c = 1 ∨ c = 2 ∨ c = 3 := by omega
  rcases h1 with rfl | rfl | rfl | rfl | rfl | rfl | rfl | rfl | rfl | rfl | rfl | rfl | rfl | rfl | rfl | rfl <;>
  rcases h2 with rfl | rfl | rfl | rfl <;> decide
set_option maxHeartbeats 400000 in
theorem iSetHas_any (m c : Int) (w : World) :
    Calls Tryz.prog 153 #[.int .i64 m, .int .i64 c] w fun e w' => e = .returned (.bool (mhas m c)) ∧ w = w' := by
  by_cases h : inR m 0 15 = true
  · by_cases h2 : inR c 0 3 = true
    · obtain ⟨hb0, hb1⟩ := inR_iff.1 h
      obtain ⟨hb2, hb3⟩ := inR_iff.1 h2
      go_enter Tryz.func153, Tryz.ntmps153
      go_wp2_with (first | (go_at_call 166; refine (iSetOk_any _ _).mono ?_; rintro e w' ⟨rfl, rfl⟩; rw [h]) | (go_at_call 108; refine (iInRange_any _ _ _ _).mono ?_; rintro e w' ⟨rfl, rfl⟩; rw [h2]))
      go_ret
      exact ⟨ret_bool (bits_has h h2), rfl⟩
    · have h2' : inR c 0 3 = false := by simpa using h2
      go_enter Tryz.func153, Tryz.ntmps153
      go_wp2_with (first | (go_at_call 166; refine (iSetOk_any _ _).mono ?_; rintro e w' ⟨rfl, rfl⟩; rw [h]) | (go_at_call 108; refine (iInRange_any _ _ _ _).mono ?_; rintro e w' ⟨rfl, rfl⟩; rw [h2']))
      go_ret
      exact ⟨ret_bool (by rw [mhas, h, h2']; rfl), rfl⟩
  · have h' : inR m 0 15 = false := by simpa using h
    go_enter Tryz.func153, Tryz.ntmps153
    go_wp2_with (first | (go_at_call 166; refine (iSetOk_any _ _).mono ?_; rintro e w' ⟨rfl, rfl⟩; rw [h']))
    go_ret
    exact ⟨ret_bool (by rw [mhas, h']; rfl), rfl⟩
set_option maxHeartbeats 400000 in
theorem iMaskHas_any (m c : Int) (w : World) :
    Calls Tryz.prog 119 #[.int .i64 m, .int .i64 c] w fun e w' => e = .returned (.bool (mhas m c)) ∧ w = w' := by
  go_enter Tryz.func119, Tryz.ntmps119
  go_wp2_with (go_at_call 153; refine (iSetHas_any _ _ _).mono ?_; rintro e w' ⟨rfl, rfl⟩)
  go_ret
  exact ⟨rfl, rfl⟩
end
end Go.Proofs.YtomllcclallcdaaGreatDoor
namespace Go.Proofs.YtomllcclallcdaaGreatDoor
section
open Go.RowKit
def stp (k j : Nat) : Int := if 1 ≤ j ∧ j < k then 232792560 / (j : Int) else 0
def stepsA (k : Nat) : Array Value := Array.ofFn (n := 21) fun j => .int .i64 (stp k j.val)
def stepsV : Value := .agg (stepsA 21)
theorem stepsA_size (k : Nat) : (stepsA k).size = 21 := by simp [stepsA]
theorem stepsA_at {w : Int} (h : inR w 1 20 = true) : (stepsA 21)[w.toNat]? = some (.int .i64 (232792560 / w)) := by
  rw [inR_iff] at h
  have h1 : w.toNat < 21 := by omega
  have h2 : 1 ≤ w.toNat := by omega
  have h3 : (w.toNat : Int) = w := by omega
  simp only [stepsA, Array.getElem?_ofFn, h1, dif_pos, stp, h2, and_self, if_true, h3]
theorem stepsA_set {k : Nat} (h : 1 ≤ k) (h2 : k ≤ 20) : (stepsA k).setIfInBounds k (.int .i64 (232792560 / (k : Int))) = stepsA (k + 1) := by
  apply Array.ext_getElem?
  intro j
  rw [Array.getElem?_setIfInBounds]
  by_cases hj : k = j
  · subst hj
    have h3 : k < 21 := by omega
    simp [stepsA, h3, stp, h]
  · rw [if_neg hj]
    simp only [stepsA, Array.getElem?_ofFn]
    by_cases h3 : j < 21
    · simp only [h3, dif_pos, stp]
      have e : (1 ≤ j ∧ j < k) ↔ (1 ≤ j ∧ j < k + 1) := by omega
      simp only [e]
    · simp only [h3, dif_neg, not_false_eq_true]
theorem stepsA_one : stepsA 1 = #[.int .i64 0, .int .i64 0, .int .i64 0, .int .i64 0, .int .i64 0, .int .i64 0, .int .i64 0, .int .i64 0, .int .i64 0, .int .i64 0, .int .i64 0, .int .i64 0, .int .i64 0, .int .i64 0, .int .i64 0, .int .i64 0, .int .i64 0, .int .i64 0, .int .i64 0, .int .i64 0, .int .i64 0] := by
  apply Array.ext
  · simp [stepsA]
  · intro i hi1 hi2
    have h : i < 21 := by simpa [stepsA] using hi1
    have e : (stepsA 1)[i] = .int .i64 0 := by
      simp only [stepsA, Array.getElem_ofFn, stp]
      rw [if_neg (by omega)]
    refine e.trans ?_
    rcases i with _ | _ | _ | _ | _ | _ | _ | _ | _ | _ | _ | _ | _ | _ | _ | _ | _ | _ | _ | _ | _ | i <;> first | rfl | omega
theorem below_setRow {B : Nat} (w : World) (g : Nat) (cs : Array Value) (h : B ≤ g) : Below B w (w.setRow g cs) :=
  ⟨rfl, rfl, rfl, by simp, fun k hk => setRow_other w g k cs (by omega)⟩
set_option maxHeartbeats 1000000 in
theorem iSteps_any (w : World) :
    Calls Tryz.prog 158 #[] w fun e w' => e = .returned stepsV ∧ Below w.heap.size w w' := by
  go_enter Tryz.func158, Tryz.ntmps158
  go_wp2
  refine gen2 (p := fun W => Code.wp _ _ _ _ W) ?_
  intro W b1 s1 z0 z1
  rw [← stepsA_one] at z1
  go_loopw [2] (fun i wr => ∃ k : Nat, 1 ≤ k ∧ k ≤ 21 ∧ i = .int .i64 k ∧ But (w.heap.size + 1) W wr ∧ Blk wr (w.heap.size + 1) 148 (stepsA k)) (fun i _ => 21 - (intOf i).toNat)
  case atStart => exact ⟨1, by omega, by omega, rfl, But.refl_ _ _, z1⟩
  case round =>
    obtain ⟨k, hk1, hk2, rfl, hbu, hbl⟩ := hrel
    by_cases hlt : k ≤ 20
    · have hin := hbl.in_ k (by rw [stepsA_size]; omega)
      have hfr := hbl.frozen k
      obtain ⟨v, hv⟩ := hin
      have hq := step_bd k (by omega) (by omega)
      go_wp2
      go_roundw
      case rel => exact ⟨k + 1, by omega, by omega, by go_num, hbu.trans (But.set_ _ _ _ _), by rw [← stepsA_set hk1 hlt]; exact hbl.set_ k _⟩
      case measure => simp [intOf]; omega
    · obtain rfl : k = 21 := by omega
      clear hk1 hk2
      have hbz : Blk wr w.heap.size 148 _ := hbu.blk z0 (by omega)
      have et : Tryz.prog.underlying 148 = some (.array 21 3) := by kernel_rfl
      have it : (Tryz.prog.info? 148).map (·.size) = some (stepsA 21).size := by rw [stepsA_size]; kernel_rfl
      have hall : (stepsA 21).all (·.oneCell') = true := by kernel_rfl
      go_wp2_with (first | (refine wpList_load_row rfl 148 _ rfl (w.heap.size + 1) rfl 148 (stepsA 21) (0, 0) _ hbl et rfl it ?_) | (refine wpList_store_row rfl 148 _ _ rfl w.heap.size (stepsA 21) rfl rfl 148 _ hbz it (by rw [stepsA_size]; rfl) hall ?_))
      refine bodyPost_ret (v := stepsV) (results_cell_row rfl _ _ w.heap.size 148 (stepsA 21) (0, 0) _ rfl (setRow_heap _ _ _ _ _ _ hbz) et rfl it) rfl ⟨rfl, ?_⟩
      exact (b1.trans (hbu.below (by omega))).trans (below_setRow _ _ _ (Nat.le_refl _))
theorem run_index_row {P : Program} (t e : TypeId) (n : Nat) (d : TypeDesc) (cs : Array Value) (k : IntKind) (i : Int) (v : Value) (h : P.underlying t = some (.array n e)) (hi : 0 ≤ i ∧ i < n)
    (hs : (P.info? e).map (·.size) = some 1) (hu : P.underlying e = some d) (hd : (match d with | .struct _ | .array _ _ => true | _ => false) = false)
    (hc : cs[i.toNat]? = some v) (w : World) : (Instr.index t (.agg cs) (.int k i)).run P w = .ok v w := by
  cases hq : P.info? e with
  | none => simp [hq] at hs
  | some ie =>
    have hs' : ie.size = 1 := by simpa [hq] using hs
    have hagg : (isAgg e).run P w = .ok false w := by
      unfold isAgg
      rw [Sem.run_bind, run_underlying hu w]
      cases d <;> simp_all
    simp [Instr.index, run_underlying h, asIntOf, hi, part, Sem.run_bind, hagg, sizeOf, typeInfo, hq, hs', hc]
set_option maxHeartbeats 400000 in
theorem iVirtualStep_any (u n : Int) (w : World) :
    Calls Tryz.prog 129 #[.int .i64 u, .int .i64 n] w fun e w' => e = .returned (.int .i64 (vstep u n)) ∧ Below w.heap.size w w' := by
  by_cases h : inR n 1 20 = true
  · by_cases h2 : inR u 0 100000000 = true
    · have hb := inR_iff.1 h
      have hb2 := inR_iff.1 h2
      have hs := step_bd n hb.1 hb.2
      have hp := prod_bd hb2.1 hb2.2 (by omega) hs.2
      have hat := stepsA_at h
      have hsz := stepsA_size 21
      go_enter Tryz.func129, Tryz.ntmps129
      go_upto_region 3 with (first | (go_at_call 113; refine (iWeightOk_any _ _).mono ?_; rintro e w' ⟨rfl, rfl⟩; rw [h]) | (go_at_call 108; refine (iInRange_any _ _ _ _).mono ?_; rintro e w' ⟨rfl, rfl⟩; rw [h2]))
      go_wp2_with fail
      refine (iSteps_any _).mono ?_
      rintro e w3 ⟨rfl, hb3⟩
      rw [stepsV]
      generalize stepsA 21 = C at hat hsz ⊢
      have hix : ∀ w, (Instr.index 148 (.agg C) (.int .i64 n)).run Tryz.prog w = .ok (.int .i64 (232792560 / n)) w := by
        exact run_index_row 148 3 21 _ C .i64 n _ (by kernel_rfl) (by omega) (by kernel_rfl) (show _ = some (.int .i64) by kernel_rfl) rfl hat
      clear hat hsz
      go_wp2
      go_ret
      exact ⟨ret_int (by rw [vstep, h, h2]; rfl), hb3⟩
    · have h2' : inR u 0 100000000 = false := by simpa using h2
      go_enter Tryz.func129, Tryz.ntmps129
      go_wp2_with (first | (go_at_call 113; refine (iWeightOk_any _ _).mono ?_; rintro e w' ⟨rfl, rfl⟩; rw [h]) | (go_at_call 108; refine (iInRange_any _ _ _ _).mono ?_; rintro e w' ⟨rfl, rfl⟩; rw [h2']))
      go_ret
      exact ⟨ret_int (by rw [vstep, h, h2']; rfl), Below.refl _ _⟩
  · have h' : inR n 1 20 = false := by simpa using h
    by_cases h2 : inR u 0 100000000 = true
    · go_enter Tryz.func129, Tryz.ntmps129
      go_wp2_with (first | (go_at_call 113; refine (iWeightOk_any _ _).mono ?_; rintro e w' ⟨rfl, rfl⟩; rw [h']) | (go_at_call 108; refine (iInRange_any _ _ _ _).mono ?_; rintro e w' ⟨rfl, rfl⟩; rw [h2]))
      go_ret
      exact ⟨ret_int (by rw [vstep, h']; rfl), Below.refl _ _⟩
    · have h2' : inR u 0 100000000 = false := by simpa using h2
      go_enter Tryz.func129, Tryz.ntmps129
      go_wp2_with (first | (go_at_call 108; refine (iInRange_any _ _ _ _).mono ?_; rintro e w' ⟨rfl, rfl⟩; rw [h2']))
      go_ret
      exact ⟨ret_int (by rw [vstep, h']; rfl), Below.refl _ _⟩
set_option maxHeartbeats 400000 in
theorem iLagMost_any (n : Int) (w : World) :
    Calls Tryz.prog 155 #[.int .i64 n] w fun e w' => e = .returned (.int .i64 (lagM n)) ∧ Below w.heap.size w w' := by
  go_enter Tryz.func155, Tryz.ntmps155
  go_wp2_with (go_at_call 129; refine (iVirtualStep_any _ _ _).mono ?_; rintro e w2 ⟨rfl, hb2⟩)
  go_ret
  exact ⟨rfl, hb2⟩
set_option maxHeartbeats 400000 in
theorem iPlaced_any (v f n : Int) (w : World) :
    Calls Tryz.prog 123 #[.int .i64 v, .int .i64 f, .int .i64 n] w fun e w' => e = .returned (.bool (standW v f n)) ∧ Below w.heap.size w w' := by
  by_cases h : f ≤ v
  · have SN := Lib.hid (show standW v f n = decide (wrap64 (v - f) ≤ lagM n) by rw [standW, decide_eq_true h]; rfl)
    go_enter Tryz.func123, Tryz.ntmps123
    go_wp2_with (go_at_call 155; refine (iLagMost_any _ _).mono ?_; rintro e w2 ⟨rfl, hb2⟩)
    go_ret
    exact ⟨ret_bool SN.out.symm, hb2⟩
  · have SN := Lib.hid (show standW v f n = false by rw [standW, decide_eq_false h]; rfl)
    have h' : v < f := by omega
    clear h
    go_enter Tryz.func123, Tryz.ntmps123
    go_wp2
    go_ret
    exact ⟨ret_bool SN.out.symm, Below.refl _ _⟩
set_option maxHeartbeats 400000 in
theorem iTimeOk_any (A : Option Addr) (L : List Int) (c : Nat) (w : World) (hL : IntS w A L) (hl : L.length ≤ 1048576) :
    Calls Tryz.prog 109 #[.slice A L.length c] w fun e w' => e = .returned (.bool (L.all timeB)) ∧ Below w.heap.size w w' := by
  go_enter Tryz.func109, Tryz.ntmps109
  go_wp2
  go_loop [4, 7] (fun x i => ∃ k : Nat, k ≤ L.length ∧ i = .int .i64 k ∧ (L.take k).all timeB = true) (fun _ i => L.length - (intOf i).toNat)
  case atStart => exact ⟨0, by omega, rfl, rfl⟩
  case round =>
    obtain ⟨k, hk, rfl, hall⟩ := hrel
    have HA := Lib.hid hall
    clear hall
    by_cases hlt : k < L.length
    · obtain ⟨b, o, rfl, hB, c0⟩ := hL.at_ k hlt
      by_cases ht : timeB L[k] = true
      · have HT := Lib.hid ht
        have ht2 : inR L[k] 0 100000000000000000 = true := ht
        clear ht
        go_wp2_with (go_at_call 108; refine (iInRange_any _ _ _ _).mono ?_; rintro e w' ⟨rfl, rfl⟩; rw [ht2])
        go_round
        case rel => exact ⟨k + 1, by omega, by go_num, all_snoc hlt HA.out HT.out⟩
        case measure => simp [intOf]; omega
      · have ht' : timeB L[k] = false := by simpa using ht
        have HT := Lib.hid ht'
        have ht2 : inR L[k] 0 100000000000000000 = false := ht'
        clear ht ht'
        go_wp2_with (go_at_call 108; refine (iInRange_any _ _ _ _).mono ?_; rintro e w' ⟨rfl, rfl⟩; rw [ht2])
        go_ret
        exact ⟨ret_bool (all_not hlt HT.out).symm, Below.refl _ _⟩
    · go_wp2
      go_ret
      exact ⟨ret_bool (by rw [List.take_of_length_le (by omega)] at HA; exact HA.out.symm), Below.refl _ _⟩
end
end Go.Proofs.YtomllcclallcdaaGreatDoor
namespace Go.Proofs.YtomllcclallcdaaGreatDoor
section
open Go.RowKit
def taskIn (M : WorldM) (n : Int) : Bool := inR n 0 (M.tasks.length - 1) && !((tsk M n.toNat).st == 0)
set_option maxHeartbeats 400000 in
theorem iTaskThere_any (p : Nat) (ca : Option Addr) (cc : Nat) (ta : Option Addr) (tc : Nat) (ga : Option Addr) (gc : Nat) (gh : Nat → GH) (M : WorldM) (w : World) (hs : PA w p ca cc ta tc ga gc gh M) (hm : M.tasks.length ≤ 1048576) (n : Int) :
    Calls Tryz.prog 127 #[.pointer (some ⟨p, 0, none⟩), .int .i64 n] w fun e w' => e = .returned (.bool (taskIn M n)) ∧ w = w' := by
  obtain ⟨q0, q1, q2, q3, q4, q5⟩ := hs
  by_cases h : inR n 0 (M.tasks.length - 1) = true
  · obtain ⟨k, hk⟩ : ∃ k : Nat, n = k := ⟨n.toNat, by have := inR_iff.1 h; omega⟩
    subst hk
    have hkl : k < M.tasks.length := by have := inR_iff.1 h; omega
    have TN := Lib.hid (show taskIn M (k : Int) = !((tsk M k).st == 0) by rw [taskIn, h]; rfl)
    obtain ⟨b, o, rfl, hB, d0, d1⟩ := q5.task_ hkl
    clear d1
    go_enter Tryz.func127, Tryz.ntmps127
    go_wp2_with (go_at_call 108; refine (iInRange_any _ _ _ _).mono ?_; rintro e w' ⟨rfl, rfl⟩; rw [h])
    go_ret
    exact ⟨ret_bool (by rw [TN.out]; rfl), rfl⟩
  · have h' : inR n 0 (M.tasks.length - 1) = false := by simpa using h
    have TN := Lib.hid (show taskIn M n = false by rw [taskIn, h']; rfl)
    clear h
    go_enter Tryz.func127, Tryz.ntmps127
    go_wp2_with (go_at_call 108; refine (iInRange_any _ _ _ _).mono ?_; rintro e w' ⟨rfl, rfl⟩; rw [h'])
    go_ret
    exact ⟨ret_bool TN.out.symm, rfl⟩
set_option maxHeartbeats 400000 in
theorem iGroupUsed_any (ca ta ga : Option Addr) (gc : Nat) (gh : Nat → GH) (M : WorldM) (w : World) (hs : WA w ca ta ga gh M) (hm : M.groups.length ≤ 1048576) (n : Int) :
    Calls Tryz.prog 116 #[.slice ga M.groups.length gc, .int .i64 n] w fun e w' => e = .returned (.bool (usedI M n)) ∧ w = w' := by
  by_cases h : inR n 0 (M.groups.length - 1) = true
  · obtain ⟨k, hk⟩ : ∃ k : Nat, n = k := ⟨n.toNat, by have := inR_iff.1 h; omega⟩
    subst hk
    have hkl : k < M.groups.length := by have := inR_iff.1 h; omega
    have TN := Lib.hid (show usedI M (k : Int) = (grp M k).used by simp [usedI, hkl])
    obtain ⟨b, o, rfl, hB, d0, d1⟩ := hs.group_ hkl
    clear d1
    go_enter Tryz.func116, Tryz.ntmps116
    go_wp2_with (go_at_call 108; refine (iInRange_any _ _ _ _).mono ?_; rintro e w' ⟨rfl, rfl⟩; rw [h])
    go_ret
    exact ⟨ret_bool TN.out.symm, rfl⟩
  · have h' : inR n 0 (M.groups.length - 1) = false := by simpa using h
    have TN := Lib.hid (show usedI M n = false by
      rw [inR_iff] at h
      simp only [usedI, Bool.and_eq_false_iff, decide_eq_false_iff_not]
      left
      omega)
    clear h
    go_enter Tryz.func116, Tryz.ntmps116
    go_wp2_with (go_at_call 108; refine (iInRange_any _ _ _ _).mono ?_; rintro e w' ⟨rfl, rfl⟩; rw [h'])
    go_ret
    exact ⟨ret_bool TN.out.symm, rfl⟩
theorem bits_or {k : Nat} (hk : k < 4) {u : Int} (h0 : 0 ≤ u) (h1 : u < 2 ^ k) : bits BinOp.or IntKind.i64 u (2 ^ k) = u + 2 ^ k := by
  have h2 : k = 0 ∨ k = 1 ∨ k = 2 ∨ k = 3 := by omega
  have h3 : (2 : Int) ^ k ≤ 8 := by rcases h2 with rfl | rfl | rfl | rfl <;> decide
  have h4 : u = 0 ∨ u = 1 ∨ u = 2 ∨ u = 3 ∨ u = 4 ∨ u = 5 ∨ u = 6 ∨ u = 7 := by omega
  rcases h2 with rfl | rfl | rfl | rfl <;> rcases h4 with rfl | rfl | rfl | rfl | rfl | rfl | rfl | rfl <;> first | decide | (simp at h1)
set_option maxHeartbeats 1000000 in
theorem iOnline_any (p : Nat) (ca : Option Addr) (cc : Nat) (ta : Option Addr) (tc : Nat) (ga : Option Addr) (gc : Nat) (gh : Nat → GH) (M : WorldM) (w : World) (hs : PA w p ca cc ta tc ga gc gh M) (hm : M.cpus.length ≤ 4) :
    Calls Tryz.prog 110 #[.pointer (some ⟨p, 0, none⟩)] w fun e w' => e = .returned (.int .i64 (ups M)) ∧ Below w.heap.size w w' := by
  obtain ⟨q0, q1, q2, q3, q4, q5⟩ := hs
  go_enter Tryz.func110, Tryz.ntmps110
  go_wp2
  go_loopw [3, 4, 5, 11] (fun m _ _ i wr => ∃ k : Nat, k ≤ M.cpus.length ∧ i = .int .i64 k ∧ m = .int .i64 (upsTo M k) ∧ Below w.heap.size w wr) (fun _ _ _ i _ => M.cpus.length - (intOf i).toNat)
  case atStart => exact ⟨0, by omega, rfl, rfl, Below.refl _ _⟩
  case round =>
    obtain ⟨k, hk, rfl, rfl, hb⟩ := hrel
    have hu := upsTo_bd M k (by omega)
    by_cases hlt : k < M.cpus.length
    · have hp := pow_bd (show k < 4 by omega)
      obtain ⟨b, o, rfl, hB, c0, c1, c2, c3, c4⟩ := (q5.keep hb).cpu_ hlt
      have hor := bits_or (show k < 4 by omega) hu.1 hu.2
      by_cases hup : (cpo M k).up = true
      · rw [hup] at c0
        have US := Lib.hid (show upsTo M (k + 1) = upsTo M k + 2 ^ k by simp [upsTo, hup])
        clear hup
        go_wp2
        go_roundw
        case rel => exact ⟨k + 1, by omega, by go_num, val_eq (by rw [US.out]), hb.alloc hb.size _⟩
        case measure => simp [intOf]; omega
      · have hup' : (cpo M k).up = false := by simpa using hup
        rw [hup'] at c0
        have US := Lib.hid (show upsTo M (k + 1) = upsTo M k by simp [upsTo, hup'])
        clear hup hup'
        go_wp2
        go_roundw
        case rel => exact ⟨k + 1, by omega, by go_num, val_eq (by rw [US.out]), hb.alloc hb.size _⟩
        case measure => simp [intOf]; omega
    · go_wp2
      go_ret
      exact ⟨ret_int (by rw [ups, show k = M.cpus.length by omega]), hb⟩
theorem mand_comm (a b : Int) : mand a b = mand b a := by
  unfold mand
  rw [Bool.and_comm, Nat.and_comm]
theorem mand_range (a b : Int) : inR (mand a b) 0 15 = true := inR_iff.2 (mand_bd a b)
theorem mand_assoc (a b c : Int) : mand (mand a b) c = mand a (mand b c) := by
  by_cases ha : inR a 0 15 = true
  · by_cases hb : inR b 0 15 = true
    · by_cases hc : inR c 0 15 = true
      · have e1 : mand a b = ((a.toNat &&& b.toNat : Nat) : Int) := by simp [mand, ha, hb]
        have e2 : mand b c = ((b.toNat &&& c.toNat : Nat) : Int) := by simp [mand, hb, hc]
        have r1 := mand_range a b
        have r2 := mand_range b c
        rw [e1] at r1
        rw [e2] at r2
        rw [e1, e2, mand, mand, r1, r2, ha, hc]
        simp [Nat.and_assoc]
      · simp [mand, hc]
    · simp [mand, hb]
  · simp [mand, ha]
theorem pinsL_and (M : WorldM) (u : Int) : ∀ (l : List Nat) (x : Int), pinsL M (mand u x) l = mand (pinsL M x l) u
  | [], x => by simp [pinsL, mand_comm]
  | p :: l, x => by
    show pinsL M (mand (mand u x) (grp M p).cpus) l = mand (pinsL M (mand x (grp M p).cpus) l) u
    rw [mand_assoc, pinsL_and M u l]
theorem pinsL_ch (M : WorldM) (g : Nat) : pinsL M (ups M) (ch M g) = mand (pins M g) (ups M) := by
  rw [ch_cons, pins, ← pinsL_and]
  rfl
set_option maxHeartbeats 1000000 in
theorem iPins_any (p : Nat) (ca : Option Addr) (cc : Nat) (ta : Option Addr) (tc : Nat) (ga : Option Addr) (gc : Nat) (gh : Nat → GH) (M : WorldM) (w : World) (hs : PA w p ca cc ta tc ga gc gh M) (hT : Tree M) (hm : M.cpus.length ≤ 4) (g : Nat) (hg : g < 8) (hu : (grp M g).used = true) :
    Calls Tryz.prog 167 #[.pointer (some ⟨p, 0, none⟩), .int .i64 g] w fun e w' => e = .returned (.int .i64 (mand (pins M g) (ups M))) ∧ Below w.heap.size w w' := by
  have PN := Lib.hid (pinsL_ch M g)
  have HL := Lib.hid hT.len
  go_enter Tryz.func167, Tryz.ntmps167
  go_wp2_with (go_at_call 110; refine (iOnline_any p ca cc ta tc ga gc gh M _ hs hm).mono ?_; rintro e w2 ⟨rfl, hb⟩)
  obtain ⟨q0, q1, q2, q3, q4, q5⟩ := hs.keep hb
  go_loop [1, 5] (fun i m => ∃ (k : Nat) (u : Int), k < 8 ∧ (grp M k).used = true ∧ i = .int .i64 k ∧ m = .int .i64 u ∧ pinsL M u (ch M k) = mand (pins M g) (ups M)) (fun i _ => dp M (intOf i).toNat)
  case atStart => exact ⟨g, _, hg, hu, rfl, rfl, PN.out⟩
  case round =>
    obtain ⟨k, u, hk, huk, rfl, rfl, he⟩ := hrel
    have HE := Lib.hid he
    have hlk : k < M.groups.length := by have := HL.out; omega
    obtain ⟨b, o, rfl, hB, f0, f1, f2, f3, f4, f5⟩ := q5.group_ hlk
    by_cases h0 : k = 0
    · subst h0
      simp only [Nat.zero_mul, Nat.add_zero] at f4
      clear he huk f0 f1 f2 f3 f5
      go_wp2_with (go_at_call 168; refine (iMaskAnd_any _ _ _).mono ?_; rintro e w' ⟨rfl, rfl⟩)
      go_ret
      exact ⟨ret_int (by rw [← HE.out, ch_zero]; rfl), hb⟩
    · obtain ⟨hp1, hp2, hp3, hp4⟩ := hT.up k hk huk h0
      have hst := Lib.hid (hT.ch_step hk huk h0)
      have HP3 := Lib.hid hp3
      have HP4 := Lib.hid hp4
      rw [hp1] at f1
      have hne : ((k : Int) != 0) = true := by simpa using h0
      clear he huk f0 f2 f3 f5 hp1 hp3 hp4 hu
      go_wp2_with (go_at_call 168; refine (iMaskAnd_any _ _ _).mono ?_; rintro e w' ⟨rfl, rfl⟩)
      go_round
      case rel => exact ⟨par M k, _, hp2, HP3.out, rfl, rfl, by rw [← HE.out, hst.out]; rfl⟩
      case measure => simp [intOf]; have := HP4.out; omega
set_option maxHeartbeats 1000000 in
theorem iAllowedIn_any (p : Nat) (ca : Option Addr) (cc : Nat) (ta : Option Addr) (tc : Nat) (ga : Option Addr) (gc : Nat) (gh : Nat → GH) (M : WorldM) (w : World) (hs : PA w p ca cc ta tc ga gc gh M) (hT : Tree M) (hm : M.cpus.length ≤ 4) (mask : Int) (g : Nat) (hg : g < 8) (hu : (grp M g).used = true) :
    Calls Tryz.prog 154 #[.pointer (some ⟨p, 0, none⟩), .int .i64 mask, .int .i64 g] w fun e w' => e = .returned (.int .i64 (whereM M g mask)) ∧ Below w.heap.size w w' := by
  go_enter Tryz.func154, Tryz.ntmps154
  by_cases h1 : mand mask (mand (pins M g) (ups M)) = 0
  · have WN1 := Lib.hid (show whereM M g mask = if mand (pins M g) (ups M) ≠ 0 then mand (pins M g) (ups M) else ups M by rw [whereM, if_neg (fun h => h h1)])
    by_cases h2 : mand (pins M g) (ups M) = 0
    · have WN2 := Lib.hid (show whereM M g mask = ups M by rw [WN1.out, if_neg (fun h => h h2)])
      have h1' : (mand mask 0 != 0) = false := by rw [h2] at h1; rw [h1]; rfl
      have H2 := Lib.hid h2
      clear h1 h2
      go_wp2_with (first | (go_at_call 167; refine (iPins_any p ca cc ta tc ga gc gh M _ hs hT hm g hg hu).mono ?_; rintro e w2 ⟨rfl, hb2⟩; rw [H2.out]) | (go_at_call 168; refine (iMaskAnd_any _ _ _).mono ?_; rintro e w' ⟨rfl, rfl⟩) | (go_at_call 110; refine (iOnline_any p ca cc ta tc ga gc gh M _ (hs.keep hb2) hm).mono ?_; rintro e w3 ⟨rfl, hb3⟩))
      go_ret
      exact ⟨ret_int WN2.out.symm, hb2.andThen hb3⟩
    · have WN2 := Lib.hid (show whereM M g mask = mand (pins M g) (ups M) by rw [WN1.out, if_pos h2])
      have h1' : (mand mask (mand (pins M g) (ups M)) != 0) = false := by rw [h1]; rfl
      have h2' : (mand (pins M g) (ups M) != 0) = true := by simpa using h2
      clear h1 h2
      go_wp2_with (first | (go_at_call 167; refine (iPins_any p ca cc ta tc ga gc gh M _ hs hT hm g hg hu).mono ?_; rintro e w2 ⟨rfl, hb2⟩) | (go_at_call 168; refine (iMaskAnd_any _ _ _).mono ?_; rintro e w' ⟨rfl, rfl⟩))
      go_ret
      exact ⟨ret_int WN2.out.symm, hb2⟩
  · have WN2 := Lib.hid (show whereM M g mask = mand mask (mand (pins M g) (ups M)) by rw [whereM, if_pos h1])
    have h1' : (mand mask (mand (pins M g) (ups M)) != 0) = true := by simpa using h1
    clear h1
    go_wp2_with (first | (go_at_call 167; refine (iPins_any p ca cc ta tc ga gc gh M _ hs hT hm g hg hu).mono ?_; rintro e w2 ⟨rfl, hb2⟩) | (go_at_call 168; refine (iMaskAnd_any _ _ _).mono ?_; rintro e w' ⟨rfl, rfl⟩))
    go_ret
    exact ⟨ret_int WN2.out.symm, hb2⟩
set_option maxRecDepth 100000 in
set_option maxHeartbeats 1000000 in
theorem iAllowed_any (p : Nat) (ca : Option Addr) (cc : Nat) (ta : Option Addr) (tc : Nat) (ga : Option Addr) (gc : Nat) (gh : Nat → GH) (M : WorldM) (w : World) (hs : PA w p ca cc ta tc ga gc gh M) (hT : Tree M) (hm : M.cpus.length ≤ 4) (t g : Nat) (ht : t < M.tasks.length) (hgr : (tsk M t).gr = g) (hg : g < 8) (hu : (grp M g).used = true) :
    Calls Tryz.prog 120 #[.pointer (some ⟨p, 0, none⟩), .int .i64 t] w fun e w' => e = .returned (.int .i64 (whereM M g (tsk M t).mask)) ∧ Below w.heap.size w w' := by
  have HS := Lib.hid hs
  obtain ⟨q0, q1, q2, q3, q4, q5⟩ := hs
  obtain ⟨b, o, rfl, hB, c0, c1, c2, c3, c4, c5, c6, c7, c8⟩ := q5.task_ ht
  rw [hgr] at c1
  clear c0 c2 c3 c5 c6 c7 c8
  go_enter Tryz.func120, Tryz.ntmps120
  go_wp2_with fail
  go_still_tail 17, (by kernel_rfl)
  change wpList _ _ _ _ _ w.drew
  have hb0 : Below w.heap.size w w.drew := ⟨rfl, rfl, rfl, Nat.le_refl _, fun _ _ => rfl⟩
  have hs2 := HS.out.keep hb0
  generalize w.drew = w2 at *
  go_wp2_with (go_at_call 154; refine (iAllowedIn_any p ca cc _ tc ga gc gh M _ hs2 hT hm _ g hg hu).mono ?_; rintro e w3 ⟨rfl, hb3⟩)
  go_ret
  exact ⟨rfl, hb0.andThen hb3⟩
end
end Go.Proofs.YtomllcclallcdaaGreatDoor
namespace Go.Proofs.YtomllcclallcdaaGreatDoor
section
open Go.RowKit
set_option maxHeartbeats 400000 in
theorem sl1In_any (n a b : Int) (w : World) :
    Calls Tryz.prog 27 #[.int .i64 n, .int .i64 a, .int .i64 b] w fun e w' => e = .returned (.bool (inR n a b)) ∧ w = w' := by
  go_enter Tryz.func27, Tryz.ntmps27
  go_wp2
  all_goals go_ret
  all_goals exact ⟨ret_bool (by simp [inR]; try omega), rfl⟩
set_option maxHeartbeats 400000 in
theorem sl1Weight_any (n : Int) (w : World) :
    Calls Tryz.prog 87 #[.int .i64 n] w fun e w' => e = .returned (.bool (inR n 1 20)) ∧ w = w' := by
  go_enter Tryz.func87, Tryz.ntmps87
  go_wp2_with (go_at_call 27; refine (sl1In_any _ _ _ _).mono ?_; rintro e w' ⟨rfl, rfl⟩)
  go_ret
  exact ⟨rfl, rfl⟩
set_option maxHeartbeats 400000 in
theorem sl4Time_any (n : Int) (w : World) :
    Calls Tryz.prog 89 #[.int .i64 n] w fun e w' => e = .returned (.bool (timeB n)) ∧ w = w' := by
  go_enter Tryz.func89, Tryz.ntmps89
  go_wp2_with (go_at_call 27; refine (sl1In_any _ _ _ _).mono ?_; rintro e w' ⟨rfl, rfl⟩)
  go_ret
  exact ⟨rfl, rfl⟩
set_option maxHeartbeats 400000 in
theorem sMaskOk_any (n : Int) (w : World) :
    Calls Tryz.prog 88 #[.int .i64 n] w fun e w' => e = .returned (.bool (inR n 0 15)) ∧ w = w' := by
  go_enter Tryz.func88, Tryz.ntmps88
  go_wp2_with (go_at_call 27; refine (sl1In_any _ _ _ _).mono ?_; rintro e w' ⟨rfl, rfl⟩)
  go_ret
  exact ⟨rfl, rfl⟩
set_option maxHeartbeats 400000 in
theorem sWeightOf_any (n : Int) (w : World) :
    Calls Tryz.prog 91 #[.int .i64 n] w fun e w' => e = .returned (.int .i64 (wof n)) ∧ w = w' := by
  by_cases h : inR n (-10) 9 = true
  · have hb := inR_iff.1 h
    go_enter Tryz.func91, Tryz.ntmps91
    go_wp2_with (go_at_call 27; refine (sl1In_any _ _ _ _).mono ?_; rintro e w' ⟨rfl, rfl⟩; rw [h])
    go_ret
    exact ⟨ret_int (by rw [wof, if_pos h]), rfl⟩
  · have h' : inR n (-10) 9 = false := by simpa using h
    go_enter Tryz.func91, Tryz.ntmps91
    go_wp2_with (go_at_call 27; refine (sl1In_any _ _ _ _).mono ?_; rintro e w' ⟨rfl, rfl⟩; rw [h'])
    go_ret
    exact ⟨ret_int (by rw [wof, if_neg h]), rfl⟩
set_option maxHeartbeats 400000 in
theorem sVirtualStep_any (u n : Int) (w : World) :
    Calls Tryz.prog 140 #[.int .i64 u, .int .i64 n] w fun e w' => e = .returned (.int .i64 (vstep u n)) ∧ w = w' := by
  by_cases h : inR n 1 20 = true
  · by_cases h2 : inR u 0 100000000 = true
    · have hb := inR_iff.1 h
      have hb2 := inR_iff.1 h2
      have hs := step_bd n hb.1 hb.2
      have hp := prod_bd hb2.1 hb2.2 (by omega) hs.2
      go_enter Tryz.func140, Tryz.ntmps140
      go_wp2_with (first | (go_at_call 87; refine (sl1Weight_any _ _).mono ?_; rintro e w' ⟨rfl, rfl⟩; rw [h]) | (go_at_call 27; refine (sl1In_any _ _ _ _).mono ?_; rintro e w' ⟨rfl, rfl⟩; rw [h2]))
      go_ret
      exact ⟨ret_int (by rw [vstep, h, h2]; rfl), rfl⟩
    · have h2' : inR u 0 100000000 = false := by simpa using h2
      go_enter Tryz.func140, Tryz.ntmps140
      go_wp2_with (first | (go_at_call 87; refine (sl1Weight_any _ _).mono ?_; rintro e w' ⟨rfl, rfl⟩; rw [h]) | (go_at_call 27; refine (sl1In_any _ _ _ _).mono ?_; rintro e w' ⟨rfl, rfl⟩; rw [h2']))
      go_ret
      exact ⟨ret_int (by rw [vstep, h, h2']; rfl), rfl⟩
  · have h' : inR n 1 20 = false := by simpa using h
    go_enter Tryz.func140, Tryz.ntmps140
    go_wp2_with (first | (go_at_call 87; refine (sl1Weight_any _ _).mono ?_; rintro e w' ⟨rfl, rfl⟩; rw [h']))
    go_ret
    exact ⟨ret_int (by rw [vstep, h']; rfl), rfl⟩
set_option maxHeartbeats 400000 in
theorem sLagMost_any (n : Int) (w : World) :
    Calls Tryz.prog 138 #[.int .i64 n] w fun e w' => e = .returned (.int .i64 (lagM n)) ∧ w = w' := by
  go_enter Tryz.func138, Tryz.ntmps138
  go_wp2_with (go_at_call 140; refine (sVirtualStep_any _ _ _).mono ?_; rintro e w' ⟨rfl, rfl⟩)
  go_ret
  exact ⟨rfl, rfl⟩
theorem mhas_tmod {m c : Int} (h : inR m 0 15 = true) (h2 : inR c 0 3 = true) : ((m / 2 ^ c.toNat).tmod 2 == 1) = mhas m c := by
  have hb := inR_iff.1 h
  have h3 : (0 : Int) ≤ 2 ^ c.toNat := Int.pow_nonneg (by omega)
  rw [mhas, h, h2, Int.tmod_eq_emod_of_nonneg (Int.ediv_nonneg hb.1 h3)]
  rfl
set_option maxHeartbeats 400000 in
theorem sMaskHas_any (m c : Int) (w : World) :
    Calls Tryz.prog 92 #[.int .i64 m, .int .i64 c] w fun e w' => e = .returned (.bool (mhas m c)) ∧ w = w' := by
  by_cases h : inR m 0 15 = true
  · by_cases h2 : inR c 0 3 = true
    · obtain ⟨hb0, hb1⟩ := inR_iff.1 h
      obtain ⟨hb2, hb3⟩ := inR_iff.1 h2
      go_enter Tryz.func92, Tryz.ntmps92
      go_wp2_with (first | (go_at_call 88; refine (sMaskOk_any _ _).mono ?_; rintro e w' ⟨rfl, rfl⟩; rw [h]) | (go_at_call 27; refine (sl1In_any _ _ _ _).mono ?_; rintro e w' ⟨rfl, rfl⟩; rw [h2]))
      go_ret
      exact ⟨ret_bool (mhas_tmod h h2), rfl⟩
    · have h2' : inR c 0 3 = false := by simpa using h2
      go_enter Tryz.func92, Tryz.ntmps92
      go_wp2_with (first | (go_at_call 88; refine (sMaskOk_any _ _).mono ?_; rintro e w' ⟨rfl, rfl⟩; rw [h]) | (go_at_call 27; refine (sl1In_any _ _ _ _).mono ?_; rintro e w' ⟨rfl, rfl⟩; rw [h2']))
      go_ret
      exact ⟨ret_bool (by rw [mhas, h, h2']; rfl), rfl⟩
  · have h' : inR m 0 15 = false := by simpa using h
    go_enter Tryz.func92, Tryz.ntmps92
    go_wp2_with (first | (go_at_call 88; refine (sMaskOk_any _ _).mono ?_; rintro e w' ⟨rfl, rfl⟩; rw [h']))
    go_ret
    exact ⟨ret_bool (by rw [mhas, h']; rfl), rfl⟩
set_option maxHeartbeats 1000000 in
theorem sMaskAnd_any (a b : Int) (w : World) :
    Calls Tryz.prog 136 #[.int .i64 a, .int .i64 b] w fun e w' => e = .returned (.int .i64 (mand a b)) ∧ w = w' := by
  by_cases h : inR a 0 15 = true
  · by_cases h2 : inR b 0 15 = true
    · go_enter Tryz.func136, Tryz.ntmps136
      go_wp2_with fail
      refine (sMaskOk_any _ _).mono ?_
      rintro e w' ⟨rfl, rfl⟩
      rw [h]
      go_wp2_with fail
      refine (sMaskOk_any _ _).mono ?_
      rintro e w' ⟨rfl, rfl⟩
      rw [h2]
      go_wp2
      go_loop [5, 6] (fun m i => ∃ k : Nat, k ≤ 4 ∧ i = .int .i64 k ∧ m = .int .i64 (mandTo a b k)) (fun _ i => 4 - (intOf i).toNat)
      case atStart => exact ⟨0, by omega, rfl, rfl⟩
      case round =>
        obtain ⟨k, hk, rfl, rfl⟩ := hrel
        have hm := mandTo_bd a b k hk
        by_cases hlt : k < 4
        · have hp := pow_bd hlt
          go_wp2_with fail
          refine (sMaskHas_any _ _ _).mono ?_
          rintro e w' ⟨rfl, rfl⟩
          go_wp2_with (go_at_call 92; refine (sMaskHas_any b k _).mono ?_; rintro e w' ⟨rfl, rfl⟩)
          all_goals
            go_round
            case rel => exact ⟨k + 1, by omega, by go_num, val_eq (by simp [mandTo, *])⟩
            case measure => simp [intOf]; omega
        · go_wp2
          go_ret
          exact ⟨ret_int (by rw [show k = 4 by omega]; exact mand_to a b h h2), rfl⟩
    · have h2' : inR b 0 15 = false := by simpa using h2
      go_enter Tryz.func136, Tryz.ntmps136
      go_wp2_with fail
      refine (sMaskOk_any _ _).mono ?_
      rintro e w' ⟨rfl, rfl⟩
      rw [h]
      go_wp2_with fail
      refine (sMaskOk_any _ _).mono ?_
      rintro e w' ⟨rfl, rfl⟩
      rw [h2']
      go_wp2
      go_ret
      exact ⟨ret_int (by rw [mand, h, h2']; rfl), rfl⟩
  · have h' : inR a 0 15 = false := by simpa using h
    go_enter Tryz.func136, Tryz.ntmps136
    go_wp2_with fail
    refine (sMaskOk_any _ _).mono ?_
    rintro e w' ⟨rfl, rfl⟩
    rw [h']
    go_wp2
    go_ret
    exact ⟨ret_int (by rw [mand, h']; rfl), rfl⟩
end
end Go.Proofs.YtomllcclallcdaaGreatDoor
namespace Go.Proofs.YtomllcclallcdaaGreatDoor
section
open Go.RowKit
set_option maxHeartbeats 1000000 in
theorem sl8Ups_any (ca : Option Addr) (cc : Nat) (ta : Option Addr) (tc : Nat) (ga : Option Addr) (gc : Nat) (gh : Nat → GH) (M : WorldM) (w : World) (hs : WA w ca ta ga gh M) (hc : M.cpus.length ≤ 4) :
    Calls Tryz.prog 57 #[.agg #[.int .i64 M.now, .slice ca M.cpus.length cc, .slice ta M.tasks.length tc, .slice ga M.groups.length gc]] w fun e w' => e = .returned (.int .i64 (ups M)) ∧ Below w.heap.size w w' := by
  go_enter Tryz.func57, Tryz.ntmps57
  go_wp2
  refine PA.gen (P := fun W => Code.wp _ _ _ _ W) hs ?_
  intro W b1 s1 pw
  obtain ⟨q0, q1, q2, q3, q4, q5⟩ := pw
  go_loop [3, 4] (fun m i => ∃ k : Nat, k ≤ M.cpus.length ∧ i = .int .i64 k ∧ m = .int .i64 (upsTo M k)) (fun _ i => M.cpus.length - (intOf i).toNat)
  case atStart => exact ⟨0, by omega, rfl, rfl⟩
  case round =>
    obtain ⟨k, hk, rfl, rfl⟩ := hrel
    by_cases hlt : k < M.cpus.length
    · obtain ⟨b, o, rfl, hB, c0, c1, c2, c3, c4⟩ := q5.cpu_ hlt
      have hp := pow_bd (show k < 4 by omega)
      have hu := upsTo_bd M k (by omega)
      go_wp2
      · have hup : (cpo M k).up = true := by assumption
        go_round
        case rel => exact ⟨k + 1, by omega, by go_num, val_eq (by simp [upsTo, hup])⟩
        case measure => simp [intOf]; omega
      · have hup : (cpo M k).up = false := by assumption
        go_round
        case rel => exact ⟨k + 1, by omega, by go_num, val_eq (by simp [upsTo, hup])⟩
        case measure => simp [intOf]; omega
    · go_wp2
      go_ret
      exact ⟨ret_int (by rw [show k = M.cpus.length by omega]; rfl), b1⟩
set_option maxHeartbeats 1000000 in
theorem sl8Pins_any (ca : Option Addr) (cc : Nat) (ta : Option Addr) (tc : Nat) (ga : Option Addr) (gc : Nat) (gh : Nat → GH) (M : WorldM) (w : World) (hs : WA w ca ta ga gh M) (hT : Tree M) (g : Nat) (hg : g < 8) (hu : (grp M g).used = true) :
    Calls Tryz.prog 137 #[.agg #[.int .i64 M.now, .slice ca M.cpus.length cc, .slice ta M.tasks.length tc, .slice ga M.groups.length gc], .int .i64 g] w fun e w' => e = .returned (.int .i64 (pins M g)) ∧ Below w.heap.size w w' := by
  have hlen := hT.len
  obtain ⟨b, o, rfl, hB, c0, c1, c2, c3, c4, c5, c6, c7, c8, c9, c10, c11, c12, c13⟩ := hs.group_ (show g < M.groups.length by omega)
  have HL := Lib.hid hlen
  have hge : 8 ≤ M.groups.length := by omega
  clear hlen
  go_enter Tryz.func137, Tryz.ntmps137
  go_wp2
  refine PA.gen (P := fun W => Code.wp _ _ _ _ W) hs ?_
  intro W b1 s1 pw
  obtain ⟨q0, q1, q2, q3, q4, q5⟩ := pw
  clear c0 c1 c2 c3 c4 c5 c6 c7 c8 c9 c10 c11 c12 c13
  go_loop [1, 5] (fun i m => ∃ (k : Nat) (m' : Int), k < 8 ∧ (grp M k).used = true ∧ i = .int .i64 k ∧ m = .int .i64 m' ∧ pinsL M m' (ch M k).tail = pins M g) (fun i _ => dp M (intOf i).toNat)
  case atStart => exact ⟨g, _, hg, hu, rfl, rfl, rfl⟩
  case round =>
    obtain ⟨k, m', hk, huk, rfl, rfl, hpin⟩ := hrel
    have HP := Lib.hid hpin
    have HU := Lib.hid huk
    clear hpin huk
    by_cases h0 : k = 0
    · subst h0
      go_wp2
      go_ret
      refine ⟨ret_int ?_, b1⟩
      rw [← HP.out, ch_zero]; rfl
    · have hup := hT.up k hk HU.out h0
      obtain ⟨hp1, hp2, hp3, hp4⟩ := hup
      have hst := Lib.hid (hT.ch_step hk HU.out h0)
      have HP1 := Lib.hid hp1
      have HP3 := Lib.hid hp3
      have HP4 := Lib.hid hp4
      obtain ⟨b2, o2, e2, hB2, d0, d1, d2⟩ := q5.group_ (show k < M.groups.length by omega)
      rw [hp1] at d1
      clear hp1 hp3 hp4 d2
      obtain ⟨b3, o3, e3, hB3, f0, f1, f2, f3, f4, f5⟩ := q5.group_ (show par M k < M.groups.length by omega)
      have e4 : b2 = b ∧ o2 = o := by simpa [eq_comm] using e2
      have e5 : b3 = b ∧ o3 = o := by simpa [eq_comm] using e3
      obtain ⟨rfl, rfl⟩ := e4
      obtain ⟨rfl, rfl⟩ := e5
      clear e2 e3 f5
      have hne : ((k : Int) == 0) = false := by simpa using h0
      have hne2 : ((k : Int) != 0) = true := by simpa using h0
      go_wp2_with (go_at_call 136; refine (sMaskAnd_any _ _ _).mono ?_; rintro e w' ⟨rfl, rfl⟩)
      go_round
      case rel => exact ⟨par M k, _, hp2, HP3.out, rfl, rfl, by rw [← HP.out, hst.out, List.tail_cons, ch_cons M (par M k)]; rfl⟩
      case measure => simp [intOf]; have := HP4.out; omega
set_option maxHeartbeats 1000000 in
theorem sl8Where_any (ca : Option Addr) (cc : Nat) (ta : Option Addr) (tc : Nat) (ga : Option Addr) (gc : Nat) (gh : Nat → GH) (M : WorldM) (w : World) (hs : WA w ca ta ga gh M) (hT : Tree M) (hc : M.cpus.length ≤ 4) (g : Nat) (hg : g < 8) (hu : (grp M g).used = true) (mask : Int) :
    Calls Tryz.prog 93 #[.agg #[.int .i64 M.now, .slice ca M.cpus.length cc, .slice ta M.tasks.length tc, .slice ga M.groups.length gc], .int .i64 g, .int .i64 mask] w fun e w' => e = .returned (.int .i64 (whereM M g mask)) ∧ Below w.heap.size w w' := by
  go_enter Tryz.func93, Tryz.ntmps93
  go_wp2_with fail
  refine PA.gen (P := fun W => Calls _ _ _ W _) hs ?_
  intro W b1 s1 pw
  refine (sl8Ups_any ca cc ta tc ga gc gh M _ pw.wa hc).mono ?_
  rintro e w1 ⟨rfl, hb1⟩
  have b2 := b1.andThen hb1
  have pw1 := pw.keep hb1
  obtain ⟨q0, q1, q2, q3, q4, q5⟩ := pw1
  go_wp2_with fail
  refine (sl8Pins_any ca cc ta tc ga gc gh M _ q5 hT g hg hu).mono ?_
  rintro e w2 ⟨rfl, hb2⟩
  have b3 := b2.andThen hb2
  go_wp2_with fail
  refine (sMaskAnd_any _ _ _).mono ?_
  rintro e w3 ⟨rfl, rfl⟩
  go_wp2_with fail
  refine (sMaskAnd_any _ _ _).mono ?_
  rintro e w3 ⟨rfl, rfl⟩
  by_cases h1 : mand mask (mand (pins M g) (ups M)) = 0
  · by_cases h2 : mand (pins M g) (ups M) = 0
    · have EN := Lib.hid (show whereM M g mask = ups M by rw [whereM, if_neg (by simp [h1]), if_neg (by simp [h2])])
      have h1' : (mand mask (mand (pins M g) (ups M)) != 0) = false := by simp [h1]
      have h2' : (mand (pins M g) (ups M) != 0) = false := by simp [h2]
      clear h1 h2
      go_wp2
      go_ret
      exact ⟨ret_int EN.out.symm, b3⟩
    · have EN := Lib.hid (show whereM M g mask = mand (pins M g) (ups M) by rw [whereM, if_neg (by simp [h1]), if_pos h2])
      have h1' : (mand mask (mand (pins M g) (ups M)) != 0) = false := by simp [h1]
      have h2' : (mand (pins M g) (ups M) != 0) = true := by simp [h2]
      clear h1 h2
      go_wp2
      go_ret
      exact ⟨ret_int EN.out.symm, b3⟩
  · have EN := Lib.hid (show whereM M g mask = mand mask (mand (pins M g) (ups M)) by rw [whereM, if_pos h1])
    have h1' : (mand mask (mand (pins M g) (ups M)) != 0) = true := by simp [h1]
    clear h1
    go_wp2
    go_ret
    exact ⟨ret_int EN.out.symm, b3⟩
set_option maxHeartbeats 1000000 in
theorem sl8Queued_any (ca : Option Addr) (cc : Nat) (ta : Option Addr) (tc : Nat) (ga : Option Addr) (gc : Nat) (gh : Nat → GH) (M : WorldM) (w : World) (hs : WA w ca ta ga gh M) (g c : Nat) (hg : g < M.groups.length) (hc : c < (grp M g).shelves.length) :
    Calls Tryz.prog 139 #[.agg #[.int .i64 M.now, .slice ca M.cpus.length cc, .slice ta M.tasks.length tc, .slice ga M.groups.length gc], .int .i64 g, .int .i64 c] w fun e w' => e = .returned (.bool (she M g c).on) ∧ Below w.heap.size w w' := by
  obtain ⟨b, o, rfl, hB, c0, c1, c2, c3, c4, c5, c6, c7, c8, c9, c10, c11, c12, c13⟩ := hs.group_ hg
  obtain ⟨b2, o2, e2, hB2, d0, d1, d2⟩ := hs.shelf_ hg hc
  rw [e2] at c13
  clear e2 c0 c1 c2 c3 c4 c5 c6 c7 c8 c9 c10 c11 c12 d0 d2
  go_enter Tryz.func139, Tryz.ntmps139
  go_wp2
  go_ret
  exact ⟨rfl, (Below.refl _ _).alloc (Nat.le_refl _) _⟩
set_option maxRecDepth 100000 in
set_option maxHeartbeats 1000000 in
theorem sl8Active_any (ca : Option Addr) (cc : Nat) (ta : Option Addr) (tc : Nat) (ga : Option Addr) (gc : Nat) (gh : Nat → GH) (M : WorldM) (w : World) (hs : WA w ca ta ga gh M) (hT : Tree M) (hG : GOk M) (ht : M.tasks.length ≤ 1048576) (g : Int) (c : Nat) (hc : c < M.cpus.length) :
    Calls Tryz.prog 95 #[.agg #[.int .i64 M.now, .slice ca M.cpus.length cc, .slice ta M.tasks.length tc, .slice ga M.groups.length gc], .int .i64 g, .int .i64 c] w fun e w' => e = .returned (.bool (act M g c)) ∧ Below w.heap.size w w' := by
  have HL := Lib.hid hT.len
  go_enter Tryz.func95, Tryz.ntmps95
  go_wp2
  refine PA.gen (P := fun W => Code.wp _ _ _ _ W) hs ?_
  intro W b1 s1 pw
  go_loop [6, 7] (fun r i => ∃ k : Nat, k ≤ M.tasks.length ∧ i = .int .i64 k ∧ r = .bool false ∧ (List.range k).any (fun t => tq M t g c) = false) (fun _ i => M.tasks.length - (intOf i).toNat)
  case atStart => exact ⟨0, by omega, rfl, rfl, rfl⟩
  case round =>
    obtain ⟨k, hk, rfl, rfl, hany⟩ := hrel
    have HA := Lib.hid hany
    clear hany
    obtain ⟨q0, q1, q2, q3, q4, q5⟩ := pw
    by_cases hlt : k < M.tasks.length
    · obtain ⟨b, o, rfl, hB, c0, c1, c2, c3⟩ := q5.task_ hlt
      clear c3
      go_wp2
      · have hq : tq M k g c = true := by simp [tq, *]
        go_ret
        exact ⟨ret_bool (by rw [act, any_of hlt hq]; rfl), b1⟩
      all_goals
        have hq : tq M k g c = false := by simp [tq, *]
        go_round
        case rel => exact ⟨k + 1, by omega, by go_num, rfl, by rw [any_succ, HA.out, hq]; rfl⟩
        case measure => simp [intOf]; omega
    · have HT := Lib.hid (show (List.range M.tasks.length).any (fun t => tq M t g c) = false by rw [← show k = M.tasks.length by omega]; exact HA.out)
      clear HA
      go_wp2
      go_loopw [6, 8] (fun r i wr => ∃ k : Nat, 1 ≤ k ∧ k ≤ 8 ∧ i = .int .i64 k ∧ r = .bool false ∧ (List.range k).any (fun h => gq M h g c) = false ∧ Below W.heap.size W wr) (fun _ i _ => 8 - (intOf i).toNat)
      case atStart => exact ⟨1, by omega, by omega, rfl, rfl, by simp [gq], Below.refl _ _⟩
      case round =>
        obtain ⟨k2, hk1, hk2, rfl, rfl, hany, hb⟩ := hrel
        have HA := Lib.hid hany
        clear hany
        obtain ⟨p0, p1, p2, p3, p4, p5⟩ := PA.keep ⟨q0, q1, q2, q3, q4, q5⟩ hb
        by_cases hlt2 : k2 < 8
        · have hlg : k2 < M.groups.length := by have := HL.out; omega
          obtain ⟨b, o, rfl, hB, c0, c1, c2⟩ := p5.group_ hlg
          clear c2
          by_cases hu : (grp M k2).used = true
          · have hcs : c < (grp M k2).shelves.length := by rw [hG.she k2 hlt2 hu]; exact hc
            by_cases hpar : (grp M k2).parent = g
            · have hpar' : ((grp M k2).parent == g) = true := by simpa using hpar
              have HPar := Lib.hid hpar
              clear hpar
              go_wp2_with (go_at_call 139; refine (sl8Queued_any ca cc ta tc _ gc gh M _ p5 k2 c hlg hcs).mono ?_; rintro e w' ⟨rfl, hb2⟩)
              · have hon : (she M k2 c).on = true := by assumption
                have hq : gq M k2 g c = true := by simp [gq, *]; omega
                go_ret
                exact ⟨ret_bool (by rw [act, any_of hlg hq]; simp), b1.andThen (hb.andThen hb2)⟩
              · have hon : (she M k2 c).on = false := by assumption
                have hq : gq M k2 g c = false := by simp [gq, *]
                go_roundw
                case rel => exact ⟨k2 + 1, by omega, by omega, by go_num, rfl, by rw [any_succ, HA.out, hq]; rfl, hb.andThen hb2⟩
                case measure => simp [intOf]; omega
            · have hpar' : ((grp M k2).parent == g) = false := by simpa using hpar
              have hq : gq M k2 g c = false := by simp [gq, *]
              go_wp2
              go_roundw
              case rel => exact ⟨k2 + 1, by omega, by omega, by go_num, rfl, by rw [any_succ, HA.out, hq]; rfl, hb⟩
              case measure => simp [intOf]; omega
          · have hu' : (grp M k2).used = false := by simpa using hu
            have hq : gq M k2 g c = false := by simp [gq, *]
            go_wp2
            go_roundw
            case rel => exact ⟨k2 + 1, by omega, by omega, by go_num, rfl, by rw [any_succ, HA.out, hq]; rfl, hb⟩
            case measure => simp [intOf]; omega
        · have h8 : M.groups.length ≤ k2 := by have := HL.out; omega
          go_wp2
          go_ret
          exact ⟨ret_bool (by rw [act, HT.out, show M.groups.length = k2 by have := HL.out; omega, HA.out]; rfl), b1.andThen hb⟩
set_option maxHeartbeats 1000000 in
theorem sl8Dry_any (ca : Option Addr) (cc : Nat) (ta : Option Addr) (tc : Nat) (ga : Option Addr) (gc : Nat) (gh : Nat → GH) (M : WorldM) (w : World) (hs : WA w ca ta ga gh M) (g c : Nat) (hg : g < M.groups.length) (hc : 0 < (grp M g).band.quota → c < (grp M g).band.dry.length) :
    Calls Tryz.prog 96 #[.agg #[.int .i64 M.now, .slice ca M.cpus.length cc, .slice ta M.tasks.length tc, .slice ga M.groups.length gc], .int .i64 g, .int .i64 c] w fun e w' => e = .returned (.bool (dryM M g c)) ∧ Below w.heap.size w w' := by
  obtain ⟨b, o, rfl, hB, c0, c1, c2, c3, c4, c5, c6, c7, c8, c9, c10, c11, c12, c13⟩ := hs.group_ hg
  by_cases hq : 0 < (grp M g).band.quota
  · obtain ⟨b2, o2, e2, hB2, d0⟩ := hs.dry_ hg (hc hq)
    have hcd := hc hq
    rw [e2] at c12
    have DN := Lib.hid (show dryM M g c = (grp M g).band.dry.getD c false by rw [dryM, decide_eq_true hq]; rfl)
    clear e2 c0 c1 c2 c3 c4 c5 c6 c7 c13
    go_enter Tryz.func96, Tryz.ntmps96
    go_wp2
    go_ret
    exact ⟨ret_bool (by rw [DN.out]; simp [hcd]), ((Below.refl _ _).alloc (Nat.le_refl _) _).alloc (by simp) _⟩
  · have DN := Lib.hid (show dryM M g c = false by rw [dryM, decide_eq_false hq]; rfl)
    clear c0 c1 c2 c3 c4 c5 c6 c7 c13
    go_enter Tryz.func96, Tryz.ntmps96
    go_wp2
    go_ret
    exact ⟨ret_bool DN.out.symm, ((Below.refl _ _).alloc (Nat.le_refl _) _).alloc (by simp) _⟩
set_option maxHeartbeats 400000 in
theorem sl8Stand_any (v f n : Int) (w : World) :
    Calls Tryz.prog 94 #[.int .i64 v, .int .i64 f, .int .i64 n] w fun e w' => e = .returned (.bool (standW v f n)) ∧ w = w' := by
  by_cases h : f ≤ v
  · have SN := Lib.hid (show standW v f n = decide (wrap64 (v - f) ≤ lagM n) by rw [standW, decide_eq_true h]; rfl)
    go_enter Tryz.func94, Tryz.ntmps94
    go_wp2_with (go_at_call 138; refine (sLagMost_any _ _).mono ?_; rintro e w' ⟨rfl, rfl⟩)
    go_ret
    exact ⟨ret_bool SN.out.symm, rfl⟩
  · have SN := Lib.hid (show standW v f n = false by rw [standW, decide_eq_false h]; rfl)
    go_enter Tryz.func94, Tryz.ntmps94
    go_wp2
    go_ret
    exact ⟨ret_bool SN.out.symm, rfl⟩
set_option maxHeartbeats 1000000 in
theorem sl8InLine_any (ca : Option Addr) (cc : Nat) (ta : Option Addr) (tc : Nat) (ga : Option Addr) (gc : Nat) (gh : Nat → GH) (M : WorldM) (w : World) (hs : WA w ca ta ga gh M) (hT : Tree M) (hG : GOk M) (t g c : Nat) (ht : t < M.tasks.length)
    (hr : (tsk M t).st = 1 → (tsk M t).gr = g ∧ g < 8 ∧ (grp M g).used = true ∧ (tsk M t).cpu = c ∧ c < M.cpus.length) :
    Calls Tryz.prog 97 #[.agg #[.int .i64 M.now, .slice ca M.cpus.length cc, .slice ta M.tasks.length tc, .slice ga M.groups.length gc], .int .i64 t] w fun e w' => e = .returned (.bool (lineM M t)) ∧ Below w.heap.size w w' := by
  by_cases hst : (tsk M t).st = 1
  · obtain ⟨hgr, hg, hu, hcp, hc⟩ := hr hst
    have LN := Lib.hid (show lineM M t = onL M c (ch M g) by rw [lineM, hst, hgr, hcp]; rfl)
    have HL := Lib.hid hT.len
    obtain ⟨b, o, rfl, hB, c0, c1, c2, c3, c4, c5, c6, c7, c8⟩ := hs.task_ ht
    rw [hst] at c0
    rw [hgr] at c1
    rw [hcp] at c2
    clear hgr hcp hst hr
    go_enter Tryz.func97, Tryz.ntmps97
    go_wp2
    refine PA.gen (P := fun W => Code.wp _ _ _ _ (W.alloc _)) hs ?_
    intro W0 b1 s1 pw0
    refine gen1 (p := fun W => Code.wp _ _ _ _ W) ?_
    intro W b2 s2 kx
    have pw := pw0.keep b2
    have b3 := b1.andThen b2
    rw [s1] at kx
    have x1 := kx.cell 2
    simp at x1
    clear kx c0 c1 c2 c3 c4 c5 c6 c7 c8
    have S1 := Lib.hid s1
    have S2 := Lib.hid s2
    clear s1 s2
    have hxs : w.heap.size + 1 < W.heap.size := by have := S1.out; have := S2.out; omega
    go_loopw [4, 6] (fun r i wr => ∃ k : Nat, k < 8 ∧ (grp M k).used = true ∧ i = .int .i64 k ∧ r = .bool false ∧ onL M c (ch M k) = onL M c (ch M g) ∧ Below W.heap.size W wr) (fun _ i _ => dp M (intOf i).toNat)
    case atStart => exact ⟨g, hg, hu, rfl, rfl, rfl, Below.refl _ _⟩
    case round =>
      obtain ⟨k, hk, huk, rfl, rfl, hon, hb⟩ := hrel
      have HU := Lib.hid huk
      have HO := Lib.hid hon
      clear huk hon
      have x2 := (hb.cell (p := ⟨w.heap.size + 1, 2, none⟩) hxs).trans x1
      obtain ⟨p0, p1, p2, p3, p4, p5⟩ := pw.keep hb
      by_cases h0 : k = 0
      · subst h0
        go_wp2
        go_ret
        refine ⟨ret_bool ?_, b3.andThen hb⟩
        rw [LN.out, ← HO.out, ch_zero]; rfl
      · obtain ⟨hp1, hp2, hp3, hp4⟩ := hT.up k hk HU.out h0
        have hst := hT.ch_step hk HU.out h0
        have hlg : k < M.groups.length := by have := HL.out; omega
        have hcs : c < (grp M k).shelves.length := by rw [hG.she k hk HU.out]; exact hc
        have hne : ((k : Int) == 0) = false := by simpa using h0
        have hne2 : ((k : Int) != 0) = true := by simpa using h0
        have HP1 := Lib.hid hp1
        have HP3 := Lib.hid hp3
        have HP4 := Lib.hid hp4
        have HS := Lib.hid hst
        clear hp1 hp3 hp4 hst
        go_wp2_with fail
        refine (sl8Queued_any ca cc _ tc ga gc gh M _ p5 k c hlg hcs).mono ?_
        rintro e w2 ⟨rfl, hb2⟩
        obtain ⟨r0, r1, r2, r3, r4, r5⟩ := (pw.keep hb).keep hb2
        obtain ⟨b4, o4, e4, hB4, d0, d1, d2⟩ := r5.group_ hlg
        rw [e4] at r4
        rw [HP1.out] at d1
        clear e4 d0 d2 p0 p1 p2 p3 p4 p5 r0 r1 r2 r3
        by_cases hq : (she M k c).on = true
        · go_wp2
          go_roundw
          case rel => exact ⟨par M k, hp2, HP3.out, rfl, rfl, by rw [← HO.out, HS.out]; simp [onL, hq], hb.andThen hb2⟩
          case measure => simp [intOf]; have := HP4.out; omega
        · have hq' : (she M k c).on = false := by simpa using hq
          go_wp2
          go_ret
          refine ⟨ret_bool ?_, b3.andThen (hb.andThen hb2)⟩
          rw [LN.out, ← HO.out, HS.out]; simp [onL, hq', h0]
  · have hst' : ((tsk M t).st == 1) = false := by simpa using hst
    have hst2 : ((tsk M t).st != 1) = true := by simpa using hst
    have LN := Lib.hid (show lineM M t = false by rw [lineM, hst']; rfl)
    obtain ⟨b, o, rfl, hB, c0, c1, c2, c3, c4, c5, c6, c7, c8⟩ := hs.task_ ht
    clear hr hst
    go_enter Tryz.func97, Tryz.ntmps97
    go_wp2
    go_ret
    exact ⟨ret_bool LN.out.symm, ((Below.refl _ _).alloc (Nat.le_refl _) _).alloc (by simp) _⟩
end
end Go.Proofs.YtomllcclallcdaaGreatDoor
