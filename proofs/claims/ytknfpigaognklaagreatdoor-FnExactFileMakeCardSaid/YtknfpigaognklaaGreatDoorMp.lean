/- A map whose keys are a number and a name. -/
import Derived.Test.YtknfpigaognklaaGreatDoorBase
import Derived.ChangeKeysEq
namespace Go.Proofs.YtknfpigaognklaaGreatDoor
open Go.RowKit
def kv (a : Int) (s : ByteArray) : Value := .agg #[.int .i64 a, .string s]
theorem key_eq (a b : Int) (s t : ByteArray) (w : World) : (Op.equal 168 (kv a s) (kv b t)).run Tryz.prog w = .ok ((a == b) && (s.toList == t.toList)) w := by
  unfold kv Op.equal Op.maxDepth
  go_simp
  by_cases h1 : a = b <;> by_cases h2 : s.toList = t.toList <;> simp [h1, h2]
theorem key_ok (e : Bool) (a : Int) (s : ByteArray) (w : World) : (Instr.checkKey e 10000 168 (kv a s)).run Tryz.prog w = .ok () w := by
  unfold kv
  kernel_rfl
/-- entries, as they are put in one behind the other -/
structure KvAt (w : World) (r : Nat) (L : List (Int × ByteArray)) : Prop where
  at_ : ∃ es clock, w.heap[r]? = some (.map es clock) ∧ es.toList.map (fun e => e.key) = L.map fun x => kv x.1 x.2
def kvHas (L : List (Int × ByteArray)) (a : Int) (s : ByteArray) : Bool := L.any fun x => (a == x.1) && (s.toList == x.2.toList)
theorem run_findAsking (a : Int) (s : ByteArray) (w : World) : ∀ (L : List (Int × ByteArray)) (es : List MapEntry) (i : Nat), es.map (fun e => e.key) = L.map (fun x => kv x.1 x.2) →
    if kvHas L a s = true then ∃ r, (Instr.findAsking 168 (kv a s) es i).run Tryz.prog w = .ok (some r) w else (Instr.findAsking 168 (kv a s) es i).run Tryz.prog w = .ok none w
  | [], [], i, _ => by simp [kvHas, Instr.findAsking]
  | [], _ :: _, _, h => by simp at h
  | _ :: _, [], _, h => by simp at h
  | (b, t) :: L, e :: es, i, h => by
    simp only [List.map_cons, List.cons.injEq] at h
    obtain ⟨h1, h2⟩ := h
    have ih := run_findAsking a s w L es (i + 1) h2
    simp only [Instr.findAsking, Sem.run_bind, h1, key_eq, Result.andThen_ok]
    by_cases hc : ((a == b) && (s.toList == t.toList)) = true
    · rw [if_pos (by simp [kvHas, hc])]
      rw [hc]
      simp
    · have hc' : ((a == b) && (s.toList == t.toList)) = false := by simpa only [Bool.not_eq_true] using hc
      have hk : kvHas ((b, t) :: L) a s = kvHas L a s := by simp only [kvHas, List.any_cons, hc', Bool.false_or]
      rw [hk, hc']
      simpa using ih
theorem run_findKey (a : Int) (s : ByteArray) (w : World) (L : List (Int × ByteArray)) (es : List MapEntry) (h : es.map (fun e => e.key) = L.map (fun x => kv x.1 x.2)) :
    if kvHas L a s = true then ∃ r, (Instr.findKey 168 (kv a s) es).run Tryz.prog w = .ok (some r) w else (Instr.findKey 168 (kv a s) es).run Tryz.prog w = .ok none w := by
  have hu : Tryz.prog.underlying 168 = some (.struct (Tryz.prog.fieldsOf 168)) := by kernel_rfl
  have hn : ∀ k es i, Instr.findNow (.struct (Tryz.prog.fieldsOf 168)) k es i = if es.isEmpty then some none else none := by
    intro k es i
    cases es <;> rfl
  simp only [Instr.findKey, Sem.run_bind, run_underlying hu, Result.andThen_ok, hn]
  cases es with
  | nil =>
    cases L with
    | nil => simp [kvHas]
    | cons => simp at h
  | cons e es => exact run_findAsking a s w L (e :: es) 0 h
theorem KvAt.look {w : World} {r : Nat} {L : List (Int × ByteArray)} (hm : KvAt w r L) (a : Int) (s : ByteArray) (h : kvHas L a s = false) :
    (Instr.lookup 166 (.map (some r)) (.agg #[.int .i64 a, .string s]) true).run Tryz.prog w = .ok (.tuple #[.int .i64 0, .bool false]) w := by
  obtain ⟨es, clock, h1, h2⟩ := hm.at_
  have hu : Tryz.prog.underlying 166 = some (.map 168 3) := by kernel_rfl
  have hf := run_findKey a s w L es.toList h2
  rw [if_neg (by rw [h]; decide)] at hf
  have hz : (zeroValue 3).run Tryz.prog w = .ok (.int .i64 0) w := by kernel_rfl
  have hk := key_ok es.isEmpty a s w
  unfold kv at hf hk
  have hg : (getObj r).run Tryz.prog w = .ok (.map es clock) w := by simp [getObj, Sem.run, h1]
  simp [Instr.lookup, Sem.run_bind, run_underlying hu, hg, hk, hf, hz]
theorem KvAt.found {w : World} {r : Nat} {L : List (Int × ByteArray)} (hm : KvAt w r L) (a : Int) (s : ByteArray) (h : kvHas L a s = true) :
    ∃ v, (Instr.lookup 166 (.map (some r)) (.agg #[.int .i64 a, .string s]) true).run Tryz.prog w = .ok (.tuple #[v, .bool true]) w := by
  obtain ⟨es, clock, h1, h2⟩ := hm.at_
  have hu : Tryz.prog.underlying 166 = some (.map 168 3) := by kernel_rfl
  have hf := run_findKey a s w L es.toList h2
  rw [if_pos h] at hf
  obtain ⟨q, hf⟩ := hf
  have hk := key_ok es.isEmpty a s w
  unfold kv at hf hk
  have hg : (getObj r).run Tryz.prog w = .ok (.map es clock) w := by simp [getObj, Sem.run, h1]
  exact ⟨q.2, by simp [Instr.lookup, Sem.run_bind, run_underlying hu, hg, hk, hf]⟩
theorem KvAt.put {w : World} {r : Nat} {L : List (Int × ByteArray)} (hm : KvAt w r L) (a : Int) (s : ByteArray) (v : Value) (h : kvHas L a s = false) :
    ∃ W, (Instr.mapUpdate 166 (.map (some r)) (.agg #[.int .i64 a, .string s]) v).run Tryz.prog w = .ok () W ∧ But r w W ∧ KvAt W r (L ++ [(a, s)]) := by
  obtain ⟨es, clock, h1, h2⟩ := hm.at_
  have hu : Tryz.prog.underlying 166 = some (.map 168 3) := by kernel_rfl
  have hf := run_findKey a s w L es.toList h2
  rw [if_neg (by rw [h]; decide)] at hf
  have hk := key_ok false a s w
  unfold kv at hf hk
  have hg : (getObj r).run Tryz.prog w = .ok (.map es clock) w := by simp [getObj, Sem.run, h1]
  have hlt : r < w.heap.size := by
    rcases Nat.lt_or_ge r w.heap.size with h' | h'
    · exact h'
    · rw [Array.getElem?_eq_none h'] at h1; cases h1
  refine ⟨{ w with heap := w.heap.setIfInBounds r (.map (es.push { key := .agg #[.int .i64 a, .string s], val := v, born := clock }) (clock + 1)) }, ?_, ⟨rfl, rfl, rfl, by simp, fun k hk => by simp [Array.getElem?_setIfInBounds_ne (Ne.symm hk)]⟩, ⟨es.push { key := .agg #[.int .i64 a, .string s], val := v, born := clock }, clock + 1, by simp [hlt], ?_⟩⟩
  · simp [Instr.mapUpdate, Sem.run_bind, run_underlying hu, hg, hk, hf, setObj, Sem.run, h1]
  · simp [h2, kv]
theorem KvAt.below {w w1 : World} {r : Nat} {L : List (Int × ByteArray)} (h : KvAt w r L) {B : Nat} (hb : Below B w w1) (hr : r < B) : KvAt w1 r L := by
  obtain ⟨es, c, h1, h2⟩ := h.at_
  exact ⟨es, c, (hb.block r hr).trans h1, h2⟩
theorem KvAt.but {g : Nat} {w w1 : World} {r : Nat} {L : List (Int × ByteArray)} (h : KvAt w r L) (hb : But g w w1) (hr : r ≠ g) : KvAt w1 r L := by
  obtain ⟨es, c, h1, h2⟩ := h.at_
  exact ⟨es, c, (hb.block r hr).trans h1, h2⟩
theorem KvAt.lt {w : World} {r : Nat} {L : List (Int × ByteArray)} (h : KvAt w r L) : r < w.heap.size := by
  obtain ⟨es, c, h1, h2⟩ := h.at_
  rcases Nat.lt_or_ge r w.heap.size with h' | h'
  · exact h'
  · rw [Array.getElem?_eq_none h'] at h1; cases h1
end Go.Proofs.YtknfpigaognklaaGreatDoor
