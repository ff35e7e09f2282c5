/- A world that came in as an argument, read as plain data. -/
import Derived.Test.YtknfpigaognklaaGreatDoorClose
import Derived.Test.YtknfpigaognklaaGreatDoorWa
import Derived.Test.YtknfpigaognklaaGreatDoorLg
namespace Go.Proofs.YtknfpigaognklaaGreatDoor
open Go.RowKit Go.ChangeShapes Go.WideShapes Go.ChangeAt Go.Deep
section
variable {H : Type} {enc : TypeId × Value → H} {P : Program} {w : World} {base : Nat} {spare : Nat → Bool} {held : Bool}
theorem open_list {α : Type} (cells : α → List Value) (size : Nat) (R : α → Prop) {t e : TypeId} (ht : P.underlying t = some (.slice e)) (hsz : P.cellsOf e = size) (hpos : 0 < size)
    (he : ∀ (fuel : Nat) (cs : List Value) (x : DataW H × List MemPlace), DataW.trod enc P w base spare held fuel e cs = some x → ∃ m : α, cs = cells m ∧ R m)
    {fuel : Nat} {cs : List Value} {x : DataW H × List MemPlace} (h : DataW.trod enc P w base spare held fuel t cs = some x) :
    ∃ (A : Option Addr) (cap : Nat) (L : List α), cs = [.slice A L.length cap] ∧ L.length ≤ 9223372036854775807 ∧
      ∀ k (hk : k < L.length), (∃ b o, A = some ⟨b, o, none⟩ ∧ b < w.heap.size ∧ ∀ j, j < size → w.cell? ⟨b, o + k * size + j, none⟩ = (cells L[k])[j]?) ∧ R L[k] := by
  rcases open_slice ht h with ⟨h0, _⟩ | ⟨a, len, cap, m, n, D, Pl, hcs, _, hl, hm, hmm, _, hi⟩
  · exact ⟨none, 0, [], h0, by simp, fun k hk => absurd hk (by simp)⟩
  · have hlm : len ≤ m := by rw [hmm]; split <;> omega
    have hall : ∀ i : Fin len, ∃ x : α, (∀ j, j < size → w.cell? (a.add (i.1 * size + j)) = (cells x)[j]?) ∧ (cells x).length = size ∧ R x := by
      intro i
      obtain ⟨cs', hc, ht'⟩ := hi i.1 (by omega)
      obtain ⟨x, rfl, hx⟩ := he _ _ _ ht'
      obtain ⟨_, hcl, hat⟩ := World.cells?_some hc
      rw [hsz] at hcl hat
      refine ⟨x, fun j hj => ?_, hcl, hx⟩
      rw [← Go.Deep.add_add]
      exact hat j hj
    let f : Fin len → α := fun i => Classical.choose (hall i)
    have hf : ∀ i : Fin len, (∀ j, j < size → w.cell? (a.add (i.1 * size + j)) = (cells (f i))[j]?) ∧ (cells (f i)).length = size ∧ R (f i) := fun i => Classical.choose_spec (hall i)
    refine ⟨some a, cap, List.ofFn f, by simpa using hcs, by simp; unfold maxLen at hm; omega, fun k hk => ?_⟩
    have hk' : k < len := by simpa using hk
    obtain ⟨h1, h2, h3⟩ := hf ⟨k, hk'⟩
    obtain ⟨b, o, s⟩ := a
    cases s with
    | some s =>
      have c0 := (hf ⟨0, by omega⟩).1 0 hpos
      rw [List.getElem?_eq_getElem (by rw [(hf ⟨0, by omega⟩).2.1]; exact hpos)] at c0
      simp [World.cell?, Addr.add] at c0
      split at c0 <;> simp at c0
    | none =>
      refine ⟨⟨b, o, rfl, ?_, fun j hj => ?_⟩, ?_⟩
      · have c0 := h1 0 hpos
        rw [List.getElem?_eq_getElem (by omega), addr_mid] at c0
        exact World.block_lt_of_cell? w ⟨b, o + (k * size + 0), none⟩ c0
      · have c0 := h1 j hj
        rw [addr_mid] at c0
        rw [show o + k * size + j = o + (k * size + j) by omega, List.getElem_ofFn]
        exact c0
      · rw [List.getElem_ofFn]; exact h3
end
theorem list4 {α : Type} {l : List α} (h : l.length = 4) : ∃ a0 a1 a2 a3, l = [a0, a1, a2, a3] := by
  match l, h with
  | [a0, a1, a2, a3], _ => exact ⟨a0, a1, a2, a3, rfl⟩
theorem list5 {α : Type} {l : List α} (h : l.length = 5) : ∃ a0 a1 a2 a3 a4, l = [a0, a1, a2, a3, a4] := by
  match l, h with
  | [a0, a1, a2, a3, a4], _ => exact ⟨a0, a1, a2, a3, a4, rfl⟩
theorem list9 {α : Type} {l : List α} (h : l.length = 9) : ∃ a0 a1 a2 a3 a4 a5 a6 a7 a8, l = [a0, a1, a2, a3, a4, a5, a6, a7, a8] := by
  match l, h with
  | [a0, a1, a2, a3, a4, a5, a6, a7, a8], _ => exact ⟨a0, a1, a2, a3, a4, a5, a6, a7, a8, rfl⟩
theorem list14 {α : Type} {l : List α} (h : l.length = 14) : ∃ a0 a1 a2 a3 a4 a5 a6 a7 a8 a9 a10 a11 a12 a13, l = [a0, a1, a2, a3, a4, a5, a6, a7, a8, a9, a10, a11, a12, a13] := by
  match l, h with
  | [a0, a1, a2, a3, a4, a5, a6, a7, a8, a9, a10, a11, a12, a13], _ => exact ⟨a0, a1, a2, a3, a4, a5, a6, a7, a8, a9, a10, a11, a12, a13, rfl⟩
theorem kInt : Tryz.prog.cellsOf 3 = 1 := by kernel_rfl
theorem kBool : Tryz.prog.cellsOf 4 = 1 := by kernel_rfl
theorem kStr : Tryz.prog.cellsOf 9 = 1 := by kernel_rfl
theorem kInts : Tryz.prog.cellsOf 46 = 1 := by kernel_rfl
theorem kBools : Tryz.prog.cellsOf 50 = 1 := by kernel_rfl
theorem kShelves : Tryz.prog.cellsOf 94 = 1 := by kernel_rfl
theorem kCpus : Tryz.prog.cellsOf 22 = 1 := by kernel_rfl
theorem kTasks : Tryz.prog.cellsOf 23 = 1 := by kernel_rfl
theorem kGroups : Tryz.prog.cellsOf 24 = 1 := by kernel_rfl
theorem kBand : Tryz.prog.cellsOf 93 = 5 := by kernel_rfl
theorem open_cpu {H : Type} {enc : TypeId × Value → H} {w : World} {base : Nat} {spare : Nat → Bool} {held : Bool} {fuel : Nat} {cs : List Value} {x : DataW H × List MemPlace} (h : DataW.trod enc Tryz.prog w base spare held fuel 105 cs = some x) : ∃ m : CpuM, cs = [.bool m.up, .int .i64 m.cur, .int .i64 m.ran, .int .i64 m.busy, .int .i64 m.idle] ∧ True := by
  obtain ⟨ys, n, _, _, hlen, hyl, hf⟩ := DataW.trod_struct Tryz.underlying105 h
  obtain ⟨a0, a1, a2, a3, a4, rfl⟩ := list5 (show cs.length = 5 by rw [hlen]; kernel_rfl)
  have hy : ys.length = 5 := hyl
  have t0 := hf 0 _ rfl
  change DataW.trod enc Tryz.prog w base spare held n 4 (List.take (Tryz.prog.cellsOf 4) (List.drop 0 [a0, a1, a2, a3, a4])) = ys[0]? at t0
  rw [kBool, List.getElem?_eq_getElem (by omega)] at t0
  obtain ⟨z0, e0, _⟩ := DataW.trod_bool Tryz.underlying4 t0
  have t1 := hf 1 _ rfl
  change DataW.trod enc Tryz.prog w base spare held n 3 (List.take (Tryz.prog.cellsOf 3) (List.drop 1 [a0, a1, a2, a3, a4])) = ys[1]? at t1
  rw [kInt, List.getElem?_eq_getElem (by omega)] at t1
  obtain ⟨z1, e1, _, _⟩ := DataW.trod_int Tryz.underlying3 t1
  have t2 := hf 2 _ rfl
  change DataW.trod enc Tryz.prog w base spare held n 3 (List.take (Tryz.prog.cellsOf 3) (List.drop 2 [a0, a1, a2, a3, a4])) = ys[2]? at t2
  rw [kInt, List.getElem?_eq_getElem (by omega)] at t2
  obtain ⟨z2, e2, _, _⟩ := DataW.trod_int Tryz.underlying3 t2
  have t3 := hf 3 _ rfl
  change DataW.trod enc Tryz.prog w base spare held n 3 (List.take (Tryz.prog.cellsOf 3) (List.drop 3 [a0, a1, a2, a3, a4])) = ys[3]? at t3
  rw [kInt, List.getElem?_eq_getElem (by omega)] at t3
  obtain ⟨z3, e3, _, _⟩ := DataW.trod_int Tryz.underlying3 t3
  have t4 := hf 4 _ rfl
  change DataW.trod enc Tryz.prog w base spare held n 3 (List.take (Tryz.prog.cellsOf 3) (List.drop 4 [a0, a1, a2, a3, a4])) = ys[4]? at t4
  rw [kInt, List.getElem?_eq_getElem (by omega)] at t4
  obtain ⟨z4, e4, _, _⟩ := DataW.trod_int Tryz.underlying3 t4
  simp only [List.drop_zero, List.drop_succ_cons, List.take_succ_cons, List.take_zero, List.cons.injEq, and_true] at e0 e1 e2 e3 e4
  subst e0 e1 e2 e3 e4
  exact ⟨⟨z0, z1, z2, z3, z4⟩, rfl, trivial⟩
theorem open_task {H : Type} {enc : TypeId × Value → H} {w : World} {base : Nat} {spare : Nat → Bool} {held : Bool} {fuel : Nat} {cs : List Value} {x : DataW H × List MemPlace} (h : DataW.trod enc Tryz.prog w base spare held fuel 107 cs = some x) : ∃ m : TaskM, cs = [.int .i64 m.st, .int .i64 m.gr, .int .i64 m.cpu, .int .i64 m.nice, .int .i64 m.mask, .int .i64 m.v, .int .i64 m.sum, .int .i64 m.used, .int .i64 m.load] ∧ True := by
  obtain ⟨ys, n, _, _, hlen, hyl, hf⟩ := DataW.trod_struct Tryz.underlying107 h
  obtain ⟨a0, a1, a2, a3, a4, a5, a6, a7, a8, rfl⟩ := list9 (show cs.length = 9 by rw [hlen]; kernel_rfl)
  have hy : ys.length = 9 := hyl
  have t0 := hf 0 _ rfl
  change DataW.trod enc Tryz.prog w base spare held n 3 (List.take (Tryz.prog.cellsOf 3) (List.drop 0 [a0, a1, a2, a3, a4, a5, a6, a7, a8])) = ys[0]? at t0
  rw [kInt, List.getElem?_eq_getElem (by omega)] at t0
  obtain ⟨z0, e0, _, _⟩ := DataW.trod_int Tryz.underlying3 t0
  have t1 := hf 1 _ rfl
  change DataW.trod enc Tryz.prog w base spare held n 3 (List.take (Tryz.prog.cellsOf 3) (List.drop 1 [a0, a1, a2, a3, a4, a5, a6, a7, a8])) = ys[1]? at t1
  rw [kInt, List.getElem?_eq_getElem (by omega)] at t1
  obtain ⟨z1, e1, _, _⟩ := DataW.trod_int Tryz.underlying3 t1
  have t2 := hf 2 _ rfl
  change DataW.trod enc Tryz.prog w base spare held n 3 (List.take (Tryz.prog.cellsOf 3) (List.drop 2 [a0, a1, a2, a3, a4, a5, a6, a7, a8])) = ys[2]? at t2
  rw [kInt, List.getElem?_eq_getElem (by omega)] at t2
  obtain ⟨z2, e2, _, _⟩ := DataW.trod_int Tryz.underlying3 t2
  have t3 := hf 3 _ rfl
  change DataW.trod enc Tryz.prog w base spare held n 3 (List.take (Tryz.prog.cellsOf 3) (List.drop 3 [a0, a1, a2, a3, a4, a5, a6, a7, a8])) = ys[3]? at t3
  rw [kInt, List.getElem?_eq_getElem (by omega)] at t3
  obtain ⟨z3, e3, _, _⟩ := DataW.trod_int Tryz.underlying3 t3
  have t4 := hf 4 _ rfl
  change DataW.trod enc Tryz.prog w base spare held n 3 (List.take (Tryz.prog.cellsOf 3) (List.drop 4 [a0, a1, a2, a3, a4, a5, a6, a7, a8])) = ys[4]? at t4
  rw [kInt, List.getElem?_eq_getElem (by omega)] at t4
  obtain ⟨z4, e4, _, _⟩ := DataW.trod_int Tryz.underlying3 t4
  have t5 := hf 5 _ rfl
  change DataW.trod enc Tryz.prog w base spare held n 3 (List.take (Tryz.prog.cellsOf 3) (List.drop 5 [a0, a1, a2, a3, a4, a5, a6, a7, a8])) = ys[5]? at t5
  rw [kInt, List.getElem?_eq_getElem (by omega)] at t5
  obtain ⟨z5, e5, _, _⟩ := DataW.trod_int Tryz.underlying3 t5
  have t6 := hf 6 _ rfl
  change DataW.trod enc Tryz.prog w base spare held n 3 (List.take (Tryz.prog.cellsOf 3) (List.drop 6 [a0, a1, a2, a3, a4, a5, a6, a7, a8])) = ys[6]? at t6
  rw [kInt, List.getElem?_eq_getElem (by omega)] at t6
  obtain ⟨z6, e6, _, _⟩ := DataW.trod_int Tryz.underlying3 t6
  have t7 := hf 7 _ rfl
  change DataW.trod enc Tryz.prog w base spare held n 3 (List.take (Tryz.prog.cellsOf 3) (List.drop 7 [a0, a1, a2, a3, a4, a5, a6, a7, a8])) = ys[7]? at t7
  rw [kInt, List.getElem?_eq_getElem (by omega)] at t7
  obtain ⟨z7, e7, _, _⟩ := DataW.trod_int Tryz.underlying3 t7
  have t8 := hf 8 _ rfl
  change DataW.trod enc Tryz.prog w base spare held n 3 (List.take (Tryz.prog.cellsOf 3) (List.drop 8 [a0, a1, a2, a3, a4, a5, a6, a7, a8])) = ys[8]? at t8
  rw [kInt, List.getElem?_eq_getElem (by omega)] at t8
  obtain ⟨z8, e8, _, _⟩ := DataW.trod_int Tryz.underlying3 t8
  simp only [List.drop_zero, List.drop_succ_cons, List.take_succ_cons, List.take_zero, List.cons.injEq, and_true] at e0 e1 e2 e3 e4 e5 e6 e7 e8
  subst e0 e1 e2 e3 e4 e5 e6 e7 e8
  exact ⟨⟨z0, z1, z2, z3, z4, z5, z6, z7, z8⟩, rfl, trivial⟩
theorem open_shelf {H : Type} {enc : TypeId × Value → H} {w : World} {base : Nat} {spare : Nat → Bool} {held : Bool} {fuel : Nat} {cs : List Value} {x : DataW H × List MemPlace} (h : DataW.trod enc Tryz.prog w base spare held fuel 176 cs = some x) : ∃ m : ShelfM, cs = [.int .i64 m.floor, .bool m.on, .int .i64 m.v, .int .i64 m.w, .int .i64 m.sum] ∧ True := by
  obtain ⟨ys, n, _, _, hlen, hyl, hf⟩ := DataW.trod_struct Tryz.underlying176 h
  obtain ⟨a0, a1, a2, a3, a4, rfl⟩ := list5 (show cs.length = 5 by rw [hlen]; kernel_rfl)
  have hy : ys.length = 5 := hyl
  have t0 := hf 0 _ rfl
  change DataW.trod enc Tryz.prog w base spare held n 3 (List.take (Tryz.prog.cellsOf 3) (List.drop 0 [a0, a1, a2, a3, a4])) = ys[0]? at t0
  rw [kInt, List.getElem?_eq_getElem (by omega)] at t0
  obtain ⟨z0, e0, _, _⟩ := DataW.trod_int Tryz.underlying3 t0
  have t1 := hf 1 _ rfl
  change DataW.trod enc Tryz.prog w base spare held n 4 (List.take (Tryz.prog.cellsOf 4) (List.drop 1 [a0, a1, a2, a3, a4])) = ys[1]? at t1
  rw [kBool, List.getElem?_eq_getElem (by omega)] at t1
  obtain ⟨z1, e1, _⟩ := DataW.trod_bool Tryz.underlying4 t1
  have t2 := hf 2 _ rfl
  change DataW.trod enc Tryz.prog w base spare held n 3 (List.take (Tryz.prog.cellsOf 3) (List.drop 2 [a0, a1, a2, a3, a4])) = ys[2]? at t2
  rw [kInt, List.getElem?_eq_getElem (by omega)] at t2
  obtain ⟨z2, e2, _, _⟩ := DataW.trod_int Tryz.underlying3 t2
  have t3 := hf 3 _ rfl
  change DataW.trod enc Tryz.prog w base spare held n 3 (List.take (Tryz.prog.cellsOf 3) (List.drop 3 [a0, a1, a2, a3, a4])) = ys[3]? at t3
  rw [kInt, List.getElem?_eq_getElem (by omega)] at t3
  obtain ⟨z3, e3, _, _⟩ := DataW.trod_int Tryz.underlying3 t3
  have t4 := hf 4 _ rfl
  change DataW.trod enc Tryz.prog w base spare held n 3 (List.take (Tryz.prog.cellsOf 3) (List.drop 4 [a0, a1, a2, a3, a4])) = ys[4]? at t4
  rw [kInt, List.getElem?_eq_getElem (by omega)] at t4
  obtain ⟨z4, e4, _, _⟩ := DataW.trod_int Tryz.underlying3 t4
  simp only [List.drop_zero, List.drop_succ_cons, List.take_succ_cons, List.take_zero, List.cons.injEq, and_true] at e0 e1 e2 e3 e4
  subst e0 e1 e2 e3 e4
  exact ⟨⟨z0, z1, z2, z3, z4⟩, rfl, trivial⟩
theorem open_ints {H : Type} {enc : TypeId × Value → H} {w : World} {base : Nat} {spare : Nat → Bool} {held : Bool} {fuel : Nat} {cs : List Value} {x : DataW H × List MemPlace} (h : DataW.trod enc Tryz.prog w base spare held fuel 46 cs = some x) : ∃ (A : Option Addr) (cap : Nat) (L : List Int), cs = [.slice A L.length cap] ∧ L.length ≤ 9223372036854775807 ∧ IntS w A L := by
  obtain ⟨A, cap, L, h1, h2, h3⟩ := open_list (P := Tryz.prog) (w := w) (fun m : Int => [.int .i64 m]) 1 (fun _ => True) Tryz.underlying46 (by kernel_rfl) (by decide) (fun f c y hh => by obtain ⟨z, e, _, _⟩ := DataW.trod_int Tryz.underlying3 hh; exact ⟨z, e, trivial⟩) h
  refine ⟨A, cap, L, h1, h2, ⟨fun k hk => ?_⟩⟩
  obtain ⟨⟨b, o, rfl, hb, hc⟩, _⟩ := h3 k hk
  exact ⟨b, o, rfl, hb, by simpa using hc 0 (by decide)⟩
theorem open_bools {H : Type} {enc : TypeId × Value → H} {w : World} {base : Nat} {spare : Nat → Bool} {held : Bool} {fuel : Nat} {cs : List Value} {x : DataW H × List MemPlace} (h : DataW.trod enc Tryz.prog w base spare held fuel 50 cs = some x) : ∃ (A : Option Addr) (cap : Nat) (L : List Bool), cs = [.slice A L.length cap] ∧ L.length ≤ 9223372036854775807 ∧ BoolS w A L := by
  obtain ⟨A, cap, L, h1, h2, h3⟩ := open_list (P := Tryz.prog) (w := w) (fun m : Bool => [.bool m]) 1 (fun _ => True) Tryz.underlying50 (by kernel_rfl) (by decide) (fun f c y hh => by obtain ⟨z, e, _⟩ := DataW.trod_bool Tryz.underlying4 hh; exact ⟨z, e, trivial⟩) h
  refine ⟨A, cap, L, h1, h2, ⟨fun k hk => ?_⟩⟩
  obtain ⟨⟨b, o, rfl, hb, hc⟩, _⟩ := h3 k hk
  exact ⟨b, o, rfl, hb, by simpa using hc 0 (by decide)⟩
theorem open_cpus {H : Type} {enc : TypeId × Value → H} {w : World} {base : Nat} {spare : Nat → Bool} {held : Bool} {fuel : Nat} {cs : List Value} {x : DataW H × List MemPlace} (h : DataW.trod enc Tryz.prog w base spare held fuel 22 cs = some x) : ∃ (A : Option Addr) (cap : Nat) (L : List CpuM), cs = [.slice A L.length cap] ∧ L.length ≤ 9223372036854775807 ∧ CpuS w A L := by
  obtain ⟨A, cap, L, h1, h2, h3⟩ := open_list (P := Tryz.prog) (w := w) (fun m : CpuM => [.bool m.up, .int .i64 m.cur, .int .i64 m.ran, .int .i64 m.busy, .int .i64 m.idle]) 5 (fun _ => True) Tryz.underlying22 (by kernel_rfl) (by decide) (fun f c y hh => open_cpu hh) h
  refine ⟨A, cap, L, h1, h2, ⟨fun k hk => ?_⟩⟩
  obtain ⟨⟨b, o, rfl, hb, hc⟩, _⟩ := h3 k hk
  exact ⟨b, o, rfl, hb, by simpa using hc 0 (by decide), by simpa using hc 1 (by decide), by simpa using hc 2 (by decide), by simpa using hc 3 (by decide), by simpa using hc 4 (by decide)⟩
theorem open_tasks {H : Type} {enc : TypeId × Value → H} {w : World} {base : Nat} {spare : Nat → Bool} {held : Bool} {fuel : Nat} {cs : List Value} {x : DataW H × List MemPlace} (h : DataW.trod enc Tryz.prog w base spare held fuel 23 cs = some x) : ∃ (A : Option Addr) (cap : Nat) (L : List TaskM), cs = [.slice A L.length cap] ∧ L.length ≤ 9223372036854775807 ∧ TaskS w A L := by
  obtain ⟨A, cap, L, h1, h2, h3⟩ := open_list (P := Tryz.prog) (w := w) (fun m : TaskM => [.int .i64 m.st, .int .i64 m.gr, .int .i64 m.cpu, .int .i64 m.nice, .int .i64 m.mask, .int .i64 m.v, .int .i64 m.sum, .int .i64 m.used, .int .i64 m.load]) 9 (fun _ => True) Tryz.underlying23 (by kernel_rfl) (by decide) (fun f c y hh => open_task hh) h
  refine ⟨A, cap, L, h1, h2, ⟨fun k hk => ?_⟩⟩
  obtain ⟨⟨b, o, rfl, hb, hc⟩, _⟩ := h3 k hk
  exact ⟨b, o, rfl, hb, by simpa using hc 0 (by decide), by simpa using hc 1 (by decide), by simpa using hc 2 (by decide), by simpa using hc 3 (by decide), by simpa using hc 4 (by decide), by simpa using hc 5 (by decide), by simpa using hc 6 (by decide), by simpa using hc 7 (by decide), by simpa using hc 8 (by decide)⟩
theorem open_shelfs {H : Type} {enc : TypeId × Value → H} {w : World} {base : Nat} {spare : Nat → Bool} {held : Bool} {fuel : Nat} {cs : List Value} {x : DataW H × List MemPlace} (h : DataW.trod enc Tryz.prog w base spare held fuel 94 cs = some x) : ∃ (A : Option Addr) (cap : Nat) (L : List ShelfM), cs = [.slice A L.length cap] ∧ L.length ≤ 9223372036854775807 ∧ ShelfS w A L := by
  obtain ⟨A, cap, L, h1, h2, h3⟩ := open_list (P := Tryz.prog) (w := w) (fun m : ShelfM => [.int .i64 m.floor, .bool m.on, .int .i64 m.v, .int .i64 m.w, .int .i64 m.sum]) 5 (fun _ => True) Tryz.underlying94 (by kernel_rfl) (by decide) (fun f c y hh => open_shelf hh) h
  refine ⟨A, cap, L, h1, h2, ⟨fun k hk => ?_⟩⟩
  obtain ⟨⟨b, o, rfl, hb, hc⟩, _⟩ := h3 k hk
  exact ⟨b, o, rfl, hb, by simpa using hc 0 (by decide), by simpa using hc 1 (by decide), by simpa using hc 2 (by decide), by simpa using hc 3 (by decide), by simpa using hc 4 (by decide)⟩
def GrpR (w : World) (m : GroupM × GH) : Prop := IntS w m.2.la m.1.band.locals ∧ BoolS w m.2.da m.1.band.dry ∧ ShelfS w m.2.sa m.1.shelves ∧ m.1.band.locals.length ≤ 9223372036854775807 ∧ m.1.band.dry.length ≤ 9223372036854775807 ∧ m.1.shelves.length ≤ 9223372036854775807 ∧ m.1.name.size ≤ 9223372036854775807 ∧ m.1.next ≤ 9223372036854775807
theorem open_band {H : Type} {enc : TypeId × Value → H} {w : World} {base : Nat} {spare : Nat → Bool} {held : Bool} {fuel : Nat} {cs : List Value} {x : DataW H × List MemPlace} (h : DataW.trod enc Tryz.prog w base spare held fuel 93 cs = some x) : ∃ (m : BandM) (la : Option Addr) (lc : Nat) (da : Option Addr) (dc : Nat), cs = [.int .i64 m.quota, .int .i64 m.pool, .int .i64 m.spent, .slice la m.locals.length lc, .slice da m.dry.length dc] ∧ IntS w la m.locals ∧ BoolS w da m.dry ∧ m.locals.length ≤ 9223372036854775807 ∧ m.dry.length ≤ 9223372036854775807 := by
  obtain ⟨ys, n, _, _, hlen, hyl, hf⟩ := DataW.trod_struct Tryz.underlying93 h
  obtain ⟨a0, a1, a2, a3, a4, rfl⟩ := list5 (show cs.length = 5 by rw [hlen]; kernel_rfl)
  have hy : ys.length = 5 := hyl
  have t0 := hf 0 _ rfl
  change DataW.trod enc Tryz.prog w base spare held n 3 (List.take (Tryz.prog.cellsOf 3) (List.drop 0 [a0, a1, a2, a3, a4])) = ys[0]? at t0
  rw [kInt, List.getElem?_eq_getElem (by omega)] at t0
  obtain ⟨z0, e0, _, _⟩ := DataW.trod_int Tryz.underlying3 t0
  have t1 := hf 1 _ rfl
  change DataW.trod enc Tryz.prog w base spare held n 3 (List.take (Tryz.prog.cellsOf 3) (List.drop 1 [a0, a1, a2, a3, a4])) = ys[1]? at t1
  rw [kInt, List.getElem?_eq_getElem (by omega)] at t1
  obtain ⟨z1, e1, _, _⟩ := DataW.trod_int Tryz.underlying3 t1
  have t2 := hf 2 _ rfl
  change DataW.trod enc Tryz.prog w base spare held n 3 (List.take (Tryz.prog.cellsOf 3) (List.drop 2 [a0, a1, a2, a3, a4])) = ys[2]? at t2
  rw [kInt, List.getElem?_eq_getElem (by omega)] at t2
  obtain ⟨z2, e2, _, _⟩ := DataW.trod_int Tryz.underlying3 t2
  have t3 := hf 3 _ rfl
  change DataW.trod enc Tryz.prog w base spare held n 46 (List.take (Tryz.prog.cellsOf 46) (List.drop 3 [a0, a1, a2, a3, a4])) = ys[3]? at t3
  rw [kInts, List.getElem?_eq_getElem (by omega)] at t3
  have t4 := hf 4 _ rfl
  change DataW.trod enc Tryz.prog w base spare held n 50 (List.take (Tryz.prog.cellsOf 50) (List.drop 4 [a0, a1, a2, a3, a4])) = ys[4]? at t4
  rw [kBools, List.getElem?_eq_getElem (by omega)] at t4
  obtain ⟨la, lc, L, e3, m3, s3⟩ := open_ints t3
  obtain ⟨da, dc, D, e4, m4, s4⟩ := open_bools t4
  simp only [List.drop_zero, List.drop_succ_cons, List.take_succ_cons, List.take_zero, List.cons.injEq, and_true] at e0 e1 e2 e3 e4
  subst e0 e1 e2 e3 e4
  exact ⟨⟨z0, z1, z2, L, D⟩, la, lc, da, dc, rfl, s3, s4, m3, m4⟩
theorem open_group {H : Type} {enc : TypeId × Value → H} {w : World} {base : Nat} {spare : Nat → Bool} {held : Bool} {fuel : Nat} {cs : List Value} {x : DataW H × List MemPlace} (h : DataW.trod enc Tryz.prog w base spare held fuel 96 cs = some x) : ∃ m : GroupM × GH, cs = [.bool m.1.used, .int .i64 m.1.parent, .string m.1.name, .int .i64 m.1.weight, .int .i64 m.1.cpus, .int .i64 m.1.period, .int .i64 m.1.next, .int .i64 m.1.sum, .int .i64 m.1.band.quota, .int .i64 m.1.band.pool, .int .i64 m.1.band.spent, .slice m.2.la m.1.band.locals.length m.2.lc, .slice m.2.da m.1.band.dry.length m.2.dc, .slice m.2.sa m.1.shelves.length m.2.sc] ∧ GrpR w m := by
  obtain ⟨ys, n, _, _, hlen, hyl, hf⟩ := DataW.trod_struct Tryz.underlying96 h
  obtain ⟨a0, a1, a2, a3, a4, a5, a6, a7, a8, a9, a10, a11, a12, a13, rfl⟩ := list14 (show cs.length = 14 by rw [hlen]; kernel_rfl)
  have hy : ys.length = 10 := hyl
  have t0 := hf 0 _ rfl
  change DataW.trod enc Tryz.prog w base spare held n 4 (List.take (Tryz.prog.cellsOf 4) (List.drop 0 [a0, a1, a2, a3, a4, a5, a6, a7, a8, a9, a10, a11, a12, a13])) = ys[0]? at t0
  rw [kBool, List.getElem?_eq_getElem (by omega)] at t0
  obtain ⟨z0, e0, _⟩ := DataW.trod_bool Tryz.underlying4 t0
  have t1 := hf 1 _ rfl
  change DataW.trod enc Tryz.prog w base spare held n 3 (List.take (Tryz.prog.cellsOf 3) (List.drop 1 [a0, a1, a2, a3, a4, a5, a6, a7, a8, a9, a10, a11, a12, a13])) = ys[1]? at t1
  rw [kInt, List.getElem?_eq_getElem (by omega)] at t1
  obtain ⟨z1, e1, _, w1⟩ := DataW.trod_int Tryz.underlying3 t1
  have t2 := hf 2 _ rfl
  change DataW.trod enc Tryz.prog w base spare held n 9 (List.take (Tryz.prog.cellsOf 9) (List.drop 2 [a0, a1, a2, a3, a4, a5, a6, a7, a8, a9, a10, a11, a12, a13])) = ys[2]? at t2
  rw [kStr, List.getElem?_eq_getElem (by omega)] at t2
  obtain ⟨z2, e2, _, w2⟩ := DataW.trod_string Tryz.underlying9 t2
  have t3 := hf 3 _ rfl
  change DataW.trod enc Tryz.prog w base spare held n 3 (List.take (Tryz.prog.cellsOf 3) (List.drop 3 [a0, a1, a2, a3, a4, a5, a6, a7, a8, a9, a10, a11, a12, a13])) = ys[3]? at t3
  rw [kInt, List.getElem?_eq_getElem (by omega)] at t3
  obtain ⟨z3, e3, _, w3⟩ := DataW.trod_int Tryz.underlying3 t3
  have t4 := hf 4 _ rfl
  change DataW.trod enc Tryz.prog w base spare held n 3 (List.take (Tryz.prog.cellsOf 3) (List.drop 4 [a0, a1, a2, a3, a4, a5, a6, a7, a8, a9, a10, a11, a12, a13])) = ys[4]? at t4
  rw [kInt, List.getElem?_eq_getElem (by omega)] at t4
  obtain ⟨z4, e4, _, w4⟩ := DataW.trod_int Tryz.underlying3 t4
  have t5 := hf 5 _ rfl
  change DataW.trod enc Tryz.prog w base spare held n 3 (List.take (Tryz.prog.cellsOf 3) (List.drop 5 [a0, a1, a2, a3, a4, a5, a6, a7, a8, a9, a10, a11, a12, a13])) = ys[5]? at t5
  rw [kInt, List.getElem?_eq_getElem (by omega)] at t5
  obtain ⟨z5, e5, _, w5⟩ := DataW.trod_int Tryz.underlying3 t5
  have t6 := hf 6 _ rfl
  change DataW.trod enc Tryz.prog w base spare held n 3 (List.take (Tryz.prog.cellsOf 3) (List.drop 6 [a0, a1, a2, a3, a4, a5, a6, a7, a8, a9, a10, a11, a12, a13])) = ys[6]? at t6
  rw [kInt, List.getElem?_eq_getElem (by omega)] at t6
  obtain ⟨z6, e6, _, w6⟩ := DataW.trod_int Tryz.underlying3 t6
  have t7 := hf 7 _ rfl
  change DataW.trod enc Tryz.prog w base spare held n 3 (List.take (Tryz.prog.cellsOf 3) (List.drop 7 [a0, a1, a2, a3, a4, a5, a6, a7, a8, a9, a10, a11, a12, a13])) = ys[7]? at t7
  rw [kInt, List.getElem?_eq_getElem (by omega)] at t7
  obtain ⟨z7, e7, _, w7⟩ := DataW.trod_int Tryz.underlying3 t7
  have t8 := hf 8 _ rfl
  change DataW.trod enc Tryz.prog w base spare held n 93 (List.take (Tryz.prog.cellsOf 93) (List.drop 8 [a0, a1, a2, a3, a4, a5, a6, a7, a8, a9, a10, a11, a12, a13])) = ys[8]? at t8
  rw [kBand, List.getElem?_eq_getElem (by omega)] at t8
  have t9 := hf 9 _ rfl
  change DataW.trod enc Tryz.prog w base spare held n 94 (List.take (Tryz.prog.cellsOf 94) (List.drop 13 [a0, a1, a2, a3, a4, a5, a6, a7, a8, a9, a10, a11, a12, a13])) = ys[9]? at t9
  rw [kShelves, List.getElem?_eq_getElem (by omega)] at t9
  obtain ⟨B, la, lc, da, dc, e8, s1, s2, m1, m2⟩ := open_band t8
  obtain ⟨sa, sc, S, e9, m3, s3⟩ := open_shelfs t9
  simp only [List.drop_zero, List.drop_succ_cons, List.take_succ_cons, List.take_zero, List.cons.injEq, and_true] at e0 e1 e2 e3 e4 e5 e6 e7 e8 e9
  obtain ⟨e8, e10, e11, e12, e13⟩ := e8
  subst e0 e1 e2 e3 e4 e5 e6 e7 e8 e9 e10 e11 e12 e13
  unfold maxLen at w2
  have w6b : z6 ≤ 9223372036854775807 := by simp only [Lit.wf, Bool.and_eq_true, decide_eq_true_eq] at w6; exact w6.2
  exact ⟨⟨⟨z0, z1, z2, z3, z4, z5, z6, z7, B, S⟩, ⟨la, lc, da, dc, sa, sc⟩⟩, rfl, s1, s2, s3, m1, m2, m3, w2, w6b⟩
theorem open_groups {H : Type} {enc : TypeId × Value → H} {w : World} {base : Nat} {spare : Nat → Bool} {held : Bool} {fuel : Nat} {cs : List Value} {x : DataW H × List MemPlace} (h : DataW.trod enc Tryz.prog w base spare held fuel 24 cs = some x) : ∃ (A : Option Addr) (cap : Nat) (L : List (GroupM × GH)), cs = [.slice A L.length cap] ∧ L.length ≤ 9223372036854775807 ∧ GroupS w A (fun k => (L.getD k (⟨false, 0, .empty, 0, 0, 0, 0, 0, ⟨0, 0, 0, [], []⟩, []⟩, ⟨none, 0, none, 0, none, 0⟩)).2) (L.map Prod.fst) ∧ ∀ k (hk : k < L.length), GrpR w L[k] := by
  obtain ⟨A, cap, L, h1, h2, h3⟩ := open_list (P := Tryz.prog) (w := w) (fun m : GroupM × GH => [.bool m.1.used, .int .i64 m.1.parent, .string m.1.name, .int .i64 m.1.weight, .int .i64 m.1.cpus, .int .i64 m.1.period, .int .i64 m.1.next, .int .i64 m.1.sum, .int .i64 m.1.band.quota, .int .i64 m.1.band.pool, .int .i64 m.1.band.spent, .slice m.2.la m.1.band.locals.length m.2.lc, .slice m.2.da m.1.band.dry.length m.2.dc, .slice m.2.sa m.1.shelves.length m.2.sc]) 14 (GrpR w) Tryz.underlying24 (by kernel_rfl) (by decide) (fun f c y hh => open_group hh) h
  refine ⟨A, cap, L, h1, h2, ⟨fun k hk => ?_, fun k hk => ?_, fun k hk => ?_, fun k hk => ?_⟩, fun k hk => (h3 k hk).2⟩
  all_goals have hk' : k < L.length := by simpa using hk
  all_goals have e1 : (L.map Prod.fst)[k] = L[k].1 := by simp
  all_goals have e2 : (L.getD k (⟨false, 0, .empty, 0, 0, 0, 0, 0, ⟨0, 0, 0, [], []⟩, []⟩, ⟨none, 0, none, 0, none, 0⟩)) = L[k] := by simp [hk']
  · obtain ⟨⟨b, o, rfl, hb, hc⟩, _⟩ := h3 k hk'
    rw [e1]
    simp only [e2]
    exact ⟨b, o, rfl, hb, by simpa using hc 0 (by decide), by simpa using hc 1 (by decide), by simpa using hc 2 (by decide), by simpa using hc 3 (by decide), by simpa using hc 4 (by decide), by simpa using hc 5 (by decide), by simpa using hc 6 (by decide), by simpa using hc 7 (by decide), by simpa using hc 8 (by decide), by simpa using hc 9 (by decide), by simpa using hc 10 (by decide), by simpa using hc 11 (by decide), by simpa using hc 12 (by decide), by simpa using hc 13 (by decide)⟩
  · obtain ⟨_, r⟩ := h3 k hk'
    rw [e1]; simp only [e2]; exact r.1
  · obtain ⟨_, r⟩ := h3 k hk'
    rw [e1]; simp only [e2]; exact r.2.1
  · obtain ⟨_, r⟩ := h3 k hk'
    rw [e1]; simp only [e2]; exact r.2.2.1
/-- a world that came in -/
theorem open_world {H : Type} {enc : TypeId × Value → H} {w : World} {base : Nat} {spare : Nat → Bool} {held : Bool} {fuel : Nat} {cs : List Value} {x : DataW H × List MemPlace} (h : DataW.trod enc Tryz.prog w base spare held fuel 26 cs = some x) : ∃ (h : WH) (M : WorldM), cs = [.int .i64 M.now, .slice h.ca M.cpus.length h.cc, .slice h.ta M.tasks.length h.tc, .slice h.ga M.groups.length h.gc] ∧ WAt w h M ∧ WMax M ∧ ∀ k (hk : k < M.groups.length), M.groups[k].next ≤ 9223372036854775807 := by
  obtain ⟨ys, n, _, _, hlen, hyl, hf⟩ := DataW.trod_struct Tryz.underlying26 h
  obtain ⟨a0, a1, a2, a3, rfl⟩ := list4 (show cs.length = 4 by rw [hlen]; kernel_rfl)
  have hy : ys.length = 4 := hyl
  have t0 := hf 0 _ rfl
  change DataW.trod enc Tryz.prog w base spare held n 3 (List.take (Tryz.prog.cellsOf 3) (List.drop 0 [a0, a1, a2, a3])) = ys[0]? at t0
  rw [kInt, List.getElem?_eq_getElem (by omega)] at t0
  have t1 := hf 1 _ rfl
  change DataW.trod enc Tryz.prog w base spare held n 22 (List.take (Tryz.prog.cellsOf 22) (List.drop 1 [a0, a1, a2, a3])) = ys[1]? at t1
  rw [kCpus, List.getElem?_eq_getElem (by omega)] at t1
  have t2 := hf 2 _ rfl
  change DataW.trod enc Tryz.prog w base spare held n 23 (List.take (Tryz.prog.cellsOf 23) (List.drop 2 [a0, a1, a2, a3])) = ys[2]? at t2
  rw [kTasks, List.getElem?_eq_getElem (by omega)] at t2
  have t3 := hf 3 _ rfl
  change DataW.trod enc Tryz.prog w base spare held n 24 (List.take (Tryz.prog.cellsOf 24) (List.drop 3 [a0, a1, a2, a3])) = ys[3]? at t3
  rw [kGroups, List.getElem?_eq_getElem (by omega)] at t3
  obtain ⟨z0, e0, _, _⟩ := DataW.trod_int Tryz.underlying3 t0
  obtain ⟨ca, cc, C, e1, m1, s1⟩ := open_cpus t1
  obtain ⟨ta, tc, T, e2, m2, s2⟩ := open_tasks t2
  obtain ⟨ga, gc, G, e3, m3, s3, r3⟩ := open_groups t3
  simp only [List.drop_zero, List.drop_succ_cons, List.take_succ_cons, List.take_zero, List.cons.injEq, and_true] at e0 e1 e2 e3
  subst e0 e1 e2 e3
  refine ⟨⟨ca, cc, ta, tc, ga, gc, _⟩, ⟨z0, C, T, G.map Prod.fst⟩, by simp, ⟨s1, s2, s3⟩, ⟨m1, m2, by simpa using m3, fun k hk => ?_⟩, fun k hk => ?_⟩
  · have hk' : k < G.length := by simpa using hk
    have e : (G.map Prod.fst)[k] = G[k].1 := by simp
    obtain ⟨_, _, _, q1, q2, q3, q4, _⟩ := r3 k hk'
    show GMax (G.map Prod.fst)[k]
    rw [e]
    exact ⟨q4, ⟨q1, q2⟩, q3⟩
  · have hk' : k < G.length := by simpa using hk
    have e : (G.map Prod.fst)[k] = G[k].1 := by simp
    obtain ⟨_, _, _, _, _, _, _, q⟩ := r3 k hk'
    show ((G.map Prod.fst)[k]).next ≤ _
    rw [e]; exact q
end Go.Proofs.YtknfpigaognklaaGreatDoor
