/- A world that is owned: its rows are blocks of its own, each known; writes. The laws' own copies of worlds are worlds that are owned. Marks in rows: each field a number, told by a counter. Marks in groups and in a world. -/
import Derived.Test.YtknfpigaognklaaGreatDoorWa
import Derived.Test.YtknfpigaognklaaGreatDoorLx
import Derived.Test.YtknfpigaognklaaGreatDoorZt
namespace Go.Proofs.YtknfpigaognklaaGreatDoor
open Go.RowKit
/-- all blocks but those of S are as they were -/
structure Keep (S : Nat → Prop) (w w' : World) : Prop where
  os : w'.os = w.os
  tape : w'.tape = w.tape
  output : w'.output = w.output
  size : w.heap.size ≤ w'.heap.size
  block : ∀ k, k < w.heap.size → ¬ S k → w'.heap[k]? = w.heap[k]?
theorem Keep.refl (S : Nat → Prop) (w : World) : Keep S w w := ⟨rfl, rfl, rfl, Nat.le_refl _, fun _ _ _ => rfl⟩
theorem Keep.trans {S : Nat → Prop} {a b c : World} (h : Keep S a b) (k : Keep S b c) : Keep S a c :=
  ⟨k.os.trans h.os, k.tape.trans h.tape, k.output.trans h.output, Nat.le_trans h.size k.size, fun i hi hs => (k.block i (Nat.lt_of_lt_of_le hi h.size) hs).trans (h.block i hi hs)⟩
theorem Keep.mono {S S' : Nat → Prop} {a b : World} (h : Keep S a b) (hS : ∀ k, k < a.heap.size → S k → S' k) : Keep S' a b :=
  ⟨h.os, h.tape, h.output, h.size, fun i hi hs => h.block i hi (fun x => hs (hS i hi x))⟩
/-- a second step whose blocks are those of the first, or new ones -/
theorem Keep.then_ {S S' : Nat → Prop} {a b c : World} (h : Keep S a b) (k : Keep S' b c) (hS : ∀ i, i < a.heap.size → S' i → S i) : Keep S a c :=
  ⟨k.os.trans h.os, k.tape.trans h.tape, k.output.trans h.output, Nat.le_trans h.size k.size, fun i hi hs => (k.block i (Nat.lt_of_lt_of_le hi h.size) (fun x => hs (hS i hi x))).trans (h.block i hi hs)⟩
theorem Keep.of_below {S : Nat → Prop} {a b : World} (h : Below a.heap.size a b) : Keep S a b := ⟨h.os, h.tape, h.output, h.size, fun i hi _ => h.block i hi⟩
theorem Keep.below {S : Nat → Prop} {a b : World} {B : Nat} (h : Keep S a b) (hB : B ≤ a.heap.size) (hS : ∀ k, S k → B ≤ k) : Below B a b :=
  ⟨h.os, h.tape, h.output, h.size, fun i hi => h.block i (Nat.lt_of_lt_of_le hi hB) (fun x => by have := hS i x; omega)⟩
theorem Keep.set {S : Nat → Prop} (w : World) (p : Addr) (u : Value) (hp : S p.block) : Keep S w (w.setCell p u) :=
  ⟨rfl, rfl, rfl, by simp [World.setCell], fun k _ hs => Below.heap_setCell _ _ _ _ (fun e => hs (e ▸ hp))⟩
theorem Keep.but {S : Nat → Prop} {w w' : World} {g : Nat} (h : But g w w') (hp : S g) : Keep S w w' :=
  ⟨h.os, h.tape, h.output, by rw [h.size]; exact Nat.le_refl _, fun k _ hs => h.block k (fun e => hs (e ▸ hp))⟩
theorem Keep.blk {S : Nat → Prop} {w w' : World} {g : Nat} {t : TypeId} {cs : Array Value} (h : Keep S w w') (hb : Blk w g t cs) (hg : ¬ S g) : Blk w' g t cs := (h.block g hb.lt hg).trans hb
/-- a row of a block of its own; f says what lies at place i of part k -/
def RowR (w : World) (B : Nat) (A : Option Addr) (T : TypeId) (n len : Nat) (f : Nat → Nat → Value) : Prop :=
  (A = none ∧ len = 0) ∨ ∃ g C, A = some ⟨g, 0, none⟩ ∧ B ≤ g ∧ Blk w g T C ∧ ∀ k i, k < len → i < n → C[k * n + i]? = some (f k i)
section
variable {w w' : World} {B : Nat} {A : Option Addr} {T : TypeId} {n len : Nat} {f f' : Nat → Nat → Value}
theorem RowR.mk_ {g : Nat} {C : Array Value} (hB : B ≤ g) (hb : Blk w g T C) (h : ∀ k i, k < len → i < n → C[k * n + i]? = some (f k i)) : RowR w B (some ⟨g, 0, none⟩) T n len f := .inr ⟨g, C, rfl, hB, hb, h⟩
theorem RowR.nil : RowR w B none T n 0 f := .inl ⟨rfl, rfl⟩
theorem RowR.congr (h : RowR w B A T n len f) (hf : ∀ k i, k < len → i < n → f k i = f' k i) : RowR w B A T n len f' := by
  rcases h with h | ⟨g, C, hA, hB, hb, hc⟩
  · exact .inl h
  · exact .inr ⟨g, C, hA, hB, hb, fun k i hk hi => by rw [← hf k i hk hi]; exact hc k i hk hi⟩
theorem RowR.mono {B' : Nat} (h : RowR w B A T n len f) (hB : B' ≤ B) : RowR w B' A T n len f := by
  rcases h with h | ⟨g, C, hA, hB', hb, hc⟩
  · exact .inl h
  · exact .inr ⟨g, C, hA, Nat.le_trans hB hB', hb, hc⟩
theorem RowR.lt (h : RowR w B A T n len f) {a : Addr} (ha : A = some a) : B ≤ a.block ∧ a.block < w.heap.size := by
  rcases h with ⟨h, _⟩ | ⟨g, C, hA, hB, hb, hc⟩
  · rw [h] at ha; cases ha
  · rw [hA] at ha; cases ha; exact ⟨hB, hb.lt⟩
theorem RowR.form (h : RowR w B A T n len f) {a : Addr} (ha : A = some a) : a = ⟨a.block, 0, none⟩ := by
  rcases h with ⟨h, _⟩ | ⟨g, C, hA, hB, hb, hc⟩
  · rw [h] at ha; cases ha
  · rw [hA] at ha; cases ha; rfl
theorem RowR.keep {S : Nat → Prop} (h : RowR w B A T n len f) (hk : Keep S w w') (hS : ∀ a, A = some a → ¬ S a.block) : RowR w' B A T n len f := by
  rcases h with h | ⟨g, C, hA, hB, hb, hc⟩
  · exact .inl h
  · exact .inr ⟨g, C, hA, hB, hk.blk hb (hS _ hA), hc⟩
theorem RowR.below (h : RowR w B A T n len f) (hb : Below w.heap.size w w') : RowR w' B A T n len f := by
  rcases h with h | ⟨g, C, hA, hB, hbk, hc⟩
  · exact .inl h
  · exact .inr ⟨g, C, hA, hB, (hb.block g hbk.lt).trans hbk, hc⟩
/-- rows of different kinds lie in different blocks -/
theorem RowR.ne {B' n' len' : Nat} {A' : Option Addr} {T' : TypeId} {f2 : Nat → Nat → Value} (h : RowR w B A T n len f) (h' : RowR w B' A' T' n' len' f2) (hT : T ≠ T') {a a' : Addr} (ha : A = some a) (ha' : A' = some a') : a.block ≠ a'.block := by
  rcases h with ⟨h, _⟩ | ⟨g, C, hA, hB, hb, hc⟩
  · rw [h] at ha; cases ha
  rcases h' with ⟨h', _⟩ | ⟨g', C', hA', hB', hb', hc'⟩
  · rw [h'] at ha'; cases ha'
  rw [hA] at ha; rw [hA'] at ha'
  cases ha; cases ha'
  intro e
  have e' : g = g' := e
  subst e'
  unfold Blk at hb hb'
  rw [hb] at hb'
  simp only [Option.some.injEq, Obj.cells.injEq] at hb'
  exact hT hb'.2.1
theorem RowR.cell (h : RowR w B A T n len f) {k i : Nat} (hk : k < len) (hi : i < n) : ∃ g, A = some ⟨g, 0, none⟩ ∧ g < w.heap.size ∧ B ≤ g ∧ w.cell? ⟨g, k * n + i, none⟩ = some (f k i) ∧ w.frozen? ⟨g, k * n + i, none⟩ = false := by
  rcases h with ⟨_, h⟩ | ⟨g, C, hA, hB, hb, hc⟩
  · omega
  · exact ⟨g, hA, hb.lt, hB, by rw [hb.cell]; exact hc k i hk hi, hb.frozen _⟩
/-- a write at place i of part k -/
theorem RowR.set (h : RowR w B A T n len f) {g k i : Nat} (hA : A = some ⟨g, 0, none⟩) (hk : k < len) (hi : i < n) (u : Value) :
    RowR (w.setCell ⟨g, k * n + i, none⟩ u) B A T n len (fun k' i' => if k' = k ∧ i' = i then u else f k' i') := by
  rcases h with ⟨h, _⟩ | ⟨g', C, hA', hB, hb, hc⟩
  · rw [h] at hA; cases hA
  · rw [hA] at hA'
    cases hA'
    refine .inr ⟨g, _, hA, hB, hb.set_ _ _, fun k' i' hk' hi' => ?_⟩
    have hs : k * n + i < C.size := by
      rcases Nat.lt_or_ge (k * n + i) C.size with h | h
      · exact h
      · have := hc k i hk hi; rw [Array.getElem?_eq_none h] at this; cases this
    rw [Array.getElem?_setIfInBounds]
    by_cases e : k' = k ∧ i' = i
    · obtain ⟨rfl, rfl⟩ := e
      simp [hs]
    · show _ = some (if k' = k ∧ i' = i then u else f k' i')
      rw [if_neg e, if_neg ?_]
      · exact hc k' i' hk' hi'
      · intro e2
        apply e
        have h1 : (k * n + i) / n = k := by rw [Nat.mul_comm, Nat.mul_add_div (by omega), Nat.div_eq_of_lt hi, Nat.add_zero]
        have h2 : (k' * n + i') / n = k' := by rw [Nat.mul_comm, Nat.mul_add_div (by omega), Nat.div_eq_of_lt hi', Nat.add_zero]
        have h3 : k' = k := by rw [← h1, ← h2, e2]
        subst h3
        exact ⟨rfl, by omega⟩
theorem RowR.set' (h : RowR w B A T n len f) {g k i : Nat} (hA : A = some ⟨g, 0, none⟩) (hk : k < len) (hi : i < n) (u : Value) (hf : ∀ k' i', k' < len → i' < n → (if k' = k ∧ i' = i then u else f k' i') = f' k' i') :
    RowR (w.setCell ⟨g, k * n + i, none⟩ u) B A T n len f' := (h.set hA hk hi u).congr hf
end
def cpuF (x : CpuM) : Nat → Value
  | 0 => .bool x.up | 1 => .int .i64 x.cur | 2 => .int .i64 x.ran | 3 => .int .i64 x.busy | _ => .int .i64 x.idle
def taskF (x : TaskM) : Nat → Value
  | 0 => .int .i64 x.st | 1 => .int .i64 x.gr | 2 => .int .i64 x.cpu | 3 => .int .i64 x.nice | 4 => .int .i64 x.mask | 5 => .int .i64 x.v | 6 => .int .i64 x.sum | 7 => .int .i64 x.used | _ => .int .i64 x.load
def shelfF (x : ShelfM) : Nat → Value
  | 0 => .int .i64 x.floor | 1 => .bool x.on | 2 => .int .i64 x.v | 3 => .int .i64 x.w | _ => .int .i64 x.sum
def groupF (x : GroupM) (h : GH) : Nat → Value
  | 0 => .bool x.used | 1 => .int .i64 x.parent | 2 => .string x.name | 3 => .int .i64 x.weight | 4 => .int .i64 x.cpus | 5 => .int .i64 x.period | 6 => .int .i64 x.next | 7 => .int .i64 x.sum
  | 8 => .int .i64 x.band.quota | 9 => .int .i64 x.band.pool | 10 => .int .i64 x.band.spent | 11 => .slice h.la x.band.locals.length h.lc | 12 => .slice h.da x.band.dry.length h.dc | _ => .slice h.sa x.shelves.length h.sc
abbrev CpuR (w : World) (B : Nat) (A : Option Addr) (L : List CpuM) : Prop := RowR w B A 48 5 L.length fun k => cpuF (L.getD k cpu0)
abbrev TaskR (w : World) (B : Nat) (A : Option Addr) (L : List TaskM) : Prop := RowR w B A 58 9 L.length fun k => taskF (L.getD k task0)
abbrev ShelfR (w : World) (B : Nat) (A : Option Addr) (L : List ShelfM) : Prop := RowR w B A 103 5 L.length fun k => shelfF (L.getD k shelf0)
abbrev IntR (w : World) (B : Nat) (A : Option Addr) (L : List Int) : Prop := RowR w B A 3 1 L.length fun k _ => .int .i64 (L.getD k 0)
abbrev BoolR (w : World) (B : Nat) (A : Option Addr) (L : List Bool) : Prop := RowR w B A 4 1 L.length fun k _ => .bool (L.getD k false)
abbrev GroupR (w : World) (B : Nat) (A : Option Addr) (H : Nat → GH) (L : List GroupM) : Prop := RowR w B A 55 14 L.length fun k => groupF (L.getD k group0) (H k)
/-- no two of a list lie in one block -/
def Sep (f : Nat → Option Addr) (n : Nat) : Prop := ∀ j k a, j < n → k < n → j ≠ k → f j = some a → f k ≠ some a
/-- a world that is owned, from block B on -/
structure Own (w : World) (B : Nat) (ca ta ga : Option Addr) (gh : Nat → GH) (M : WorldM) : Prop where
  cpu : CpuR w B ca M.cpus
  task : TaskR w B ta M.tasks
  grps : GroupR w B ga gh M.groups
  loc : ∀ k, k < M.groups.length → IntR w B (gh k).la (grp M k).band.locals
  dry : ∀ k, k < M.groups.length → BoolR w B (gh k).da (grp M k).band.dry
  she : ∀ k, k < M.groups.length → ShelfR w B (gh k).sa (grp M k).shelves
  sepL : Sep (fun k => (gh k).la) M.groups.length
  sepD : Sep (fun k => (gh k).da) M.groups.length
  sepS : Sep (fun k => (gh k).sa) M.groups.length
/-- the blocks of a world -/
def Has (ca ta ga : Option Addr) (gh : Nat → GH) (n g : Nat) : Prop :=
  ca = some ⟨g, 0, none⟩ ∨ ta = some ⟨g, 0, none⟩ ∨ ga = some ⟨g, 0, none⟩ ∨ ∃ k, k < n ∧ ((gh k).la = some ⟨g, 0, none⟩ ∨ (gh k).da = some ⟨g, 0, none⟩ ∨ (gh k).sa = some ⟨g, 0, none⟩)
theorem CpuS.own {w : World} {B : Nat} {A : Option Addr} {L : List CpuM} (h : CpuR w B A L) : CpuS w A L := ⟨fun k hk => by
  obtain ⟨g, rfl, hg, _, h0, _⟩ := h.cell hk (i := 0) (by omega)
  obtain ⟨_, e, _, _, h1, _⟩ := h.cell hk (i := 1) (by omega); cases e
  obtain ⟨_, e, _, _, h2, _⟩ := h.cell hk (i := 2) (by omega); cases e
  obtain ⟨_, e, _, _, h3, _⟩ := h.cell hk (i := 3) (by omega); cases e
  obtain ⟨_, e, _, _, h4, _⟩ := h.cell hk (i := 4) (by omega); cases e
  rw [show L.getD k cpu0 = L[k] by simp [hk]] at h0 h1 h2 h3 h4
  exact ⟨g, 0, rfl, hg, by simpa [cpuF] using h0, by simpa [cpuF] using h1, by simpa [cpuF] using h2, by simpa [cpuF] using h3, by simpa [cpuF] using h4⟩⟩
theorem TaskS.own {w : World} {B : Nat} {A : Option Addr} {L : List TaskM} (h : TaskR w B A L) : TaskS w A L := ⟨fun k hk => by
  obtain ⟨g, rfl, hg, _, h0, _⟩ := h.cell hk (i := 0) (by omega)
  have c : ∀ i, i < 9 → w.cell? ⟨g, k * 9 + i, none⟩ = some (taskF L[k] i) := fun i hi => by
    obtain ⟨_, e, _, _, h1, _⟩ := h.cell hk (i := i) hi; cases e
    rw [show L.getD k task0 = L[k] by simp [hk]] at h1
    exact h1
  exact ⟨g, 0, rfl, hg, by simpa [taskF] using c 0 (by omega), by simpa [taskF] using c 1 (by omega), by simpa [taskF] using c 2 (by omega), by simpa [taskF] using c 3 (by omega), by simpa [taskF] using c 4 (by omega), by simpa [taskF] using c 5 (by omega), by simpa [taskF] using c 6 (by omega), by simpa [taskF] using c 7 (by omega), by simpa [taskF] using c 8 (by omega)⟩⟩
theorem ShelfS.own {w : World} {B : Nat} {A : Option Addr} {L : List ShelfM} (h : ShelfR w B A L) : ShelfS w A L := ⟨fun k hk => by
  obtain ⟨g, rfl, hg, _, h0, _⟩ := h.cell hk (i := 0) (by omega)
  have c : ∀ i, i < 5 → w.cell? ⟨g, k * 5 + i, none⟩ = some (shelfF L[k] i) := fun i hi => by
    obtain ⟨_, e, _, _, h1, _⟩ := h.cell hk (i := i) hi; cases e
    rw [show L.getD k shelf0 = L[k] by simp [hk]] at h1
    exact h1
  exact ⟨g, 0, rfl, hg, by simpa [shelfF] using c 0 (by omega), by simpa [shelfF] using c 1 (by omega), by simpa [shelfF] using c 2 (by omega), by simpa [shelfF] using c 3 (by omega), by simpa [shelfF] using c 4 (by omega)⟩⟩
theorem IntS.own_ {w : World} {B : Nat} {A : Option Addr} {L : List Int} (h : IntR w B A L) : IntS w A L := ⟨fun k hk => by
  obtain ⟨g, rfl, hg, _, h0, _⟩ := h.cell hk (i := 0) (by omega)
  rw [show L.getD k 0 = L[k] by simp [hk]] at h0
  exact ⟨g, 0, rfl, hg, by simpa using h0⟩⟩
theorem BoolS.own {w : World} {B : Nat} {A : Option Addr} {L : List Bool} (h : BoolR w B A L) : BoolS w A L := ⟨fun k hk => by
  obtain ⟨g, rfl, hg, _, h0, _⟩ := h.cell hk (i := 0) (by omega)
  rw [show L.getD k false = L[k] by simp [hk]] at h0
  exact ⟨g, 0, rfl, hg, by simpa using h0⟩⟩
section
variable {w w' : World} {B : Nat} {ca ta ga : Option Addr} {gh : Nat → GH} {M : WorldM}
theorem Own.wa (h : Own w B ca ta ga gh M) : WA w ca ta ga gh M :=
  ⟨CpuS.own h.cpu, TaskS.own h.task, ⟨fun k hk => by
    obtain ⟨g, rfl, hg, _, h0, _⟩ := h.grps.cell hk (i := 0) (by omega)
    have c : ∀ i, i < 14 → w.cell? ⟨g, k * 14 + i, none⟩ = some (groupF M.groups[k] (gh k) i) := fun i hi => by
      obtain ⟨_, e, _, _, h1, _⟩ := h.grps.cell hk (i := i) hi; cases e
      rw [show M.groups.getD k group0 = M.groups[k] by simp [hk]] at h1
      exact h1
    exact ⟨g, 0, rfl, hg, by simpa [groupF] using c 0 (by omega), by simpa [groupF] using c 1 (by omega), by simpa [groupF] using c 2 (by omega), by simpa [groupF] using c 3 (by omega), by simpa [groupF] using c 4 (by omega), by simpa [groupF] using c 5 (by omega), by simpa [groupF] using c 6 (by omega), by simpa [groupF] using c 7 (by omega), by simpa [groupF] using c 8 (by omega), by simpa [groupF] using c 9 (by omega), by simpa [groupF] using c 10 (by omega), by simpa [groupF] using c 11 (by omega), by simpa [groupF] using c 12 (by omega), by simpa [groupF] using c 13 (by omega)⟩,
    fun k hk => by rw [grp_eq hk]; exact IntS.own_ (h.loc k hk), fun k hk => by rw [grp_eq hk]; exact BoolS.own (h.dry k hk), fun k hk => by rw [grp_eq hk]; exact ShelfS.own (h.she k hk)⟩⟩
theorem Own.keep {S : Nat → Prop} (h : Own w B ca ta ga gh M) (hk : Keep S w w') (hS : ∀ g, Has ca ta ga gh M.groups.length g → ¬ S g) : Own w' B ca ta ga gh M :=
  have go : ∀ {T n len f} {A : Option Addr}, RowR w B A T n len f → (∀ g, A = some ⟨g, 0, none⟩ → Has ca ta ga gh M.groups.length g) → RowR w' B A T n len f := fun hr hh => hr.keep hk fun a ha => by
    have := hr.form ha
    exact hS _ (hh _ (by rw [ha, ← this]))
  ⟨go h.cpu fun g e => .inl e, go h.task fun g e => .inr (.inl e), go h.grps fun g e => .inr (.inr (.inl e)),
   fun k hk' => go (h.loc k hk') fun g e => .inr (.inr (.inr ⟨k, hk', .inl e⟩)), fun k hk' => go (h.dry k hk') fun g e => .inr (.inr (.inr ⟨k, hk', .inr (.inl e)⟩)), fun k hk' => go (h.she k hk') fun g e => .inr (.inr (.inr ⟨k, hk', .inr (.inr e)⟩)), h.sepL, h.sepD, h.sepS⟩
theorem Own.below (h : Own w B ca ta ga gh M) (hb : Below w.heap.size w w') : Own w' B ca ta ga gh M :=
  ⟨h.cpu.below hb, h.task.below hb, h.grps.below hb, fun k hk => (h.loc k hk).below hb, fun k hk => (h.dry k hk).below hb, fun k hk => (h.she k hk).below hb, h.sepL, h.sepD, h.sepS⟩
theorem Own.mono {B' : Nat} (h : Own w B ca ta ga gh M) (hB : B' ≤ B) : Own w B' ca ta ga gh M :=
  ⟨h.cpu.mono hB, h.task.mono hB, h.grps.mono hB, fun k hk => (h.loc k hk).mono hB, fun k hk => (h.dry k hk).mono hB, fun k hk => (h.she k hk).mono hB, h.sepL, h.sepD, h.sepS⟩
/-- the blocks of an owned world lie from B on, and are there -/
theorem Own.has (h : Own w B ca ta ga gh M) {g : Nat} (hg : Has ca ta ga gh M.groups.length g) : B ≤ g ∧ g < w.heap.size := by
  rcases hg with hg | hg | hg | ⟨k, hk, hg | hg | hg⟩
  · exact h.cpu.lt hg
  · exact h.task.lt hg
  · exact h.grps.lt hg
  · exact (h.loc k hk).lt hg
  · exact (h.dry k hk).lt hg
  · exact (h.she k hk).lt hg
end
end Go.Proofs.YtknfpigaognklaaGreatDoor
namespace Go.Proofs.YtknfpigaognklaaGreatDoor
open Go.RowKit
theorem RowR.but {w w' : World} {B : Nat} {A : Option Addr} {T : TypeId} {n len g : Nat} {f : Nat → Nat → Value} (h : RowR w B A T n len f) (hb : But g w w') (hg : ∀ a, A = some a → a.block ≠ g) : RowR w' B A T n len f := by
  rcases h with h | ⟨g', C, hA, hB, hbk, hc⟩
  · exact .inl h
  · exact .inr ⟨g', C, hA, hB, (hb.block g' (fun e => hg _ hA e)).trans hbk, hc⟩
theorem CpuPut.own {w : World} {g B : Nat} {C : Array Value} {L : List CpuM} (hB : B ≤ g) (hb : Blk w g 48 C) (h : CpuPut C L L.length) : CpuR w B (some ⟨g, 0, none⟩) L :=
  RowR.mk_ hB hb fun k i hk hi => by
    obtain ⟨h0, h1, h2, h3, h4⟩ := h k hk hk
    rw [show L.getD k cpu0 = L[k] by simp [hk]]
    rcases i with _ | _ | _ | _ | _ | i
    all_goals first | assumption | (exfalso; omega)
set_option maxHeartbeats 400000 in
theorem toCpuS_own (A : Option Addr) (cap : Nat) (L : List CpuM) (w : World) (hl : L.length ≤ 1048576) (hs : CpuS w A L) :
    Calls Tryz.prog 27 #[.slice A L.length cap] w fun e w' => ∃ g, e = .returned (.slice (some ⟨g, 0, none⟩) L.length L.length) ∧ Below w.heap.size w w' ∧ w.heap.size ≤ g ∧ CpuR w' w.heap.size (some ⟨g, 0, none⟩) L := by
  obtain ⟨C0, hsz, hmk⟩ := made (P := Tryz.prog) 29 48 _ _ _ Tryz.underlying29 infoCpu L.length (by omega) (by omega)
  have HZ := Lib.hid hsz
  clear hsz
  go_enter Tryz.func27, Tryz.ntmps27
  go_wp2
  go_loopw [4] (fun i wr => ∃ (k : Nat) (C : Array Value), k ≤ L.length ∧ i = .int .i64 k ∧ Blk wr w.heap.size 48 C ∧ C.size = L.length * 5 ∧ CpuPut C L k ∧ Below w.heap.size w wr) (fun i _ => L.length - (intOf i).toNat)
  case atStart => exact ⟨0, C0, Nat.zero_le _, rfl, Blk.new _ _ _, HZ.out, fun j _ h => by omega, (Below.refl _ _).alloc (Nat.le_refl _) _⟩
  case round =>
    obtain ⟨k, C, hk, rfl, hblk, hcs, hput, hb⟩ := hrel
    have HC := Lib.hid hcs
    have HP := Lib.hid hput
    have HB := Lib.hid hblk
    clear hcs hput hblk
    by_cases hlt : k < L.length
    · obtain ⟨b, o, rfl, hB, c0, c1, c2, c3, c4⟩ := (hs.keep hb).at_ k hlt
      have hg : w.heap.size < wr.heap.size := HB.out.lt
      go_wp2_with fail
      refine (toCpu_any L[k] _).mono ?_
      rintro e w2 ⟨rfl, hb2⟩
      have hbl := HB.out.below hb2 hg
      have hCs := HC.out
      obtain ⟨v0, d0⟩ := hbl.in_ (k * 5) (by omega)
      obtain ⟨v1, d1⟩ := hbl.in_ (k * 5 + 1) (by omega)
      obtain ⟨v2, d2⟩ := hbl.in_ (k * 5 + 2) (by omega)
      obtain ⟨v3, d3⟩ := hbl.in_ (k * 5 + 3) (by omega)
      obtain ⟨v4, d4⟩ := hbl.in_ (k * 5 + 4) (by omega)
      have f := fun i => hbl.frozen i
      clear hCs
      have HB2 := Lib.hid hbl
      clear hbl
      go_wp2
      go_roundw
      case rel => exact ⟨k + 1, _, by omega, by go_num, ((((HB2.out.set_ _ _).set_ _ _).set_ _ _).set_ _ _).set_ _ _, by simp [HC.out], CpuPut.step hlt HC.out HP.out, (((((hb.andThen hb2).setCell (Nat.le_refl _) _).setCell (Nat.le_refl _) _).setCell (Nat.le_refl _) _).setCell (Nat.le_refl _) _).setCell (Nat.le_refl _) _⟩
      case measure => simp [intOf]; omega
    · go_wp2
      go_ret
      exact ⟨_, rfl, hb, Nat.le_refl _, CpuPut.own (Nat.le_refl _) HB.out (by rw [show k = L.length by omega] at HP; exact HP.out)⟩
theorem TaskPut.own {w : World} {g B : Nat} {C : Array Value} {L : List TaskM} (hB : B ≤ g) (hb : Blk w g 58 C) (h : TaskPut C L L.length) : TaskR w B (some ⟨g, 0, none⟩) L :=
  RowR.mk_ hB hb fun k i hk hi => by
    obtain ⟨h0, h1, h2, h3, h4, h5, h6, h7, h8⟩ := h k hk hk
    rw [show L.getD k task0 = L[k] by simp [hk]]
    rcases i with _ | _ | _ | _ | _ | _ | _ | _ | _ | i
    all_goals first | assumption | (exfalso; omega)
set_option maxHeartbeats 400000 in
theorem toTaskS_own (A : Option Addr) (cap : Nat) (L : List TaskM) (w : World) (hl : L.length ≤ 1048576) (hs : TaskS w A L) :
    Calls Tryz.prog 28 #[.slice A L.length cap] w fun e w' => ∃ g, e = .returned (.slice (some ⟨g, 0, none⟩) L.length L.length) ∧ Below w.heap.size w w' ∧ w.heap.size ≤ g ∧ TaskR w' w.heap.size (some ⟨g, 0, none⟩) L := by
  obtain ⟨C0, hsz, hmk⟩ := made (P := Tryz.prog) 30 58 _ _ _ Tryz.underlying30 infoTask L.length (by omega) (by omega)
  have HZ := Lib.hid hsz
  clear hsz
  go_enter Tryz.func28, Tryz.ntmps28
  go_wp2
  go_loopw [4] (fun i wr => ∃ (k : Nat) (C : Array Value), k ≤ L.length ∧ i = .int .i64 k ∧ Blk wr w.heap.size 58 C ∧ C.size = L.length * 9 ∧ TaskPut C L k ∧ Below w.heap.size w wr) (fun i _ => L.length - (intOf i).toNat)
  case atStart => exact ⟨0, C0, Nat.zero_le _, rfl, Blk.new _ _ _, HZ.out, fun j _ h => by omega, (Below.refl _ _).alloc (Nat.le_refl _) _⟩
  case round =>
    obtain ⟨k, C, hk, rfl, hblk, hcs, hput, hb⟩ := hrel
    have HC := Lib.hid hcs
    have HP := Lib.hid hput
    have HB := Lib.hid hblk
    clear hcs hput hblk
    by_cases hlt : k < L.length
    · obtain ⟨b, o, rfl, hB, c0, c1, c2, c3, c4, c5, c6, c7, c8⟩ := (hs.keep hb).at_ k hlt
      have hg : w.heap.size < wr.heap.size := HB.out.lt
      go_wp2_with fail
      refine (toTask_any L[k] _).mono ?_
      rintro e w2 ⟨rfl, hb2⟩
      have hbl := HB.out.below hb2 hg
      have hCs := HC.out
      obtain ⟨v0, d0⟩ := hbl.in_ (k * 9) (by omega)
      obtain ⟨v1, d1⟩ := hbl.in_ (k * 9 + 1) (by omega)
      obtain ⟨v2, d2⟩ := hbl.in_ (k * 9 + 2) (by omega)
      obtain ⟨v3, d3⟩ := hbl.in_ (k * 9 + 3) (by omega)
      obtain ⟨v4, d4⟩ := hbl.in_ (k * 9 + 4) (by omega)
      obtain ⟨v5, d5⟩ := hbl.in_ (k * 9 + 5) (by omega)
      obtain ⟨v6, d6⟩ := hbl.in_ (k * 9 + 6) (by omega)
      obtain ⟨v7, d7⟩ := hbl.in_ (k * 9 + 7) (by omega)
      obtain ⟨v8, d8⟩ := hbl.in_ (k * 9 + 8) (by omega)
      have f := fun i => hbl.frozen i
      clear hCs
      have HB2 := Lib.hid hbl
      clear hbl
      go_wp2
      go_roundw
      case rel => exact ⟨k + 1, _, by omega, by go_num, ((((((((HB2.out.set_ _ _).set_ _ _).set_ _ _).set_ _ _).set_ _ _).set_ _ _).set_ _ _).set_ _ _).set_ _ _, by simp [HC.out], TaskPut.step hlt HC.out HP.out, (((((((((hb.andThen hb2).setCell (Nat.le_refl _) _).setCell (Nat.le_refl _) _).setCell (Nat.le_refl _) _).setCell (Nat.le_refl _) _).setCell (Nat.le_refl _) _).setCell (Nat.le_refl _) _).setCell (Nat.le_refl _) _).setCell (Nat.le_refl _) _).setCell (Nat.le_refl _) _⟩
      case measure => simp [intOf]; omega
    · go_wp2
      go_ret
      exact ⟨_, rfl, hb, Nat.le_refl _, TaskPut.own (Nat.le_refl _) HB.out (by rw [show k = L.length by omega] at HP; exact HP.out)⟩
theorem ShelfPut.own {w : World} {g B : Nat} {C : Array Value} {L : List ShelfM} (hB : B ≤ g) (hb : Blk w g 103 C) (h : ShelfPut C L L.length) : ShelfR w B (some ⟨g, 0, none⟩) L :=
  RowR.mk_ hB hb fun k i hk hi => by
    obtain ⟨h0, h1, h2, h3, h4⟩ := h k hk hk
    rw [show L.getD k shelf0 = L[k] by simp [hk]]
    rcases i with _ | _ | _ | _ | _ | i
    all_goals first | assumption | (exfalso; omega)
set_option maxHeartbeats 400000 in
theorem toShelfS_own (A : Option Addr) (cap : Nat) (L : List ShelfM) (w : World) (hl : L.length ≤ 1048576) (hs : ShelfS w A L) :
    Calls Tryz.prog 136 #[.slice A L.length cap] w fun e w' => ∃ g, e = .returned (.slice (some ⟨g, 0, none⟩) L.length L.length) ∧ Below w.heap.size w w' ∧ w.heap.size ≤ g ∧ ShelfR w' w.heap.size (some ⟨g, 0, none⟩) L := by
  obtain ⟨C0, hsz, hmk⟩ := made (P := Tryz.prog) 53 103 _ _ _ Tryz.underlying53 infoShelf L.length (by omega) (by omega)
  have HZ := Lib.hid hsz
  clear hsz
  go_enter Tryz.func136, Tryz.ntmps136
  go_wp2
  go_loopw [4] (fun i wr => ∃ (k : Nat) (C : Array Value), k ≤ L.length ∧ i = .int .i64 k ∧ Blk wr w.heap.size 103 C ∧ C.size = L.length * 5 ∧ ShelfPut C L k ∧ Below w.heap.size w wr) (fun i _ => L.length - (intOf i).toNat)
  case atStart => exact ⟨0, C0, Nat.zero_le _, rfl, Blk.new _ _ _, HZ.out, fun j _ h => by omega, (Below.refl _ _).alloc (Nat.le_refl _) _⟩
  case round =>
    obtain ⟨k, C, hk, rfl, hblk, hcs, hput, hb⟩ := hrel
    have HC := Lib.hid hcs
    have HP := Lib.hid hput
    have HB := Lib.hid hblk
    clear hcs hput hblk
    by_cases hlt : k < L.length
    · obtain ⟨b, o, rfl, hB, c0, c1, c2, c3, c4⟩ := (hs.keep hb).at_ k hlt
      have hg : w.heap.size < wr.heap.size := HB.out.lt
      go_wp2_with fail
      refine (toShelf_any L[k] _).mono ?_
      rintro e w2 ⟨rfl, hb2⟩
      have hbl := HB.out.below hb2 hg
      have hCs := HC.out
      obtain ⟨v0, d0⟩ := hbl.in_ (k * 5) (by omega)
      obtain ⟨v1, d1⟩ := hbl.in_ (k * 5 + 1) (by omega)
      obtain ⟨v2, d2⟩ := hbl.in_ (k * 5 + 2) (by omega)
      obtain ⟨v3, d3⟩ := hbl.in_ (k * 5 + 3) (by omega)
      obtain ⟨v4, d4⟩ := hbl.in_ (k * 5 + 4) (by omega)
      have f := fun i => hbl.frozen i
      clear hCs
      have HB2 := Lib.hid hbl
      clear hbl
      go_wp2
      go_roundw
      case rel => exact ⟨k + 1, _, by omega, by go_num, ((((HB2.out.set_ _ _).set_ _ _).set_ _ _).set_ _ _).set_ _ _, by simp [HC.out], ShelfPut.step hlt HC.out HP.out, (((((hb.andThen hb2).setCell (Nat.le_refl _) _).setCell (Nat.le_refl _) _).setCell (Nat.le_refl _) _).setCell (Nat.le_refl _) _).setCell (Nat.le_refl _) _⟩
      case measure => simp [intOf]; omega
    · go_wp2
      go_ret
      exact ⟨_, rfl, hb, Nat.le_refl _, ShelfPut.own (Nat.le_refl _) HB.out (by rw [show k = L.length by omega] at HP; exact HP.out)⟩
theorem IntSPut.own {w : World} {g B : Nat} {C : Array Value} {L : List Int} (hB : B ≤ g) (hb : Blk w g 3 C) (h : IntSPut C L L.length) : IntR w B (some ⟨g, 0, none⟩) L :=
  RowR.mk_ hB hb fun k i hk hi => by
    obtain rfl : i = 0 := by omega
    rw [show L.getD k 0 = L[k] by simp [hk]]
    simpa using h k hk hk
set_option maxHeartbeats 400000 in
theorem toIntS_own (A : Option Addr) (cap : Nat) (L : List Int) (w : World) (hl : L.length ≤ 1048576) (hs : IntS w A L) :
    Calls Tryz.prog 175 #[.slice A L.length cap] w fun e w' => ∃ g, e = .returned (.slice (some ⟨g, 0, none⟩) L.length L.length) ∧ Below w.heap.size w w' ∧ w.heap.size ≤ g ∧ IntR w' w.heap.size (some ⟨g, 0, none⟩) L := by
  obtain ⟨C0, hsz, hmk⟩ := made (P := Tryz.prog) 46 3 _ _ _ Tryz.underlying46 infoIntS L.length (by omega) (by omega)
  have HZ := Lib.hid hsz
  clear hsz
  go_enter Tryz.func175, Tryz.ntmps175
  go_wp2
  go_loopw [4] (fun i wr => ∃ (k : Nat) (C : Array Value), k ≤ L.length ∧ i = .int .i64 k ∧ Blk wr w.heap.size 3 C ∧ C.size = L.length ∧ IntSPut C L k ∧ Below w.heap.size w wr) (fun i _ => L.length - (intOf i).toNat)
  case atStart => exact ⟨0, C0, Nat.zero_le _, rfl, Blk.new _ _ _, by simpa using HZ.out, fun j _ h => by omega, (Below.refl _ _).alloc (Nat.le_refl _) _⟩
  case round =>
    obtain ⟨k, C, hk, rfl, hblk, hcs, hput, hb⟩ := hrel
    have HC := Lib.hid hcs
    have HP := Lib.hid hput
    by_cases hlt : k < L.length
    · obtain ⟨b, o, rfl, hB, c0⟩ := (hs.keep hb).at_ k hlt
      have hg : w.heap.size < wr.heap.size := hblk.lt
      obtain ⟨v0, d0⟩ := hblk.in_ k (by omega)
      have f := fun i => hblk.frozen i
      have HB := Lib.hid hblk
      clear hcs hput hblk
      go_wp2
      go_roundw
      case rel => exact ⟨k + 1, _, by omega, by go_num, HB.out.set_ _ _, by simp [HC.out], IntSPut.step hlt HC.out HP.out, hb.setCell (Nat.le_refl _) _⟩
      case measure => simp [intOf]; omega
    · go_wp2
      go_ret
      exact ⟨_, rfl, hb, Nat.le_refl _, IntSPut.own (Nat.le_refl _) hblk (by rw [show k = L.length by omega] at HP; exact HP.out)⟩
theorem BoolSPut.own {w : World} {g B : Nat} {C : Array Value} {L : List Bool} (hB : B ≤ g) (hb : Blk w g 4 C) (h : BoolSPut C L L.length) : BoolR w B (some ⟨g, 0, none⟩) L :=
  RowR.mk_ hB hb fun k i hk hi => by
    obtain rfl : i = 0 := by omega
    rw [show L.getD k false = L[k] by simp [hk]]
    simpa using h k hk hk
set_option maxHeartbeats 400000 in
theorem toBoolS_own (A : Option Addr) (cap : Nat) (L : List Bool) (w : World) (hl : L.length ≤ 1048576) (hs : BoolS w A L) :
    Calls Tryz.prog 176 #[.slice A L.length cap] w fun e w' => ∃ g, e = .returned (.slice (some ⟨g, 0, none⟩) L.length L.length) ∧ Below w.heap.size w w' ∧ w.heap.size ≤ g ∧ BoolR w' w.heap.size (some ⟨g, 0, none⟩) L := by
  obtain ⟨C0, hsz, hmk⟩ := made (P := Tryz.prog) 50 4 _ _ _ Tryz.underlying50 infoBoolS L.length (by omega) (by omega)
  have HZ := Lib.hid hsz
  clear hsz
  go_enter Tryz.func176, Tryz.ntmps176
  go_wp2
  go_loopw [4] (fun i wr => ∃ (k : Nat) (C : Array Value), k ≤ L.length ∧ i = .int .i64 k ∧ Blk wr w.heap.size 4 C ∧ C.size = L.length ∧ BoolSPut C L k ∧ Below w.heap.size w wr) (fun i _ => L.length - (intOf i).toNat)
  case atStart => exact ⟨0, C0, Nat.zero_le _, rfl, Blk.new _ _ _, by simpa using HZ.out, fun j _ h => by omega, (Below.refl _ _).alloc (Nat.le_refl _) _⟩
  case round =>
    obtain ⟨k, C, hk, rfl, hblk, hcs, hput, hb⟩ := hrel
    have HC := Lib.hid hcs
    have HP := Lib.hid hput
    by_cases hlt : k < L.length
    · obtain ⟨b, o, rfl, hB, c0⟩ := (hs.keep hb).at_ k hlt
      have hg : w.heap.size < wr.heap.size := hblk.lt
      obtain ⟨v0, d0⟩ := hblk.in_ k (by omega)
      have f := fun i => hblk.frozen i
      have HB := Lib.hid hblk
      clear hcs hput hblk
      go_wp2
      go_roundw
      case rel => exact ⟨k + 1, _, by omega, by go_num, HB.out.set_ _ _, by simp [HC.out], BoolSPut.step hlt HC.out HP.out, hb.setCell (Nat.le_refl _) _⟩
      case measure => simp [intOf]; omega
    · go_wp2
      go_ret
      exact ⟨_, rfl, hb, Nat.le_refl _, BoolSPut.own (Nat.le_refl _) hblk (by rw [show k = L.length by omega] at HP; exact HP.out)⟩
def TbPostO (x : BandM) (w : World) (e : Ending) (w' : World) : Prop := ∃ g1 g2 : Nat, e = .returned (.agg #[.int .i64 x.quota, .int .i64 x.pool, .int .i64 x.spent, .slice (some ⟨g1, 0, none⟩) x.locals.length x.locals.length, .slice (some ⟨g2, 0, none⟩) x.dry.length x.dry.length]) ∧
  Below w.heap.size w w' ∧ w.heap.size ≤ g1 ∧ w.heap.size ≤ g2 ∧ IntR w' w.heap.size (some ⟨g1, 0, none⟩) x.locals ∧ BoolR w' w.heap.size (some ⟨g2, 0, none⟩) x.dry
set_option maxHeartbeats 1000000 in
theorem toBand_own (x : BandM) (h : GH) (w : World) (hf : BFit x) (hl : IntS w h.la x.locals) (hd : BoolS w h.da x.dry) :
    Calls Tryz.prog 135 #[.agg #[.int .i64 x.quota, .int .i64 x.pool, .int .i64 x.spent, .slice h.la x.locals.length h.lc, .slice h.da x.dry.length h.dc]] w (TbPostO x w) := by
  go_enter Tryz.func135, Tryz.ntmps135
  go_wp2_with fail
  refine gen3 (p := fun W => Calls _ _ _ W _) ?_
  intro W b1 s1 k0 k1 k2
  refine (toIntS_own _ _ x.locals _ hf.1 (hl.keep b1)).mono ?_
  rintro e w1 ⟨g1, rfl, hb1, hg1, hs1⟩
  have b2 := b1.andThen hb1
  have j0 := k0.below hb1 k0.lt
  have j1 := k1.below hb1 k1.lt
  have j2 := k2.below hb1 k2.lt
  have c3 := j2.cell 3
  have f3 := j2.frozen 3
  have c4 := j0.cell 4
  have S1 := Lib.hid s1
  have J0 := Lib.hid j0
  have J1 := Lib.hid j1
  have J2 := Lib.hid j2
  clear j0 j1 j2 k0 k1 k2 s1
  simp at c3 c4
  go_wp2_with fail
  refine genSet (p := fun W => Calls _ _ _ W _) J2.out ?_
  intro W2 bt2 q2
  have q0 := bt2.blk J0.out (by omega)
  have q1 := bt2.blk J1.out (by omega)
  have hb3 : Below w.heap.size w W2 := b2.trans (bt2.below (by omega))
  refine (toBoolS_own _ _ x.dry _ hf.2 (hd.keep hb3)).mono ?_
  rintro e w3 ⟨g2, rfl, hb4, hg2, hs2⟩
  have hs1' := (hs1.but bt2 (fun a ha => by cases ha; have := S1.out; simp; omega)).below hb4
  have r1 := q1.below hb4 q1.lt
  have r2 := q2.below hb4 q2.lt
  have d0 := r2.cell 0
  have d1 := r2.cell 1
  have d2 := r2.cell 2
  have d3 := r2.cell 3
  have d4 := r2.cell 4
  have f4 := r2.frozen 4
  simp at d0 d1 d2 d3 d4
  have e0 := r1.cell 0
  have e1 := r1.cell 1
  have e2 := r1.cell 2
  have e3 := r1.cell 3
  have e4 := r1.cell 4
  simp at e0 e1 e2 e3 e4
  have f5 := fun i => r1.frozen i
  have R1 := Lib.hid r1
  have R2 := Lib.hid r2
  clear r1 r2 q0 q1 q2 c3 f3 c4
  have n1 : ∀ a : Addr, some (⟨g1, 0, none⟩ : Addr) = some a → a.block ≠ w.heap.size + 1 := fun a ha => by cases ha; have := S1.out; simp; omega
  have n2 : ∀ a : Addr, some (⟨g1, 0, none⟩ : Addr) = some a → a.block ≠ w.heap.size + 1 + 1 := fun a ha => by cases ha; have := S1.out; simp; omega
  have z2 : w.heap.size + 2 < g2 := by have := bt2.size; have := hb1.size; have := S1.out; omega
  have n3 : ∀ a : Addr, some (⟨g2, 0, none⟩ : Addr) = some a → a.block ≠ w.heap.size + 1 := fun a ha => by cases ha; simp; omega
  have n4 : ∀ a : Addr, some (⟨g2, 0, none⟩ : Addr) = some a → a.block ≠ w.heap.size + 1 + 1 := fun a ha => by cases ha; simp; omega
  have N1 := Lib.hid n1
  have N2 := Lib.hid n2
  have N3 := Lib.hid n3
  have N4 := Lib.hid n4
  clear n1 n2 n3 n4
  go_wp2
  refine bodyPost_ret (v := .agg #[.int .i64 x.quota, .int .i64 x.pool, .int .i64 x.spent, .slice (some ⟨g1, 0, none⟩) x.locals.length x.locals.length, .slice (some ⟨g2, 0, none⟩) x.dry.length x.dry.length]) (by simp [results, Tryz.results135, go_sem, *]) rfl ⟨g1, g2, rfl, ?_, ?_, ?_, ?_, ?_⟩
  · exact (((((((hb3.andThen hb4).setCell (by simp; omega) _).setCell (by simp) _).setCell (by simp) _).setCell (by simp) _).setCell (by simp) _).setCell (by simp) _)
  · have := S1.out; omega
  · omega
  · exact ((((((((hs1'.but (But.set_ _ _ _ _) N2.out).but (But.set_ _ _ _ _) N1.out).but (But.set_ _ _ _ _) N1.out).but (But.set_ _ _ _ _) N1.out).but (But.set_ _ _ _ _) N1.out).but (But.set_ _ _ _ _) N1.out))).mono (by have := b1.size; have := hb1.size; first | omega | (have := hb3.size; omega))
  · exact ((((((((hs2.but (But.set_ _ _ _ _) N4.out).but (But.set_ _ _ _ _) N3.out).but (But.set_ _ _ _ _) N3.out).but (But.set_ _ _ _ _) N3.out).but (But.set_ _ _ _ _) N3.out).but (But.set_ _ _ _ _) N3.out))).mono (by have := b1.size; have := hb1.size; first | omega | (have := hb3.size; omega))
def TgPostO (x : GroupM) (w : World) (e : Ending) (w' : World) : Prop := ∃ h : GH, e = .returned (.agg #[.bool x.used, .int .i64 x.parent, .string x.name, .int .i64 x.weight, .int .i64 x.cpus, .int .i64 x.period, .int .i64 x.next, .int .i64 x.sum, .int .i64 x.band.quota, .int .i64 x.band.pool, .int .i64 x.band.spent, .slice h.la x.band.locals.length h.lc, .slice h.da x.band.dry.length h.dc, .slice h.sa x.shelves.length h.sc]) ∧
  Below w.heap.size w w' ∧ GNew w.heap.size h ∧ IntR w' w.heap.size h.la x.band.locals ∧ BoolR w' w.heap.size h.da x.band.dry ∧ ShelfR w' w.heap.size h.sa x.shelves
set_option maxRecDepth 100000 in
set_option maxHeartbeats 2000000 in
theorem toGroup_own (x : GroupM) (h : GH) (w : World) (hf : GFit x) (hl : IntS w h.la x.band.locals) (hd : BoolS w h.da x.band.dry) (hsh : ShelfS w h.sa x.shelves) :
    Calls Tryz.prog 73 #[.agg #[.bool x.used, .int .i64 x.parent, .string x.name, .int .i64 x.weight, .int .i64 x.cpus, .int .i64 x.period, .int .i64 x.next, .int .i64 x.sum, .int .i64 x.band.quota, .int .i64 x.band.pool, .int .i64 x.band.spent, .slice h.la x.band.locals.length h.lc, .slice h.da x.band.dry.length h.dc, .slice h.sa x.shelves.length h.sc]] w (TgPostO x w) := by
  go_enter Tryz.func73, Tryz.ntmps73
  go_wp2_with fail
  refine gen3 (p := fun W => Calls _ _ _ W _) ?_
  intro W b1 s1 k0 k1 k2
  refine (toBand_own x.band h _ hf.2.1 (hl.keep b1) (hd.keep b1)).mono ?_
  rintro e w1 ⟨g1, g2, rfl, hb1, hg1, hg2, hs1, hs2⟩
  have b2 := b1.andThen hb1
  have j0 := k0.below hb1 k0.lt
  have j1 := k1.below hb1 k1.lt
  have j2 := k2.below hb1 k2.lt
  have c8 := j2.cell 8
  have c9 := j2.cell 9
  have c10 := j2.cell 10
  have c11 := j2.cell 11
  have c12 := j2.cell 12
  have f3 := fun i => j2.frozen i
  have c4 := j0.cell 13
  have S1 := Lib.hid s1
  have J0 := Lib.hid j0
  have J1 := Lib.hid j1
  have J2 := Lib.hid j2
  clear j0 j1 j2 k0 k1 k2 s1
  simp at c8 c9 c10 c11 c12 c4
  go_wp2_with fail
  refine genSet5 (p := fun W => Calls _ _ _ W _) J2.out ?_
  intro W2 bt2 q2
  have q0 := bt2.blk J0.out (by omega)
  have q1 := bt2.blk J1.out (by omega)
  have hb3 : Below w.heap.size w W2 := b2.trans (bt2.below (by omega))
  refine (toShelfS_own _ _ x.shelves _ hf.2.2 (hsh.keep hb3)).mono ?_
  rintro e w3 ⟨g3, rfl, hb4, hg3, hs3⟩
  have hs1' := (hs1.but bt2 (fun a ha => by cases ha; have := S1.out; simp; omega)).below hb4
  have hs2' := (hs2.but bt2 (fun a ha => by cases ha; have := S1.out; simp; omega)).below hb4
  have r1 := q1.below hb4 q1.lt
  have r2 := q2.below hb4 q2.lt
  have d0 := r2.cell 0
  have d1 := r2.cell 1
  have d2 := r2.cell 2
  have d3 := r2.cell 3
  have d4 := r2.cell 4
  have d5 := r2.cell 5
  have d6 := r2.cell 6
  have d7 := r2.cell 7
  have d8 := r2.cell 8
  have d9 := r2.cell 9
  have d10 := r2.cell 10
  have d11 := r2.cell 11
  have d12 := r2.cell 12
  have d13 := r2.cell 13
  have f4 := fun i => r2.frozen i
  simp at d0 d1 d2 d3 d4 d5 d6 d7 d8 d9 d10 d11 d12 d13
  have e0 := r1.cell 0
  have e1 := r1.cell 1
  have e2 := r1.cell 2
  have e3 := r1.cell 3
  have e4 := r1.cell 4
  have e5 := r1.cell 5
  have e6 := r1.cell 6
  have e7 := r1.cell 7
  have e8 := r1.cell 8
  have e9 := r1.cell 9
  have e10 := r1.cell 10
  have e11 := r1.cell 11
  have e12 := r1.cell 12
  have e13 := r1.cell 13
  simp at e0 e1 e2 e3 e4 e5 e6 e7 e8 e9 e10 e11 e12 e13
  have f5 := fun i => r1.frozen i
  have R1 := Lib.hid r1
  have R2 := Lib.hid r2
  clear r1 r2 q0 q1 q2 f3 c4 c8 c9 c10 c11 c12
  have z3 : w.heap.size + 2 < g3 := by have := bt2.size; have := hb1.size; have := S1.out; omega
  have N1 := Lib.hid (show ∀ g : Nat, w.heap.size + 2 < g → ∀ a : Addr, some (⟨g, 0, none⟩ : Addr) = some a → a.block ≠ w.heap.size + 1 from fun g hg a ha => by cases ha; simp; omega)
  have N2 := Lib.hid (show ∀ g : Nat, w.heap.size + 2 < g → ∀ a : Addr, some (⟨g, 0, none⟩ : Addr) = some a → a.block ≠ w.heap.size + 1 + 1 from fun g hg a ha => by cases ha; simp; omega)
  have y1 : w.heap.size + 2 < g1 := by have := S1.out; omega
  have y2 : w.heap.size + 2 < g2 := by have := S1.out; omega
  go_wp2
  refine bodyPost_ret (v := .agg #[.bool x.used, .int .i64 x.parent, .string x.name, .int .i64 x.weight, .int .i64 x.cpus, .int .i64 x.period, .int .i64 x.next, .int .i64 x.sum, .int .i64 x.band.quota, .int .i64 x.band.pool, .int .i64 x.band.spent, .slice (some ⟨g1, 0, none⟩) x.band.locals.length x.band.locals.length, .slice (some ⟨g2, 0, none⟩) x.band.dry.length x.band.dry.length, .slice (some ⟨g3, 0, none⟩) x.shelves.length x.shelves.length]) (by simp [results, Tryz.results73, go_sem, *]) rfl ⟨⟨some ⟨g1, 0, none⟩, x.band.locals.length, some ⟨g2, 0, none⟩, x.band.dry.length, some ⟨g3, 0, none⟩, x.shelves.length⟩, rfl, ?_, ⟨?_, ?_, ?_⟩, ?_, ?_, ?_⟩
  · exact ((((((((((((((((hb3.andThen hb4).setCell (by simp; omega) _).setCell (by simp) _).setCell (by simp) _).setCell (by simp) _).setCell (by simp) _).setCell (by simp) _).setCell (by simp) _).setCell (by simp) _).setCell (by simp) _).setCell (by simp) _).setCell (by simp) _).setCell (by simp) _).setCell (by simp) _).setCell (by simp) _).setCell (by simp) _)
  · intro a ha; cases ha; simp; omega
  · intro a ha; cases ha; simp; omega
  · intro a ha; cases ha; simp; omega
  · exact ((((((((((((((((hs1'.but (But.set_ _ _ _ _) (N2.out _ y1)).but (But.set_ _ _ _ _) (N1.out _ y1)).but (But.set_ _ _ _ _) (N1.out _ y1)).but (But.set_ _ _ _ _) (N1.out _ y1)).but (But.set_ _ _ _ _) (N1.out _ y1)).but (But.set_ _ _ _ _) (N1.out _ y1)).but (But.set_ _ _ _ _) (N1.out _ y1)).but (But.set_ _ _ _ _) (N1.out _ y1)).but (But.set_ _ _ _ _) (N1.out _ y1)).but (But.set_ _ _ _ _) (N1.out _ y1)).but (But.set_ _ _ _ _) (N1.out _ y1)).but (But.set_ _ _ _ _) (N1.out _ y1)).but (But.set_ _ _ _ _) (N1.out _ y1)).but (But.set_ _ _ _ _) (N1.out _ y1)).but (But.set_ _ _ _ _) (N1.out _ y1))).mono (by have := b1.size; have := hb1.size; first | omega | (have := hb3.size; omega))
  · exact ((((((((((((((((hs2'.but (But.set_ _ _ _ _) (N2.out _ y2)).but (But.set_ _ _ _ _) (N1.out _ y2)).but (But.set_ _ _ _ _) (N1.out _ y2)).but (But.set_ _ _ _ _) (N1.out _ y2)).but (But.set_ _ _ _ _) (N1.out _ y2)).but (But.set_ _ _ _ _) (N1.out _ y2)).but (But.set_ _ _ _ _) (N1.out _ y2)).but (But.set_ _ _ _ _) (N1.out _ y2)).but (But.set_ _ _ _ _) (N1.out _ y2)).but (But.set_ _ _ _ _) (N1.out _ y2)).but (But.set_ _ _ _ _) (N1.out _ y2)).but (But.set_ _ _ _ _) (N1.out _ y2)).but (But.set_ _ _ _ _) (N1.out _ y2)).but (But.set_ _ _ _ _) (N1.out _ y2)).but (But.set_ _ _ _ _) (N1.out _ y2))).mono (by have := b1.size; have := hb1.size; first | omega | (have := hb3.size; omega))
  · exact ((((((((((((((((hs3.but (But.set_ _ _ _ _) (N2.out _ z3)).but (But.set_ _ _ _ _) (N1.out _ z3)).but (But.set_ _ _ _ _) (N1.out _ z3)).but (But.set_ _ _ _ _) (N1.out _ z3)).but (But.set_ _ _ _ _) (N1.out _ z3)).but (But.set_ _ _ _ _) (N1.out _ z3)).but (But.set_ _ _ _ _) (N1.out _ z3)).but (But.set_ _ _ _ _) (N1.out _ z3)).but (But.set_ _ _ _ _) (N1.out _ z3)).but (But.set_ _ _ _ _) (N1.out _ z3)).but (But.set_ _ _ _ _) (N1.out _ z3)).but (But.set_ _ _ _ _) (N1.out _ z3)).but (But.set_ _ _ _ _) (N1.out _ z3)).but (But.set_ _ _ _ _) (N1.out _ z3)).but (But.set_ _ _ _ _) (N1.out _ z3))).mono (by have := b1.size; have := hb1.size; first | omega | (have := hb3.size; omega))
def SepH (H : Nat → GH) (k : Nat) : Prop := Sep (fun j => (H j).la) k ∧ Sep (fun j => (H j).da) k ∧ Sep (fun j => (H j).sa) k
theorem Sep.step {f : Nat → Option Addr} {k N : Nat} {A : Option Addr} (h : Sep f k) (h1 : ∀ j a, j < k → f j = some a → a.block < N) (h2 : ∀ a, A = some a → N ≤ a.block) : Sep (fun j => if j = k then A else f j) (k + 1) := by
  intro i j a hi hj hne ha hb
  simp only at ha hb
  by_cases e1 : i = k
  · rw [if_pos e1] at ha
    rw [if_neg (by omega)] at hb
    have := h1 j a (by omega) hb
    have := h2 a ha
    omega
  · rw [if_neg e1] at ha
    by_cases e2 : j = k
    · rw [if_pos e2] at hb
      have := h1 i a (by omega) ha
      have := h2 a hb
      omega
    · rw [if_neg e2] at hb
      exact h i j a (by omega) (by omega) hne ha hb
def GSubO (w : World) (B : Nat) (H : Nat → GH) (L : List GroupM) (k : Nat) : Prop := (∀ j (h : j < L.length), j < k → GNew B (H j) ∧ IntR w B (H j).la L[j].band.locals ∧ BoolR w B (H j).da L[j].band.dry ∧ ShelfR w B (H j).sa L[j].shelves) ∧ SepH H k
theorem GSubO.step {w : World} {B N : Nat} {H : Nat → GH} {L : List GroupM} {k : Nat} {h : GH} (hp : GSubO w B H L k) (hk : k < L.length)
    (hn : GNew B h ∧ IntR w B h.la L[k].band.locals ∧ BoolR w B h.da L[k].band.dry ∧ ShelfR w B h.sa L[k].shelves) (hN : GNew N h) (hold : ∀ j, j < k → (∀ a, (H j).la = some a → a.block < N) ∧ (∀ a, (H j).da = some a → a.block < N) ∧ (∀ a, (H j).sa = some a → a.block < N)) : GSubO w B (hset H k h) L (k + 1) := by
  refine ⟨fun j hj hjk => ?_, ?_⟩
  · by_cases e : j = k
    · subst e; rw [hset_same]; exact hn
    · rw [hset_other _ _ e]; exact hp.1 j hj (by omega)
  · have hf : ∀ (p : GH → Option Addr) (hs : Sep (fun j => p (H j)) k) (h1 : ∀ j a, j < k → p (H j) = some a → a.block < N) (h2 : ∀ a, p h = some a → N ≤ a.block), Sep (fun j => p (hset H k h j)) (k + 1) := fun p hs h1 h2 => by
      have := Sep.step (f := fun j => p (H j)) (A := p h) hs h1 h2
      intro i j a hi hj hne ha hb
      refine this i j a hi hj hne ?_ ?_
      · simp only [hset] at ha ⊢; split <;> simp_all
      · simp only [hset] at hb ⊢; split <;> simp_all
    exact ⟨hf GH.la hp.2.1 (fun j a hj => (hold j hj).1 a) hN.1, hf GH.da hp.2.2.1 (fun j a hj => (hold j hj).2.1 a) hN.2.1, hf GH.sa hp.2.2.2 (fun j a hj => (hold j hj).2.2 a) hN.2.2⟩
theorem GSubO.old {w : World} {B : Nat} {H : Nat → GH} {L : List GroupM} {k : Nat} (hp : GSubO w B H L k) (hk : k ≤ L.length) : ∀ j, j < k → (∀ a, (H j).la = some a → a.block < w.heap.size) ∧ (∀ a, (H j).da = some a → a.block < w.heap.size) ∧ (∀ a, (H j).sa = some a → a.block < w.heap.size) := fun j hj =>
  ⟨fun _ ha => ((hp.1 j (by omega) hj).2.1.lt ha).2, fun _ ha => ((hp.1 j (by omega) hj).2.2.1.lt ha).2, fun _ ha => ((hp.1 j (by omega) hj).2.2.2.lt ha).2⟩
theorem GSubO.keep {w w1 : World} {B : Nat} {H : Nat → GH} {L : List GroupM} {k : Nat} (hp : GSubO w B H L k) (hb : Below w.heap.size w w1) : GSubO w1 B H L k := ⟨fun j hj hjk => by
  obtain ⟨h0, h1, h2, h3⟩ := hp.1 j hj hjk
  exact ⟨h0, h1.below hb, h2.below hb, h3.below hb⟩, hp.2⟩
theorem GSubO.but {w w1 : World} {B g : Nat} {H : Nat → GH} {L : List GroupM} {k : Nat} (hp : GSubO w B H L k) (hb : But g w w1) (hg : g < B) : GSubO w1 B H L k := ⟨fun j hj hjk => by
  obtain ⟨h0, h1, h2, h3⟩ := hp.1 j hj hjk
  obtain ⟨n1, n2, n3⟩ := h0.ne hg
  exact ⟨h0, h1.but hb n1, h2.but hb n2, h3.but hb n3⟩, hp.2⟩
theorem GPut.own {w : World} {g B : Nat} {C : Array Value} {H : Nat → GH} {L : List GroupM} (hB : B ≤ g) (hb : Blk w g 55 C) (h : GPut C H L L.length) : GroupR w B (some ⟨g, 0, none⟩) H L :=
  RowR.mk_ hB hb fun k i hk hi => by
    obtain ⟨h0, h1, h2, h3, h4, h5, h6, h7, h8, h9, h10, h11, h12, h13⟩ := h k hk hk
    rw [show L.getD k group0 = L[k] by simp [hk]]
    rcases i with _ | _ | _ | _ | _ | _ | _ | _ | _ | _ | _ | _ | _ | _ | i
    all_goals first | assumption | (exfalso; omega)
def TgsPostO (L : List GroupM) (w : World) (e : Ending) (w' : World) : Prop := ∃ (g : Nat) (H : Nat → GH), e = .returned (.slice (some ⟨g, 0, none⟩) L.length L.length) ∧
  Below w.heap.size w w' ∧ w.heap.size ≤ g ∧ GroupR w' w.heap.size (some ⟨g, 0, none⟩) H L ∧ GSubO w' (g + 1) H L L.length
set_option maxRecDepth 100000 in
set_option maxHeartbeats 2000000 in
theorem toGroupS_own (A : Option Addr) (cap : Nat) (H : Nat → GH) (L : List GroupM) (w : World) (hl : L.length ≤ 1048576) (hf : ∀ k (h : k < L.length), GFit L[k]) (hs : GroupS w A H L) :
    Calls Tryz.prog 29 #[.slice A L.length cap] w (TgsPostO L w) := by
  obtain ⟨C0, hsz, hmk⟩ := made (P := Tryz.prog) 31 55 _ _ _ Tryz.underlying31 infoGroup L.length (by omega) (by omega)
  have HZ := Lib.hid hsz
  have HF := Lib.hid hf
  clear hsz hf
  go_enter Tryz.func29, Tryz.ntmps29
  go_wp2
  go_loopw [4] (fun i wr => ∃ (k : Nat) (C : Array Value) (H2 : Nat → GH), k ≤ L.length ∧ i = .int .i64 k ∧ Blk wr w.heap.size 55 C ∧ C.size = L.length * 14 ∧ GPut C H2 L k ∧ GSubO wr (w.heap.size + 1) H2 L k ∧ Below w.heap.size w wr) (fun i _ => L.length - (intOf i).toNat)
  case atStart => exact ⟨0, C0, H, Nat.zero_le _, rfl, Blk.new _ _ _, HZ.out, fun j _ h => by omega, ⟨fun j _ h => by omega, ⟨fun j _ _ h => by omega, fun j _ _ h => by omega, fun j _ _ h => by omega⟩⟩, (Below.refl _ _).alloc (Nat.le_refl _) _⟩
  case round =>
    obtain ⟨k, C, H2, hk, rfl, hblk, hcs, hput, hsub, hb⟩ := hrel
    have HC := Lib.hid hcs
    have HP := Lib.hid hput
    have HB := Lib.hid hblk
    have HS := Lib.hid hsub
    clear hcs hput hblk hsub
    by_cases hlt : k < L.length
    · obtain ⟨b, o, rfl, hB, c0, c1, c2, c3, c4, c5, c6, c7, c8, c9, c10, c11, c12, c13⟩ := (hs.keep hb).at_ k hlt
      have hg : w.heap.size < wr.heap.size := HB.out.lt
      go_wp2_with fail
      refine (toGroup_own L[k] (H k) _ (HF.out k hlt) ((hs.loc k hlt).keep hb) ((hs.dry k hlt).keep hb) ((hs.she k hlt).keep hb)).mono ?_
      rintro e w2 ⟨h2, rfl, hb2, hn2, hi2, hd2, hs2⟩
      have hbl := HB.out.below hb2 hg
      have hCs := HC.out
      obtain ⟨v0, d0⟩ := hbl.in_ (k * 14) (by omega)
      obtain ⟨v1, d1⟩ := hbl.in_ (k * 14 + 1) (by omega)
      obtain ⟨v2, d2⟩ := hbl.in_ (k * 14 + 2) (by omega)
      obtain ⟨v3, d3⟩ := hbl.in_ (k * 14 + 3) (by omega)
      obtain ⟨v4, d4⟩ := hbl.in_ (k * 14 + 4) (by omega)
      obtain ⟨v5, d5⟩ := hbl.in_ (k * 14 + 5) (by omega)
      obtain ⟨v6, d6⟩ := hbl.in_ (k * 14 + 6) (by omega)
      obtain ⟨v7, d7⟩ := hbl.in_ (k * 14 + 7) (by omega)
      obtain ⟨v8, d8⟩ := hbl.in_ (k * 14 + 8) (by omega)
      obtain ⟨v9, d9⟩ := hbl.in_ (k * 14 + 9) (by omega)
      obtain ⟨v10, d10⟩ := hbl.in_ (k * 14 + 10) (by omega)
      obtain ⟨v11, d11⟩ := hbl.in_ (k * 14 + 11) (by omega)
      obtain ⟨v12, d12⟩ := hbl.in_ (k * 14 + 12) (by omega)
      obtain ⟨v13, d13⟩ := hbl.in_ (k * 14 + 13) (by omega)
      have f := fun i => hbl.frozen i
      clear hCs
      have HB2 := Lib.hid hbl
      clear hbl
      clear c0 c1 c2 c3 c4 c5 c6 c7 c8 c9 c10 c11 c12 c13
      go_wp2
      have hbut : But w.heap.size w2 (((((((((((((((w2.setCell ⟨w.heap.size, k * 14, none⟩ (.bool L[k].used)).setCell ⟨w.heap.size, k * 14 + 1, none⟩ (.int .i64 L[k].parent)).setCell ⟨w.heap.size, k * 14 + 2, none⟩ (.string L[k].name)).setCell ⟨w.heap.size, k * 14 + 3, none⟩ (.int .i64 L[k].weight)).setCell ⟨w.heap.size, k * 14 + 4, none⟩ (.int .i64 L[k].cpus)).setCell ⟨w.heap.size, k * 14 + 5, none⟩ (.int .i64 L[k].period)).setCell ⟨w.heap.size, k * 14 + 6, none⟩ (.int .i64 L[k].next)).setCell ⟨w.heap.size, k * 14 + 7, none⟩ (.int .i64 L[k].sum)).setCell ⟨w.heap.size, k * 14 + 8, none⟩ (.int .i64 L[k].band.quota)).setCell ⟨w.heap.size, k * 14 + 9, none⟩ (.int .i64 L[k].band.pool)).setCell ⟨w.heap.size, k * 14 + 10, none⟩ (.int .i64 L[k].band.spent)).setCell ⟨w.heap.size, k * 14 + 11, none⟩ (.slice h2.la L[k].band.locals.length h2.lc)).setCell ⟨w.heap.size, k * 14 + 12, none⟩ (.slice h2.da L[k].band.dry.length h2.dc)).setCell ⟨w.heap.size, k * 14 + 13, none⟩ (.slice h2.sa L[k].shelves.length h2.sc))) := (((((((((((((But.set_ _ _ _ _).trans (But.set_ _ _ _ _)).trans (But.set_ _ _ _ _)).trans (But.set_ _ _ _ _)).trans (But.set_ _ _ _ _)).trans (But.set_ _ _ _ _)).trans (But.set_ _ _ _ _)).trans (But.set_ _ _ _ _)).trans (But.set_ _ _ _ _)).trans (But.set_ _ _ _ _)).trans (But.set_ _ _ _ _)).trans (But.set_ _ _ _ _)).trans (But.set_ _ _ _ _)).trans (But.set_ _ _ _ _)
      have hne := hn2.ne hg
      go_roundw
      case rel => exact ⟨k + 1, _, hset H2 k h2, by omega, by go_num, (((((((((((((HB2.out.set_ _ _).set_ _ _).set_ _ _).set_ _ _).set_ _ _).set_ _ _).set_ _ _).set_ _ _).set_ _ _).set_ _ _).set_ _ _).set_ _ _).set_ _ _).set_ _ _, by simp [HC.out], GPut.step hlt HC.out HP.out, GSubO.step ((HS.out.keep hb2).but hbut (by omega)) hlt ⟨hn2.mono (by omega), (hi2.but hbut hne.1).mono (by omega), (hd2.but hbut hne.2.1).mono (by omega), (hs2.but hbut hne.2.2).mono (by omega)⟩ hn2 (HS.out.old hk), ((((((((((((((hb.andThen hb2).setCell (Nat.le_refl _) _).setCell (Nat.le_refl _) _).setCell (Nat.le_refl _) _).setCell (Nat.le_refl _) _).setCell (Nat.le_refl _) _).setCell (Nat.le_refl _) _).setCell (Nat.le_refl _) _).setCell (Nat.le_refl _) _).setCell (Nat.le_refl _) _).setCell (Nat.le_refl _) _).setCell (Nat.le_refl _) _).setCell (Nat.le_refl _) _).setCell (Nat.le_refl _) _).setCell (Nat.le_refl _) _⟩
      case measure => simp [intOf]; omega
    · go_wp2
      go_ret
      have hkl : k = L.length := by omega
      rw [hkl] at HP HS
      exact ⟨_, H2, rfl, hb, Nat.le_refl _, GPut.own (Nat.le_refl _) HB.out HP.out, HS.out⟩
def TwPostO (M : WorldM) (w : World) (e : Ending) (w' : World) : Prop := ∃ h : WH, e = .returned (.agg #[.int .i64 M.now, .slice h.ca M.cpus.length h.cc, .slice h.ta M.tasks.length h.tc, .slice h.ga M.groups.length h.gc]) ∧ Below w.heap.size w w' ∧ Own w' w.heap.size h.ca h.ta h.ga h.gh M
set_option maxRecDepth 100000 in
set_option maxHeartbeats 2000000 in
theorem toWorld_own (h : WH) (M : WorldM) (w : World) (hs : WAt w h M) (hf : WFit M) :
    Calls Tryz.prog 9 #[.agg #[.int .i64 M.now, .slice h.ca M.cpus.length h.cc, .slice h.ta M.tasks.length h.tc, .slice h.ga M.groups.length h.gc]] w (TwPostO M w) := by
  obtain ⟨m1, m2, m3, m4⟩ := hf
  have M4 := Lib.hid m4
  clear m4
  go_enter Tryz.func9, Tryz.ntmps9
  go_wp2_with fail
  refine gen3 (p := fun W => Calls _ _ _ W _) ?_
  intro W b1 s1 k0 k1 k2
  refine (toCpuS_own _ _ M.cpus _ m1 (hs.cpu.keep b1)).mono ?_
  rintro e w1 ⟨g1, rfl, hb1, hg1, hs1⟩
  have b2 := b1.andThen hb1
  have j0 := k0.below hb1 k0.lt
  have j1 := k1.below hb1 k1.lt
  have j2 := k2.below hb1 k2.lt
  have c2 := j2.cell 1
  have f3 := fun i => j2.frozen i
  have c4 := j0.cell 2
  have S1 := Lib.hid s1
  have J0 := Lib.hid j0
  have J1 := Lib.hid j1
  have J2 := Lib.hid j2
  clear j0 j1 j2 k0 k1 k2 s1
  simp at c2 c4
  go_wp2_with fail
  refine genSet (p := fun W => Calls _ _ _ W _) J2.out ?_
  intro W2 bt2 q2
  have q0 := bt2.blk J0.out (by omega)
  have q1 := bt2.blk J1.out (by omega)
  have hb3 : Below w.heap.size w W2 := b2.trans (bt2.below (by omega))
  have y1 : w.heap.size + 2 < g1 := by have := S1.out; omega
  have hs1a := hs1.but bt2 (hne y1)
  refine (toTaskS_own _ _ M.tasks _ m2 (hs.task.keep hb3)).mono ?_
  rintro e w3 ⟨g2, rfl, hb4, hg2, hs2⟩
  have y2 : w.heap.size + 2 < g2 := by have := bt2.size; have := hb1.size; have := S1.out; omega
  have hs1b := hs1a.below hb4
  have hb5 := hb3.andThen hb4
  have r0 := q0.below hb4 q0.lt
  have r1 := q1.below hb4 q1.lt
  have r2 := q2.below hb4 q2.lt
  have c5 := r2.cell 2
  have f5 := fun i => r2.frozen i
  have c6 := r0.cell 3
  have R0 := Lib.hid r0
  have R1 := Lib.hid r1
  have R2 := Lib.hid r2
  clear r0 r1 r2 q0 q1 q2 c2 c4 f3 J0 J1 J2 hs1 hs1a
  simp at c5 c6
  go_wp2_with fail
  refine genSet (p := fun W => Calls _ _ _ W _) R2.out ?_
  intro W4 bt4 q2
  have q0 := bt4.blk R0.out (by omega)
  have q1 := bt4.blk R1.out (by omega)
  have hb6 : Below w.heap.size w W4 := hb5.trans (bt4.below (by omega))
  have hs1c := hs1b.but bt4 (hne y1)
  have hs2c := hs2.but bt4 (hne y2)
  refine (toGroupS_own _ _ h.gh M.groups _ m3 M4.out (hs.group.keep hb6)).mono ?_
  rintro e w5 ⟨g3, H2, rfl, hb7, hg3, hs3, hn3⟩
  have y3 : w.heap.size + 2 < g3 := by have := bt2.size; have := hb1.size; have := hb4.size; have := bt4.size; have := S1.out; omega
  have hs1d := hs1c.below hb7
  have hs2d := hs2c.below hb7
  have hb8 := hb6.andThen hb7
  have r1 := q1.below hb7 q1.lt
  have r2 := q2.below hb7 q2.lt
  have d0 := r2.cell 0
  have d1 := r2.cell 1
  have d2 := r2.cell 2
  have d3 := r2.cell 3
  have e0 := r1.cell 0
  have e1 := r1.cell 1
  have e2 := r1.cell 2
  have e3 := r1.cell 3
  have f6 := fun i => r2.frozen i
  have f7 := fun i => r1.frozen i
  simp at d0 d1 d2 d3
  simp at e0 e1 e2 e3
  clear r1 r2 q0 q1 q2 c5 c6 f5 R0 R1 R2
  have HN3 := Lib.hid (fun j (hj : j < M.groups.length) => (hn3.1 j hj hj).1)
  have HG3 := Lib.hid hn3
  clear hn3
  have N1 := Lib.hid (show ∀ g : Nat, w.heap.size + 2 < g → ∀ a : Addr, some (⟨g, 0, none⟩ : Addr) = some a → a.block ≠ w.heap.size + 1 from fun g hg => hne (by omega))
  have N2 := Lib.hid (show ∀ g : Nat, w.heap.size + 2 < g → ∀ a : Addr, some (⟨g, 0, none⟩ : Addr) = some a → a.block ≠ w.heap.size + 1 + 1 from fun g hg => hne (by omega))
  have N3 := Lib.hid (show ∀ j, j < M.groups.length → (∀ a, (H2 j).la = some a → a.block ≠ w.heap.size + 1) ∧ (∀ a, (H2 j).da = some a → a.block ≠ w.heap.size + 1) ∧ (∀ a, (H2 j).sa = some a → a.block ≠ w.heap.size + 1) from fun j hj => (HN3.out j hj).ne (by omega))
  have N4 := Lib.hid (show ∀ j, j < M.groups.length → (∀ a, (H2 j).la = some a → a.block ≠ w.heap.size + 1 + 1) ∧ (∀ a, (H2 j).da = some a → a.block ≠ w.heap.size + 1 + 1) ∧ (∀ a, (H2 j).sa = some a → a.block ≠ w.heap.size + 1 + 1) from fun j hj => (HN3.out j hj).ne (by omega))
  go_wp2
  refine bodyPost_ret (v := .agg #[.int .i64 M.now, .slice (some ⟨g1, 0, none⟩) M.cpus.length M.cpus.length, .slice (some ⟨g2, 0, none⟩) M.tasks.length M.tasks.length, .slice (some ⟨g3, 0, none⟩) M.groups.length M.groups.length]) (by simp [results, Tryz.results9, go_sem, *]) rfl ⟨⟨some ⟨g1, 0, none⟩, M.cpus.length, some ⟨g2, 0, none⟩, M.tasks.length, some ⟨g3, 0, none⟩, M.groups.length, H2⟩, rfl, ?_, ?_⟩
  · exact (((((hb8.setCell (by simp; omega) _).setCell (by simp) _).setCell (by simp) _).setCell (by simp) _).setCell (by simp) _)
  · have z0 := S1.out
    have z1 := hb1.size
    have z2 := bt2.size
    have z3 := hb4.size
    have z4 := bt4.size
    have own5 : Own w5 (w.heap.size + 3) (some ⟨g1, 0, none⟩) (some ⟨g2, 0, none⟩) (some ⟨g3, 0, none⟩) H2 M :=
      ⟨hs1d.mono (by omega), hs2d.mono (by omega), hs3.mono (by omega), fun k hk => by rw [← grp_eq hk]; exact (HG3.out.1 k hk hk).2.1.mono (by omega), fun k hk => by rw [← grp_eq hk]; exact (HG3.out.1 k hk hk).2.2.1.mono (by omega), fun k hk => by rw [← grp_eq hk]; exact (HG3.out.1 k hk hk).2.2.2.mono (by omega), HG3.out.2.1, HG3.out.2.2.1, HG3.out.2.2.2⟩
    refine (own5.keep (S := fun i => i < w.heap.size + 3) ((((((Keep.set _ _ _ (by simp)).trans (Keep.set _ _ _ (by simp))).trans (Keep.set _ _ _ (by simp))).trans (Keep.set _ _ _ (by simp))).trans (Keep.set _ _ _ (by simp)))) fun g hg => ?_).mono (by omega)
    have := (own5.has hg).1
    simp
    omega
end Go.Proofs.YtknfpigaognklaaGreatDoor
namespace Go.Proofs.YtknfpigaognklaaGreatDoor
open Go.RowKit
/-- a truth of a mark -/
def m3 (k : Int) : Bool := k % 3 == 0
def markCpu (k : Int) : CpuM := ⟨m3 k, k + 1, k + 2, k + 3, k + 4⟩
def markCpuL (n : Nat) (k : Int) : List CpuM := (List.range n).map fun j => markCpu (k + ((5 * j : Nat) : Int))
@[simp] theorem markCpuL_length (n : Nat) (k : Int) : (markCpuL n k).length = n := by simp [markCpuL]
theorem markCpuL_get {n : Nat} {k : Int} {j : Nat} (h : j < (markCpuL n k).length) : (markCpuL n k)[j] = markCpu (k + ((5 * j : Nat) : Int)) := by simp [markCpuL]
theorem markCpuL_getD {n : Nat} {k : Int} {j : Nat} (h : j < n) : (markCpuL n k).getD j cpu0 = markCpu (k + ((5 * j : Nat) : Int)) := by
  rw [List.getD_eq_getElem?_getD, List.getElem?_eq_getElem (by simpa using h)]; exact markCpuL_get _
set_option maxRecDepth 100000 in
set_option maxHeartbeats 1000000 in
theorem markCpuS_any (A : Option Addr) (cap B : Nat) (L : List CpuM) (K : Int) (w : World) (hK : 0 ≤ K ∧ K ≤ 17592186044416) (hl : L.length ≤ 1048576) (hs : CpuR w B A L) :
    Calls Tryz.prog 51 #[.slice A L.length cap, .int .i64 K] w fun e w' => e = .returned (.int .i64 (K + ((5 * L.length : Nat) : Int))) ∧ Keep (fun g => A = some ⟨g, 0, none⟩) w w' ∧ CpuR w' B A (markCpuL L.length K) := by
  obtain ⟨hK0, hK1⟩ := hK
  go_enter Tryz.func51, Tryz.ntmps51
  go_wp2
  go_loopw [1, 5] (fun c i wr => ∃ k : Nat, k ≤ L.length ∧ i = .int .i64 k ∧ c = .int .i64 (K + ((5 * k : Nat) : Int)) ∧ Keep (fun g => A = some ⟨g, 0, none⟩) w wr ∧ RowR wr B A 48 5 L.length fun j => cpuF (if j < k then markCpu (K + ((5 * j : Nat) : Int)) else L.getD j cpu0)) (fun _ i _ => L.length - (intOf i).toNat)
  case atStart => exact ⟨0, Nat.zero_le _, rfl, by simp, Keep.refl _ _, hs.congr fun j i _ _ => by simp⟩
  case round =>
    obtain ⟨k, hk, rfl, rfl, hkeep, hrow⟩ := hrel
    by_cases hlt : k < L.length
    · have HK := Lib.hid hkeep
      have HR := Lib.hid hrow
      obtain ⟨g, hA, hg, hB, v0, f0⟩ := hrow.cell hlt (i := 0) (by omega)
      obtain ⟨_, e, _, _, v1, f1⟩ := hrow.cell hlt (i := 1) (by omega); cases hA.symm.trans e
      obtain ⟨_, e, _, _, v2, f2⟩ := hrow.cell hlt (i := 2) (by omega); cases hA.symm.trans e
      obtain ⟨_, e, _, _, v3, f3⟩ := hrow.cell hlt (i := 3) (by omega); cases hA.symm.trans e
      obtain ⟨_, e, _, _, v4, f4⟩ := hrow.cell hlt (i := 4) (by omega); cases hA.symm.trans e
      have HA := Lib.hid hA
      clear hkeep hrow hs
      subst hA
      have b0 : (0 : Int) ≤ K + ((5 * k : Nat) : Int) := by omega
      have b1 : K + ((5 * k : Nat) : Int) ≤ 17592186044416 + 9437184 := by omega
      generalize hq : K + ((5 * k : Nat) : Int) = q at *
      have HQ := Lib.hid hq
      clear hq
      simp only [Nat.add_zero] at v0 f0
      go_wp2
      go_roundw
      case rel => exact ⟨k + 1, by omega, by go_num, by rw [← HQ.out]; go_num, (((((HK.out.trans (Keep.set _ _ _ HA.out)).trans (Keep.set _ _ _ HA.out)).trans (Keep.set _ _ _ HA.out)).trans (Keep.set _ _ _ HA.out)).trans (Keep.set _ _ _ HA.out)), ((((((HR.out.set HA.out hlt (i := 0) (by omega) _).set HA.out hlt (i := 1) (by omega) _).set HA.out hlt (i := 2) (by omega) _).set HA.out hlt (i := 3) (by omega) _).set HA.out hlt (i := 4) (by omega) _).congr fun j i hj hi => by
        have := HQ.out
        by_cases e : j = k
        · subst e
          subst this
          rcases i with _ | _ | _ | _ | _ | i
          all_goals first | (exfalso; omega) | (simp [cpuF, markCpu, m3]; done) | (simp [cpuF, markCpu, m3]; omega)
        · have : (j < k + 1) ↔ (j < k) := by omega
          simp [e, this])⟩
      case measure => simp [intOf]; omega
    · go_wp2
      go_ret
      obtain rfl : k = L.length := by omega
      exact ⟨rfl, hkeep, by
        show RowR _ _ _ _ 5 (markCpuL L.length K).length _
        rw [markCpuL_length]
        exact hrow.congr fun j i hj hi => by rw [if_pos hj, markCpuL_getD hj]⟩
set_option maxRecDepth 100000 in
set_option maxHeartbeats 1000000 in
theorem heldCpuS_any (A : Option Addr) (cap n : Nat) (K : Int) (w : World) (hK : 0 ≤ K ∧ K ≤ 17592186044416) (hl : n ≤ 1048576) (hs : CpuS w A (markCpuL n K)) :
    Calls Tryz.prog 54 #[.slice A n cap, .int .i64 K] w fun e w' => e = .returned (.int .i64 (K + ((5 * n : Nat) : Int))) ∧ w = w' := by
  obtain ⟨hK0, hK1⟩ := hK
  go_enter Tryz.func54, Tryz.ntmps54
  go_wp2
  go_loopw [1, 5] (fun c i wr => ∃ k : Nat, k ≤ n ∧ i = .int .i64 k ∧ c = .int .i64 (K + ((5 * k : Nat) : Int)) ∧ w = wr) (fun _ i _ => n - (intOf i).toNat)
  case atStart => exact ⟨0, Nat.zero_le _, rfl, by simp, rfl⟩
  case round =>
    obtain ⟨k, hk, rfl, rfl, rfl⟩ := hrel
    by_cases hlt : k < n
    · obtain ⟨b, o, rfl, hB, v0, v1, v2, v3, v4⟩ := hs.at_ k (by simpa using hlt)
      rw [markCpuL_get] at v0 v1 v2 v3 v4
      have b0 : (0 : Int) ≤ K + ((5 * k : Nat) : Int) := by omega
      have b1 : K + ((5 * k : Nat) : Int) ≤ 17592186044416 + 9437184 := by omega
      generalize hq : K + ((5 * k : Nat) : Int) = q at *
      have HQ := Lib.hid hq
      clear hq
      simp only [markCpu, m3] at v0 v1 v2 v3 v4
      go_wp2
      go_roundw
      case rel => exact ⟨k + 1, by omega, by go_num, by rw [← HQ.out]; go_num, by first | rfl | trivial⟩
      case measure => simp [intOf]; omega
    · go_wp2
      go_ret
      obtain rfl : k = n := by omega
      first | exact ⟨rfl, rfl⟩ | exact ⟨rfl, trivial⟩
def markTask (k : Int) : TaskM := ⟨k, k + 1, k + 2, k + 3, k + 4, k + 5, k + 6, k + 7, k + 8⟩
def markTaskL (n : Nat) (k : Int) : List TaskM := (List.range n).map fun j => markTask (k + ((9 * j : Nat) : Int))
@[simp] theorem markTaskL_length (n : Nat) (k : Int) : (markTaskL n k).length = n := by simp [markTaskL]
theorem markTaskL_get {n : Nat} {k : Int} {j : Nat} (h : j < (markTaskL n k).length) : (markTaskL n k)[j] = markTask (k + ((9 * j : Nat) : Int)) := by simp [markTaskL]
theorem markTaskL_getD {n : Nat} {k : Int} {j : Nat} (h : j < n) : (markTaskL n k).getD j task0 = markTask (k + ((9 * j : Nat) : Int)) := by
  rw [List.getD_eq_getElem?_getD, List.getElem?_eq_getElem (by simpa using h)]; exact markTaskL_get _
set_option maxRecDepth 100000 in
set_option maxHeartbeats 1000000 in
theorem markTaskS_any (A : Option Addr) (cap B : Nat) (L : List TaskM) (K : Int) (w : World) (hK : 0 ≤ K ∧ K ≤ 17592186044416) (hl : L.length ≤ 1048576) (hs : TaskR w B A L) :
    Calls Tryz.prog 52 #[.slice A L.length cap, .int .i64 K] w fun e w' => e = .returned (.int .i64 (K + ((9 * L.length : Nat) : Int))) ∧ Keep (fun g => A = some ⟨g, 0, none⟩) w w' ∧ TaskR w' B A (markTaskL L.length K) := by
  obtain ⟨hK0, hK1⟩ := hK
  go_enter Tryz.func52, Tryz.ntmps52
  go_wp2
  go_loopw [1, 5] (fun c i wr => ∃ k : Nat, k ≤ L.length ∧ i = .int .i64 k ∧ c = .int .i64 (K + ((9 * k : Nat) : Int)) ∧ Keep (fun g => A = some ⟨g, 0, none⟩) w wr ∧ RowR wr B A 58 9 L.length fun j => taskF (if j < k then markTask (K + ((9 * j : Nat) : Int)) else L.getD j task0)) (fun _ i _ => L.length - (intOf i).toNat)
  case atStart => exact ⟨0, Nat.zero_le _, rfl, by simp, Keep.refl _ _, hs.congr fun j i _ _ => by simp⟩
  case round =>
    obtain ⟨k, hk, rfl, rfl, hkeep, hrow⟩ := hrel
    by_cases hlt : k < L.length
    · have HK := Lib.hid hkeep
      have HR := Lib.hid hrow
      obtain ⟨g, hA, hg, hB, v0, f0⟩ := hrow.cell hlt (i := 0) (by omega)
      obtain ⟨_, e, _, _, v1, f1⟩ := hrow.cell hlt (i := 1) (by omega); cases hA.symm.trans e
      obtain ⟨_, e, _, _, v2, f2⟩ := hrow.cell hlt (i := 2) (by omega); cases hA.symm.trans e
      obtain ⟨_, e, _, _, v3, f3⟩ := hrow.cell hlt (i := 3) (by omega); cases hA.symm.trans e
      obtain ⟨_, e, _, _, v4, f4⟩ := hrow.cell hlt (i := 4) (by omega); cases hA.symm.trans e
      obtain ⟨_, e, _, _, v5, f5⟩ := hrow.cell hlt (i := 5) (by omega); cases hA.symm.trans e
      obtain ⟨_, e, _, _, v6, f6⟩ := hrow.cell hlt (i := 6) (by omega); cases hA.symm.trans e
      obtain ⟨_, e, _, _, v7, f7⟩ := hrow.cell hlt (i := 7) (by omega); cases hA.symm.trans e
      obtain ⟨_, e, _, _, v8, f8⟩ := hrow.cell hlt (i := 8) (by omega); cases hA.symm.trans e
      have HA := Lib.hid hA
      clear hkeep hrow hs
      subst hA
      have b0 : (0 : Int) ≤ K + ((9 * k : Nat) : Int) := by omega
      have b1 : K + ((9 * k : Nat) : Int) ≤ 17592186044416 + 9437184 := by omega
      generalize hq : K + ((9 * k : Nat) : Int) = q at *
      have HQ := Lib.hid hq
      clear hq
      simp only [Nat.add_zero] at v0 f0
      go_wp2
      go_roundw
      case rel => exact ⟨k + 1, by omega, by go_num, by rw [← HQ.out]; go_num, (((((((((HK.out.trans (Keep.set _ _ _ HA.out)).trans (Keep.set _ _ _ HA.out)).trans (Keep.set _ _ _ HA.out)).trans (Keep.set _ _ _ HA.out)).trans (Keep.set _ _ _ HA.out)).trans (Keep.set _ _ _ HA.out)).trans (Keep.set _ _ _ HA.out)).trans (Keep.set _ _ _ HA.out)).trans (Keep.set _ _ _ HA.out)), ((((((((((HR.out.set HA.out hlt (i := 0) (by omega) _).set HA.out hlt (i := 1) (by omega) _).set HA.out hlt (i := 2) (by omega) _).set HA.out hlt (i := 3) (by omega) _).set HA.out hlt (i := 4) (by omega) _).set HA.out hlt (i := 5) (by omega) _).set HA.out hlt (i := 6) (by omega) _).set HA.out hlt (i := 7) (by omega) _).set HA.out hlt (i := 8) (by omega) _).congr fun j i hj hi => by
        have := HQ.out
        by_cases e : j = k
        · subst e
          subst this
          rcases i with _ | _ | _ | _ | _ | _ | _ | _ | _ | i
          all_goals first | (exfalso; omega) | (simp [taskF, markTask]; done) | (simp [taskF, markTask]; omega)
        · have : (j < k + 1) ↔ (j < k) := by omega
          simp [e, this])⟩
      case measure => simp [intOf]; omega
    · go_wp2
      go_ret
      obtain rfl : k = L.length := by omega
      exact ⟨rfl, hkeep, by
        show RowR _ _ _ _ 9 (markTaskL L.length K).length _
        rw [markTaskL_length]
        exact hrow.congr fun j i hj hi => by rw [if_pos hj, markTaskL_getD hj]⟩
set_option maxRecDepth 100000 in
set_option maxHeartbeats 1000000 in
theorem heldTaskS_any (A : Option Addr) (cap n : Nat) (K : Int) (w : World) (hK : 0 ≤ K ∧ K ≤ 17592186044416) (hl : n ≤ 1048576) (hs : TaskS w A (markTaskL n K)) :
    Calls Tryz.prog 55 #[.slice A n cap, .int .i64 K] w fun e w' => e = .returned (.int .i64 (K + ((9 * n : Nat) : Int))) ∧ w = w' := by
  obtain ⟨hK0, hK1⟩ := hK
  go_enter Tryz.func55, Tryz.ntmps55
  go_wp2
  go_loopw [1, 5] (fun c i wr => ∃ k : Nat, k ≤ n ∧ i = .int .i64 k ∧ c = .int .i64 (K + ((9 * k : Nat) : Int)) ∧ w = wr) (fun _ i _ => n - (intOf i).toNat)
  case atStart => exact ⟨0, Nat.zero_le _, rfl, by simp, rfl⟩
  case round =>
    obtain ⟨k, hk, rfl, rfl, rfl⟩ := hrel
    by_cases hlt : k < n
    · obtain ⟨b, o, rfl, hB, v0, v1, v2, v3, v4, v5, v6, v7, v8⟩ := hs.at_ k (by simpa using hlt)
      rw [markTaskL_get] at v0 v1 v2 v3 v4 v5 v6 v7 v8
      have b0 : (0 : Int) ≤ K + ((9 * k : Nat) : Int) := by omega
      have b1 : K + ((9 * k : Nat) : Int) ≤ 17592186044416 + 9437184 := by omega
      generalize hq : K + ((9 * k : Nat) : Int) = q at *
      have HQ := Lib.hid hq
      clear hq
      simp only [markTask] at v0 v1 v2 v3 v4 v5 v6 v7 v8
      go_wp2
      go_roundw
      case rel => exact ⟨k + 1, by omega, by go_num, by rw [← HQ.out]; go_num, by first | rfl | trivial⟩
      case measure => simp [intOf]; omega
    · go_wp2
      go_ret
      obtain rfl : k = n := by omega
      first | exact ⟨rfl, rfl⟩ | exact ⟨rfl, trivial⟩
def markShelf (k : Int) : ShelfM := ⟨k, m3 (k + 1), k + 2, k + 3, k + 4⟩
def markShelfL (n : Nat) (k : Int) : List ShelfM := (List.range n).map fun j => markShelf (k + ((5 * j : Nat) : Int))
@[simp] theorem markShelfL_length (n : Nat) (k : Int) : (markShelfL n k).length = n := by simp [markShelfL]
theorem markShelfL_get {n : Nat} {k : Int} {j : Nat} (h : j < (markShelfL n k).length) : (markShelfL n k)[j] = markShelf (k + ((5 * j : Nat) : Int)) := by simp [markShelfL]
theorem markShelfL_getD {n : Nat} {k : Int} {j : Nat} (h : j < n) : (markShelfL n k).getD j shelf0 = markShelf (k + ((5 * j : Nat) : Int)) := by
  rw [List.getD_eq_getElem?_getD, List.getElem?_eq_getElem (by simpa using h)]; exact markShelfL_get _
set_option maxRecDepth 100000 in
set_option maxHeartbeats 1000000 in
theorem markShelfS_any (A : Option Addr) (cap B : Nat) (L : List ShelfM) (K : Int) (w : World) (hK : 0 ≤ K ∧ K ≤ 17592186044416) (hl : L.length ≤ 1048576) (hs : ShelfR w B A L) :
    Calls Tryz.prog 102 #[.slice A L.length cap, .int .i64 K] w fun e w' => e = .returned (.int .i64 (K + ((5 * L.length : Nat) : Int))) ∧ Keep (fun g => A = some ⟨g, 0, none⟩) w w' ∧ ShelfR w' B A (markShelfL L.length K) := by
  obtain ⟨hK0, hK1⟩ := hK
  go_enter Tryz.func102, Tryz.ntmps102
  go_wp2
  go_loopw [1, 5] (fun c i wr => ∃ k : Nat, k ≤ L.length ∧ i = .int .i64 k ∧ c = .int .i64 (K + ((5 * k : Nat) : Int)) ∧ Keep (fun g => A = some ⟨g, 0, none⟩) w wr ∧ RowR wr B A 103 5 L.length fun j => shelfF (if j < k then markShelf (K + ((5 * j : Nat) : Int)) else L.getD j shelf0)) (fun _ i _ => L.length - (intOf i).toNat)
  case atStart => exact ⟨0, Nat.zero_le _, rfl, by simp, Keep.refl _ _, hs.congr fun j i _ _ => by simp⟩
  case round =>
    obtain ⟨k, hk, rfl, rfl, hkeep, hrow⟩ := hrel
    by_cases hlt : k < L.length
    · have HK := Lib.hid hkeep
      have HR := Lib.hid hrow
      obtain ⟨g, hA, hg, hB, v0, f0⟩ := hrow.cell hlt (i := 0) (by omega)
      obtain ⟨_, e, _, _, v1, f1⟩ := hrow.cell hlt (i := 1) (by omega); cases hA.symm.trans e
      obtain ⟨_, e, _, _, v2, f2⟩ := hrow.cell hlt (i := 2) (by omega); cases hA.symm.trans e
      obtain ⟨_, e, _, _, v3, f3⟩ := hrow.cell hlt (i := 3) (by omega); cases hA.symm.trans e
      obtain ⟨_, e, _, _, v4, f4⟩ := hrow.cell hlt (i := 4) (by omega); cases hA.symm.trans e
      have HA := Lib.hid hA
      clear hkeep hrow hs
      subst hA
      have b0 : (0 : Int) ≤ K + ((5 * k : Nat) : Int) := by omega
      have b1 : K + ((5 * k : Nat) : Int) ≤ 17592186044416 + 9437184 := by omega
      generalize hq : K + ((5 * k : Nat) : Int) = q at *
      have HQ := Lib.hid hq
      clear hq
      simp only [Nat.add_zero] at v0 f0
      go_wp2
      go_roundw
      case rel => exact ⟨k + 1, by omega, by go_num, by rw [← HQ.out]; go_num, (((((HK.out.trans (Keep.set _ _ _ HA.out)).trans (Keep.set _ _ _ HA.out)).trans (Keep.set _ _ _ HA.out)).trans (Keep.set _ _ _ HA.out)).trans (Keep.set _ _ _ HA.out)), ((((((HR.out.set HA.out hlt (i := 0) (by omega) _).set HA.out hlt (i := 1) (by omega) _).set HA.out hlt (i := 2) (by omega) _).set HA.out hlt (i := 3) (by omega) _).set HA.out hlt (i := 4) (by omega) _).congr fun j i hj hi => by
        have := HQ.out
        by_cases e : j = k
        · subst e
          subst this
          rcases i with _ | _ | _ | _ | _ | i
          all_goals first | (exfalso; omega) | (simp [shelfF, markShelf, m3]; done) | (simp [shelfF, markShelf, m3]; omega)
        · have : (j < k + 1) ↔ (j < k) := by omega
          simp [e, this])⟩
      case measure => simp [intOf]; omega
    · go_wp2
      go_ret
      obtain rfl : k = L.length := by omega
      exact ⟨rfl, hkeep, by
        show RowR _ _ _ _ 5 (markShelfL L.length K).length _
        rw [markShelfL_length]
        exact hrow.congr fun j i hj hi => by rw [if_pos hj, markShelfL_getD hj]⟩
set_option maxRecDepth 100000 in
set_option maxHeartbeats 1000000 in
theorem heldShelfS_any (A : Option Addr) (cap n : Nat) (K : Int) (w : World) (hK : 0 ≤ K ∧ K ≤ 17592186044416) (hl : n ≤ 1048576) (hs : ShelfS w A (markShelfL n K)) :
    Calls Tryz.prog 105 #[.slice A n cap, .int .i64 K] w fun e w' => e = .returned (.int .i64 (K + ((5 * n : Nat) : Int))) ∧ w = w' := by
  obtain ⟨hK0, hK1⟩ := hK
  go_enter Tryz.func105, Tryz.ntmps105
  go_wp2
  go_loopw [1, 5] (fun c i wr => ∃ k : Nat, k ≤ n ∧ i = .int .i64 k ∧ c = .int .i64 (K + ((5 * k : Nat) : Int)) ∧ w = wr) (fun _ i _ => n - (intOf i).toNat)
  case atStart => exact ⟨0, Nat.zero_le _, rfl, by simp, rfl⟩
  case round =>
    obtain ⟨k, hk, rfl, rfl, rfl⟩ := hrel
    by_cases hlt : k < n
    · obtain ⟨b, o, rfl, hB, v0, v1, v2, v3, v4⟩ := hs.at_ k (by simpa using hlt)
      rw [markShelfL_get] at v0 v1 v2 v3 v4
      have b0 : (0 : Int) ≤ K + ((5 * k : Nat) : Int) := by omega
      have b1 : K + ((5 * k : Nat) : Int) ≤ 17592186044416 + 9437184 := by omega
      generalize hq : K + ((5 * k : Nat) : Int) = q at *
      have HQ := Lib.hid hq
      clear hq
      simp only [markShelf, m3] at v0 v1 v2 v3 v4
      go_wp2
      go_roundw
      case rel => exact ⟨k + 1, by omega, by go_num, by rw [← HQ.out]; go_num, by first | rfl | trivial⟩
      case measure => simp [intOf]; omega
    · go_wp2
      go_ret
      obtain rfl : k = n := by omega
      first | exact ⟨rfl, rfl⟩ | exact ⟨rfl, trivial⟩
def markIntL (n : Nat) (k : Int) : List Int := (List.range n).map fun j => k + (j : Nat)
@[simp] theorem markIntL_length (n : Nat) (k : Int) : (markIntL n k).length = n := by simp [markIntL]
theorem markIntL_get {n : Nat} {k : Int} {j : Nat} (h : j < (markIntL n k).length) : (markIntL n k)[j] = k + (j : Nat) := by simp [markIntL]
theorem markIntL_getD {n : Nat} {k : Int} {j : Nat} (h : j < n) : (markIntL n k).getD j 0 = k + (j : Nat) := by
  rw [List.getD_eq_getElem?_getD, List.getElem?_eq_getElem (by simpa using h)]; exact markIntL_get _
set_option maxRecDepth 100000 in
set_option maxHeartbeats 1000000 in
theorem markIntS_any (A : Option Addr) (cap B : Nat) (L : List Int) (K : Int) (w : World) (hK : 0 ≤ K ∧ K ≤ 17592186044416) (hl : L.length ≤ 1048576) (hs : IntR w B A L) :
    Calls Tryz.prog 100 #[.slice A L.length cap, .int .i64 K] w fun e w' => e = .returned (.int .i64 (K + (L.length : Int))) ∧ Keep (fun g => A = some ⟨g, 0, none⟩) w w' ∧ IntR w' B A (markIntL L.length K) := by
  obtain ⟨hK0, hK1⟩ := hK
  go_enter Tryz.func100, Tryz.ntmps100
  go_wp2
  go_loopw [1, 5] (fun c i wr => ∃ k : Nat, k ≤ L.length ∧ i = .int .i64 k ∧ c = .int .i64 (K + (k : Int)) ∧ Keep (fun g => A = some ⟨g, 0, none⟩) w wr ∧ RowR wr B A 3 1 L.length fun j _ => .int .i64 (if j < k then K + (j : Int) else L.getD j 0)) (fun _ i _ => L.length - (intOf i).toNat)
  case atStart => exact ⟨0, Nat.zero_le _, rfl, by simp, Keep.refl _ _, hs.congr fun j i _ _ => by simp⟩
  case round =>
    obtain ⟨k, hk, rfl, rfl, hkeep, hrow⟩ := hrel
    by_cases hlt : k < L.length
    · have HK := Lib.hid hkeep
      have HR := Lib.hid hrow
      obtain ⟨g, hA, hg, hB, v0, f0⟩ := hrow.cell hlt (i := 0) (by omega)
      have HA := Lib.hid hA
      clear hkeep hrow hs
      subst hA
      have b0 : (0 : Int) ≤ K + (k : Int) := by omega
      have b1 : K + (k : Int) ≤ 17592186044416 + 9437184 := by omega
      generalize hq : K + (k : Int) = q at *
      have HQ := Lib.hid hq
      clear hq
      simp only [Nat.add_zero, Nat.mul_one] at v0 f0
      go_wp2
      go_roundw
      case rel => exact ⟨k + 1, by omega, by go_num, by rw [← HQ.out]; go_num, HK.out.trans (Keep.set _ _ _ HA.out), by
        have := HR.out.set HA.out hlt (i := 0) (by omega) (.int .i64 (q))
        simp only [Nat.add_zero, Nat.mul_one] at this
        refine this.congr fun j i hj hi => ?_
        have hQ := HQ.out
        by_cases e : j = k
        · subst e
          subst hQ
          obtain rfl : i = 0 := by omega
          simp
        · have : (j < k + 1) ↔ (j < k) := by omega
          simp [e, this]⟩
      case measure => simp [intOf]; omega
    · go_wp2
      go_ret
      obtain rfl : k = L.length := by omega
      exact ⟨rfl, hkeep, by
        show RowR _ _ _ _ 1 (markIntL L.length K).length _
        rw [markIntL_length]
        exact hrow.congr fun j i hj hi => by rw [if_pos hj, markIntL_getD hj]⟩
set_option maxRecDepth 100000 in
set_option maxHeartbeats 1000000 in
theorem heldIntS_any (A : Option Addr) (cap n : Nat) (K : Int) (w : World) (hK : 0 ≤ K ∧ K ≤ 17592186044416) (hl : n ≤ 1048576) (hs : IntS w A (markIntL n K)) :
    Calls Tryz.prog 103 #[.slice A n cap, .int .i64 K] w fun e w' => e = .returned (.int .i64 (K + (n : Int))) ∧ w = w' := by
  obtain ⟨hK0, hK1⟩ := hK
  go_enter Tryz.func103, Tryz.ntmps103
  go_wp2
  go_loopw [1, 5] (fun c i wr => ∃ k : Nat, k ≤ n ∧ i = .int .i64 k ∧ c = .int .i64 (K + (k : Int)) ∧ w = wr) (fun _ i _ => n - (intOf i).toNat)
  case atStart => exact ⟨0, Nat.zero_le _, rfl, by simp, rfl⟩
  case round =>
    obtain ⟨k, hk, rfl, rfl, rfl⟩ := hrel
    by_cases hlt : k < n
    · obtain ⟨b, o, rfl, hB, v0⟩ := hs.at_ k (by simpa using hlt)
      rw [markIntL_get] at v0
      have b0 : (0 : Int) ≤ K + (k : Int) := by omega
      have b1 : K + (k : Int) ≤ 17592186044416 + 9437184 := by omega
      generalize hq : K + (k : Int) = q at *
      have HQ := Lib.hid hq
      clear hq
      skip
      go_wp2
      go_roundw
      case rel => exact ⟨k + 1, by omega, by go_num, by rw [← HQ.out]; go_num, by first | rfl | trivial⟩
      case measure => simp [intOf]; omega
    · go_wp2
      go_ret
      obtain rfl : k = n := by omega
      first | exact ⟨rfl, rfl⟩ | exact ⟨rfl, trivial⟩
def markBoolL (n : Nat) (k : Int) : List Bool := (List.range n).map fun j => m3 (k + (j : Nat))
@[simp] theorem markBoolL_length (n : Nat) (k : Int) : (markBoolL n k).length = n := by simp [markBoolL]
theorem markBoolL_get {n : Nat} {k : Int} {j : Nat} (h : j < (markBoolL n k).length) : (markBoolL n k)[j] = m3 (k + (j : Nat)) := by simp [markBoolL]
theorem markBoolL_getD {n : Nat} {k : Int} {j : Nat} (h : j < n) : (markBoolL n k).getD j false = m3 (k + (j : Nat)) := by
  rw [List.getD_eq_getElem?_getD, List.getElem?_eq_getElem (by simpa using h)]; exact markBoolL_get _
set_option maxRecDepth 100000 in
set_option maxHeartbeats 1000000 in
theorem markBoolS_any (A : Option Addr) (cap B : Nat) (L : List Bool) (K : Int) (w : World) (hK : 0 ≤ K ∧ K ≤ 17592186044416) (hl : L.length ≤ 1048576) (hs : BoolR w B A L) :
    Calls Tryz.prog 101 #[.slice A L.length cap, .int .i64 K] w fun e w' => e = .returned (.int .i64 (K + (L.length : Int))) ∧ Keep (fun g => A = some ⟨g, 0, none⟩) w w' ∧ BoolR w' B A (markBoolL L.length K) := by
  obtain ⟨hK0, hK1⟩ := hK
  go_enter Tryz.func101, Tryz.ntmps101
  go_wp2
  go_loopw [1, 5] (fun c i wr => ∃ k : Nat, k ≤ L.length ∧ i = .int .i64 k ∧ c = .int .i64 (K + (k : Int)) ∧ Keep (fun g => A = some ⟨g, 0, none⟩) w wr ∧ RowR wr B A 4 1 L.length fun j _ => .bool (if j < k then m3 (K + (j : Int)) else L.getD j false)) (fun _ i _ => L.length - (intOf i).toNat)
  case atStart => exact ⟨0, Nat.zero_le _, rfl, by simp, Keep.refl _ _, hs.congr fun j i _ _ => by simp⟩
  case round =>
    obtain ⟨k, hk, rfl, rfl, hkeep, hrow⟩ := hrel
    by_cases hlt : k < L.length
    · have HK := Lib.hid hkeep
      have HR := Lib.hid hrow
      obtain ⟨g, hA, hg, hB, v0, f0⟩ := hrow.cell hlt (i := 0) (by omega)
      have HA := Lib.hid hA
      clear hkeep hrow hs
      subst hA
      have b0 : (0 : Int) ≤ K + (k : Int) := by omega
      have b1 : K + (k : Int) ≤ 17592186044416 + 9437184 := by omega
      generalize hq : K + (k : Int) = q at *
      have HQ := Lib.hid hq
      clear hq
      simp only [Nat.add_zero, Nat.mul_one] at v0 f0
      go_wp2
      go_roundw
      case rel => exact ⟨k + 1, by omega, by go_num, by rw [← HQ.out]; go_num, HK.out.trans (Keep.set _ _ _ HA.out), by
        have := HR.out.set HA.out hlt (i := 0) (by omega) (.bool (m3 (q)))
        simp only [Nat.add_zero, Nat.mul_one] at this
        refine this.congr fun j i hj hi => ?_
        have hQ := HQ.out
        by_cases e : j = k
        · subst e
          subst hQ
          obtain rfl : i = 0 := by omega
          simp
        · have : (j < k + 1) ↔ (j < k) := by omega
          simp [e, this]⟩
      case measure => simp [intOf]; omega
    · go_wp2
      go_ret
      obtain rfl : k = L.length := by omega
      exact ⟨rfl, hkeep, by
        show RowR _ _ _ _ 1 (markBoolL L.length K).length _
        rw [markBoolL_length]
        exact hrow.congr fun j i hj hi => by rw [if_pos hj, markBoolL_getD hj]⟩
set_option maxRecDepth 100000 in
set_option maxHeartbeats 1000000 in
theorem heldBoolS_any (A : Option Addr) (cap n : Nat) (K : Int) (w : World) (hK : 0 ≤ K ∧ K ≤ 17592186044416) (hl : n ≤ 1048576) (hs : BoolS w A (markBoolL n K)) :
    Calls Tryz.prog 104 #[.slice A n cap, .int .i64 K] w fun e w' => e = .returned (.int .i64 (K + (n : Int))) ∧ w = w' := by
  obtain ⟨hK0, hK1⟩ := hK
  go_enter Tryz.func104, Tryz.ntmps104
  go_wp2
  go_loopw [1, 5] (fun c i wr => ∃ k : Nat, k ≤ n ∧ i = .int .i64 k ∧ c = .int .i64 (K + (k : Int)) ∧ w = wr) (fun _ i _ => n - (intOf i).toNat)
  case atStart => exact ⟨0, Nat.zero_le _, rfl, by simp, rfl⟩
  case round =>
    obtain ⟨k, hk, rfl, rfl, rfl⟩ := hrel
    by_cases hlt : k < n
    · obtain ⟨b, o, rfl, hB, v0⟩ := hs.at_ k (by simpa using hlt)
      rw [markBoolL_get] at v0
      have b0 : (0 : Int) ≤ K + (k : Int) := by omega
      have b1 : K + (k : Int) ≤ 17592186044416 + 9437184 := by omega
      generalize hq : K + (k : Int) = q at *
      have HQ := Lib.hid hq
      clear hq
      simp only [m3] at v0
      go_wp2
      go_roundw
      case rel => exact ⟨k + 1, by omega, by go_num, by rw [← HQ.out]; go_num, by first | rfl | trivial⟩
      case measure => simp [intOf]; omega
    · go_wp2
      go_ret
      obtain rfl : k = n := by omega
      first | exact ⟨rfl, rfl⟩ | exact ⟨rfl, trivial⟩
/-- the text of a mark -/
def markLoop : Nat → Nat → List UInt8 → List UInt8
  | 0, _, o => o
  | f + 1, n, o => if n = 0 then o else markLoop f (n / 10) (dgt (n % 10) :: o)
def markM (k : Int) : ByteArray := strB (109 :: markLoop 60 k.toNat [])
theorem markLoop_zero (f : Nat) (o : List UInt8) : markLoop f 0 o = o := by cases f <;> rfl
theorem markLoop_step {f n : Nat} {o : List UInt8} (h : n ≠ 0) : markLoop (f + 1) n o = markLoop f (n / 10) (dgt (n % 10) :: o) := by rw [markLoop, if_neg h]
set_option maxRecDepth 100000 in
set_option maxHeartbeats 1000000 in
theorem markText_any (k : Int) (w : World) (h0 : 1 ≤ k) (h1 : k ≤ 35184372088832) :
    Calls Tryz.prog 99 #[.int .i64 k] w fun e w' => e = .returned (.string (markM k)) ∧ Below w.heap.size w w' := by
  go_enter Tryz.func99, Tryz.ntmps99
  go_wp2
  go_loopw [0, 3] (fun n o wr => ∃ (f m : Nat) (l : List UInt8), n = .int .i64 m ∧ o = .string (strB l) ∧ m < 2 ^ f ∧ l.length + m ≤ 35184372088832 ∧ markLoop f m l = markLoop 60 k.toNat [] ∧ Below w.heap.size w wr) (fun n _ _ => (intOf n).toNat)
  case atStart => exact ⟨60, k.toNat, [], by rw [Int.toNat_of_nonneg (by omega)], rfl, by omega, by simp; omega, rfl, Below.refl _ _⟩
  case round =>
    obtain ⟨f, m, l, rfl, rfl, hm, hlen, hml, hb⟩ := hrel
    by_cases hlt : m = 0
    · subst hlt
      rw [markLoop_zero] at hml
      have HE := Lib.hid (show (⟨#[109]⟩ : ByteArray) ++ strB l = markM k by rw [hml, show (⟨#[109]⟩ : ByteArray) = strB [109] from rfl, strB_append]; rfl)
      have hsz : (strB l).size ≤ 35184372088832 := by rw [strB_size]; omega
      clear hml hlen hm h0 h1
      go_wp2
      go_ret
      exact ⟨ret_str HE.out, hb⟩
    · have hf0 : f ≠ 0 := fun e => by subst e; simp at hm; omega
      obtain ⟨f, rfl⟩ : ∃ f', f = f' + 1 := ⟨f - 1, by omega⟩
      rw [markLoop_step hlt] at hml
      have HM := Lib.hid hml
      have HL := Lib.hid hlen
      have HF := Lib.hid hm
      have hi0 : (1 : Int) ≤ (m : Int) := by omega
      have hi1 : (m : Int) ≤ 35184372088832 := by omega
      have hd : (m : Int).tdiv 10 = ((m / 10 : Nat) : Int) := by rw [Int.tdiv_eq_ediv_of_nonneg (by omega)]; simp
      have hmd : (m : Int).tmod 10 = ((m % 10 : Nat) : Int) := by rw [Int.tmod_eq_emod_of_nonneg (by omega)]; simp
      have hm1 : ((m % 10 : Nat) : Int) < 10 := by omega
      have hm0 : (0 : Int) ≤ ((m % 10 : Nat) : Int) := by omega
      have hsz : (strB l).size ≤ 35184372088832 := by rw [strB_size]; omega
      have hs1 : (strB [dgt (m % 10)]).size = 1 := by rw [strB_size]; rfl
      have hcv := conv1 (new_cell wr (.int .u8 (48 + ((m % 10 : Nat) : Int))) 5)
      rw [show ((m % 10 : Nat) : Int) = (m : Int) % 10 by simp] at hcv
      clear hml hlen hm h0 h1 hm0 hm1 hd hmd
      have HD := Lib.hid (show strB [dgt (m % 10)] ++ strB l = strB (dgt (m % 10) :: l) by rw [strB_append]; rfl)
      go_wp2
      go_roundw
      case rel => exact ⟨f, m / 10, dgt (m % 10) :: l, by first | rfl | (rw [hd]), by first | (rw [HD.out]) | (simp [HD.out]), by have := HF.out; rw [Nat.pow_succ] at this; omega, by have := HL.out; simp only [List.length_cons]; omega, HM.out, hb.alloc (by have := hb.size; omega) _⟩
      case measure => simp [intOf]; omega
end Go.Proofs.YtknfpigaognklaaGreatDoor
namespace Go.Proofs.YtknfpigaognklaaGreatDoor
open Go.RowKit Go.Sort
def gStep (x : GroupM) : Nat := 11 + x.band.locals.length + x.band.dry.length + 5 * x.shelves.length
/-- a group, marked from a number on -/
def markG (x : GroupM) (k : Int) : GroupM := { used := m3 k, parent := k + 1, name := markM (k + 2), weight := k + 3, cpus := k + 4, period := k + 5, next := k + 6, sum := k + 7, band := { quota := k + 8, pool := k + 9, spent := k + 10, locals := markIntL x.band.locals.length (k + 11), dry := markBoolL x.band.dry.length (k + 11 + (x.band.locals.length : Nat)) }, shelves := markShelfL x.shelves.length (k + 11 + (x.band.locals.length : Nat) + (x.band.dry.length : Nat)) }
def cntK (L : List GroupM) (K : Int) : Nat → Int
  | 0 => K
  | j + 1 => cntK L K j + (gStep (L.getD j group0) : Nat)
def mg (L : List GroupM) (K : Int) (k j : Nat) : GroupM := if j < k then markG (L.getD j group0) (cntK L K j) else L.getD j group0
def markGL (L : List GroupM) (K : Int) : List GroupM := (List.range L.length).map fun j => markG (L.getD j group0) (cntK L K j)
@[simp] theorem markGL_length (L : List GroupM) (K : Int) : (markGL L K).length = L.length := by simp [markGL]
theorem markGL_getD {L : List GroupM} {K : Int} {j : Nat} (h : j < L.length) : (markGL L K).getD j group0 = markG (L.getD j group0) (cntK L K j) := by
  rw [List.getD_eq_getElem?_getD, List.getElem?_eq_getElem (by simpa using h)]; simp [markGL]
theorem markGL_get {L : List GroupM} {K : Int} {j : Nat} (h : j < (markGL L K).length) : (markGL L K)[j] = markG (L.getD j group0) (cntK L K j) := by simp [markGL]
theorem gStep_fit {x : GroupM} (h : GFit x) : gStep x ≤ 7340043 := by obtain ⟨_, ⟨h1, h2⟩, h3⟩ := h; unfold gStep; omega
theorem cntK_bd {L : List GroupM} {K : Int} (hf : ∀ k (h : k < L.length), GFit L[k]) : ∀ j : Nat, j ≤ L.length → K ≤ cntK L K j ∧ cntK L K j ≤ K + 7340043 * (j : Nat)
  | 0, _ => by simp [cntK]
  | j + 1, h => by
    have ih := cntK_bd (K := K) hf j (by omega)
    have := gStep_fit (hf j (by omega))
    have e : L.getD j group0 = L[j] := by rw [List.getD_eq_getElem?_getD, List.getElem?_eq_getElem (by omega)]; rfl
    simp only [cntK, e]
    omega
/-- groups that are owned, one by one -/
structure GrpsO (w : World) (B : Nat) (A : Option Addr) (H : Nat → GH) (n : Nat) (X : Nat → GroupM) : Prop where
  row : RowR w B A 55 14 n fun k => groupF (X k) (H k)
  loc : ∀ k, k < n → IntR w B (H k).la (X k).band.locals
  dry : ∀ k, k < n → BoolR w B (H k).da (X k).band.dry
  she : ∀ k, k < n → ShelfR w B (H k).sa (X k).shelves
  sepL : Sep (fun k => (H k).la) n
  sepD : Sep (fun k => (H k).da) n
  sepS : Sep (fun k => (H k).sa) n
/-- the blocks of one group, and of the row -/
def Part (A : Option Addr) (h : GH) (g : Nat) : Prop := A = some ⟨g, 0, none⟩ ∨ h.la = some ⟨g, 0, none⟩ ∨ h.da = some ⟨g, 0, none⟩ ∨ h.sa = some ⟨g, 0, none⟩
/-- the blocks of groups -/
def HasG (A : Option Addr) (H : Nat → GH) (n g : Nat) : Prop := A = some ⟨g, 0, none⟩ ∨ ∃ k, k < n ∧ ((H k).la = some ⟨g, 0, none⟩ ∨ (H k).da = some ⟨g, 0, none⟩ ∨ (H k).sa = some ⟨g, 0, none⟩)
theorem Part.has {A : Option Addr} {H : Nat → GH} {n k g : Nat} (hk : k < n) (h : Part A (H k) g) : HasG A H n g := by
  rcases h with h | h | h | h
  · exact .inl h
  · exact .inr ⟨k, hk, .inl h⟩
  · exact .inr ⟨k, hk, .inr (.inl h)⟩
  · exact .inr ⟨k, hk, .inr (.inr h)⟩
section
variable {w w' : World} {B : Nat} {A : Option Addr} {H : Nat → GH} {n : Nat} {X Y : Nat → GroupM}
theorem GrpsO.congr (h : GrpsO w B A H n X) (e : ∀ k, k < n → X k = Y k) : GrpsO w B A H n Y :=
  ⟨h.row.congr fun k i hk _ => by rw [e k hk], fun k hk => by rw [← e k hk]; exact h.loc k hk, fun k hk => by rw [← e k hk]; exact h.dry k hk, fun k hk => by rw [← e k hk]; exact h.she k hk, h.sepL, h.sepD, h.sepS⟩
/-- one group is altered -/
theorem GrpsO.round (h : GrpsO w B A H n X) {k : Nat} (hk : k < n) (hkeep : Keep (Part A (H k)) w w') (hrow : RowR w' B A 55 14 n fun j => groupF (Y j) (H j))
    (hl : IntR w' B (H k).la (Y k).band.locals) (hd : BoolR w' B (H k).da (Y k).band.dry) (hs : ShelfR w' B (H k).sa (Y k).shelves) (he : ∀ j, j ≠ k → Y j = X j) : GrpsO w' B A H n Y := by
  have frm : ∀ {T n' len f} {A' : Option Addr} {a : Addr}, RowR w B A' T n' len f → A' = some a → A' = some ⟨a.block, 0, none⟩ := fun hr ha => by rw [ha, ← hr.form ha]
  refine ⟨hrow, fun j hj => ?_, fun j hj => ?_, fun j hj => ?_, h.sepL, h.sepD, h.sepS⟩
  · by_cases e : j = k
    · subst e; exact hl
    · rw [he j e]
      refine (h.loc j hj).keep hkeep fun a ha => ?_
      rintro (c | c | c | c)
      · exact RowR.ne (h.loc j hj) h.row (by decide) ha c rfl
      · exact h.sepL j k _ hj hk e (frm (h.loc j hj) ha) c
      · exact RowR.ne (h.loc j hj) (h.dry k hk) (by decide) ha c rfl
      · exact RowR.ne (h.loc j hj) (h.she k hk) (by decide) ha c rfl
  · by_cases e : j = k
    · subst e; exact hd
    · rw [he j e]
      refine (h.dry j hj).keep hkeep fun a ha => ?_
      rintro (c | c | c | c)
      · exact RowR.ne (h.dry j hj) h.row (by decide) ha c rfl
      · exact RowR.ne (h.dry j hj) (h.loc k hk) (by decide) ha c rfl
      · exact h.sepD j k _ hj hk e (frm (h.dry j hj) ha) c
      · exact RowR.ne (h.dry j hj) (h.she k hk) (by decide) ha c rfl
  · by_cases e : j = k
    · subst e; exact hs
    · rw [he j e]
      refine (h.she j hj).keep hkeep fun a ha => ?_
      rintro (c | c | c | c)
      · exact RowR.ne (h.she j hj) h.row (by decide) ha c rfl
      · exact RowR.ne (h.she j hj) (h.loc k hk) (by decide) ha c rfl
      · exact RowR.ne (h.she j hj) (h.dry k hk) (by decide) ha c rfl
      · exact h.sepS j k _ hj hk e (frm (h.she j hj) ha) c
end
theorem mg_self (L : List GroupM) (K : Int) (k : Nat) : mg L K k k = L.getD k group0 := by simp [mg]
theorem mg_done (L : List GroupM) (K : Int) (k : Nat) : mg L K (k + 1) k = markG (L.getD k group0) (cntK L K k) := by simp [mg]
theorem mg_other {L : List GroupM} {K : Int} {k j : Nat} (h : j ≠ k) : mg L K (k + 1) j = mg L K k j := by
  have : (j < k + 1) ↔ (j < k) := by omega
  simp [mg, this]
theorem foldl_upd_other {l : List (Nat × Value)} {i : Nat} {v : Value} (h : ∀ p ∈ l, p.1 ≠ i) : l.foldl (fun v p => if p.1 = i then p.2 else v) v = v := by
  induction l generalizing v with
  | nil => rfl
  | cons p l ih => rw [List.foldl_cons, if_neg (h p (by simp))]; exact ih fun p hp => h p (by simp [hp])
/-- several writes in one part -/
theorem RowR.sets {B : Nat} {A : Option Addr} {T : TypeId} {n len g k : Nat} (hA : A = some ⟨g, 0, none⟩) (hk : k < len) : ∀ (l : List (Nat × Value)) {w : World} {f : Nat → Nat → Value} (_ : RowR w B A T n len f) (_ : ∀ p ∈ l, p.1 < n),
    RowR (l.foldl (fun w p => w.setCell ⟨g, k * n + p.1, none⟩ p.2) w) B A T n len (fun k' i' => if k' = k then l.foldl (fun v p => if p.1 = i' then p.2 else v) (f k' i') else f k' i')
  | [], w, f, h, _ => h.congr fun j i _ _ => by simp
  | p :: l, w, f, h, hp => ((RowR.sets hA hk l (h.set hA hk (hp p (by simp)) p.2) fun q hq => hp q (by simp [hq])).congr fun j i hj hi => by
      by_cases e : j = k
      · subst e
        simp only [if_true, true_and, List.foldl_cons]
        by_cases e2 : i = p.1
        · subst e2; simp
        · rw [if_neg e2, if_neg (fun h => e2 h.symm)]
      · simp [e])
theorem Keep.sets {S : Nat → Prop} {g n k : Nat} (hp : S g) : ∀ (l : List (Nat × Value)) (w : World), Keep S w (l.foldl (fun w p => w.setCell ⟨g, k * n + p.1, none⟩ p.2) w)
  | [], _ => Keep.refl _ _
  | _ :: l, w => (Keep.set w _ _ hp).trans (Keep.sets hp l _)
def mk1 (q : Int) : List (Nat × Value) := [(0, .bool (q % 3 == 0)), (1, .int .i64 (q + 1))]
def mk2 (q : Int) : List (Nat × Value) := [(2, .string (markM (q + 1 + 1))), (3, .int .i64 (q + 1 + 1 + 1)), (4, .int .i64 (q + 1 + 1 + 1 + 1)), (5, .int .i64 (q + 1 + 1 + 1 + 1 + 1)), (6, .int .i64 (q + 1 + 1 + 1 + 1 + 1 + 1)), (7, .int .i64 (q + 1 + 1 + 1 + 1 + 1 + 1 + 1)), (8, .int .i64 (q + 1 + 1 + 1 + 1 + 1 + 1 + 1 + 1)), (9, .int .i64 (q + 1 + 1 + 1 + 1 + 1 + 1 + 1 + 1 + 1)), (10, .int .i64 (q + 1 + 1 + 1 + 1 + 1 + 1 + 1 + 1 + 1 + 1))]
theorem mark_cells (x : GroupM) (h : GH) (q : Int) : ∀ i, i < 14 → (mk2 q).foldl (fun v p => if p.1 = i then p.2 else v) ((mk1 q).foldl (fun v p => if p.1 = i then p.2 else v) (groupF x h i)) = groupF (markG x q) h i
  | 0, _ => rfl
  | 1, _ => rfl
  | 2, _ => congrArg (fun z => Value.string (markM z)) (show q + 1 + 1 = q + 2 by omega)
  | 3, _ => val_eq (show q + 1 + 1 + 1 = q + 3 by omega)
  | 4, _ => val_eq (show q + 1 + 1 + 1 + 1 = q + 4 by omega)
  | 5, _ => val_eq (show q + 1 + 1 + 1 + 1 + 1 = q + 5 by omega)
  | 6, _ => val_eq (show q + 1 + 1 + 1 + 1 + 1 + 1 = q + 6 by omega)
  | 7, _ => val_eq (show q + 1 + 1 + 1 + 1 + 1 + 1 + 1 = q + 7 by omega)
  | 8, _ => val_eq (show q + 1 + 1 + 1 + 1 + 1 + 1 + 1 + 1 = q + 8 by omega)
  | 9, _ => val_eq (show q + 1 + 1 + 1 + 1 + 1 + 1 + 1 + 1 + 1 = q + 9 by omega)
  | 10, _ => val_eq (show q + 1 + 1 + 1 + 1 + 1 + 1 + 1 + 1 + 1 + 1 = q + 10 by omega)
  | 11, _ => congrArg (fun z => Value.slice h.la z h.lc) (show x.band.locals.length = (markG x q).band.locals.length by simp [markG])
  | 12, _ => congrArg (fun z => Value.slice h.da z h.dc) (show x.band.dry.length = (markG x q).band.dry.length by simp [markG])
  | 13, _ => congrArg (fun z => Value.slice h.sa z h.sc) (show x.shelves.length = (markG x q).shelves.length by simp [markG])
  | i + 14, h => absurd h (by omega)
/-- one name for a world -/
theorem genW {p : World → Prop} {w : World} (h : ∀ W, w = W → p W) : p w := h w rfl
set_option maxRecDepth 100000 in
set_option maxHeartbeats 4000000 in
theorem markGroupS_any (A : Option Addr) (cap B : Nat) (H : Nat → GH) (L : List GroupM) (K : Int) (w : World) (hK : 0 ≤ K ∧ K ≤ 14680065) (hl : L.length ≤ 1048576) (hf : ∀ k (h : k < L.length), GFit L[k]) (hs : GrpsO w B A H L.length fun k => L.getD k group0) :
    Calls Tryz.prog 53 #[.slice A L.length cap, .int .i64 K] w fun e w' => e = .returned (.int .i64 (cntK L K L.length)) ∧ Keep (HasG A H L.length) w w' ∧ GrpsO w' B A H L.length fun k => (markGL L K).getD k group0 := by
  have HBD := Lib.hid (cntK_bd (K := K) hf)
  have HF := Lib.hid hf
  obtain ⟨hK0, hK1⟩ := hK
  clear hf
  go_enter Tryz.func53, Tryz.ntmps53
  go_wp2
  go_loopw [1, 5] (fun c i wr => ∃ k : Nat, k ≤ L.length ∧ i = .int .i64 k ∧ c = .int .i64 (cntK L K k) ∧ Keep (HasG A H L.length) w wr ∧ GrpsO wr B A H L.length (mg L K k)) (fun _ i _ => L.length - (intOf i).toNat)
  case atStart => exact ⟨0, Nat.zero_le _, rfl, rfl, Keep.refl _ _, hs.congr fun k _ => by simp [mg]⟩
  case round =>
    obtain ⟨k, hk, rfl, rfl, hkeep, hgr⟩ := hrel
    by_cases hlt : k < L.length
    · have HK := Lib.hid hkeep
      have HG := Lib.hid hgr
      have HR := Lib.hid hgr.row
      obtain ⟨g, hA, hg, hB, v0, f0⟩ := hgr.row.cell hlt (i := 0) (by omega)
      have HA := Lib.hid hA
      obtain ⟨_, e, _, _, v1, f1⟩ := hgr.row.cell hlt (i := 1) (by omega); cases hA.symm.trans e
      clear hkeep hgr hs
      subst hA
      have hbd := HBD.out k hk
      have b0 : (0 : Int) ≤ cntK L K k := by omega
      have b1 : cntK L K k ≤ 14680065 + 7340043 * 1048576 := by omega
      have HX := Lib.hid (show GFit (L.getD k group0) by rw [List.getD_eq_getElem?_getD, List.getElem?_eq_getElem hlt]; exact HF.out k hlt)
      have HDN := Lib.hid (mg_done L K k)
      have HSF := Lib.hid (mg_self L K k)
      have HSTEP := Lib.hid (show cntK L K (k + 1) = cntK L K k + (gStep (L.getD k group0) : Nat) from rfl)
      have HM := Lib.hid (show ∀ k j, mg L K k j = mg L K k j from fun _ _ => rfl)
      generalize hx : L.getD k group0 = x at *
      generalize hq : cntK L K k = q at *
      have HQ := Lib.hid hq
      clear hq hbd hx HM
      simp only [Nat.add_zero] at v0 f0
      go_wp2_with fail
      refine genW (p := fun W => Calls _ _ _ W _) ?_
      intro W1 hW1
      have R1 := HR.out.sets rfl hlt (mk1 q) (by simp [mk1])
      have K1 := Keep.sets (S := fun i => some (⟨g, 0, none⟩ : Addr) = some ⟨i, 0, none⟩) (n := 14) (k := k) rfl (mk1 q) wr
      have e1 : (mk1 q).foldl (fun w p => w.setCell ⟨g, k * 14 + p.1, none⟩ p.2) wr = W1 := hW1
      rw [e1] at R1 K1
      clear e1
      clear hW1 v0 v1 f0 f1
      refine (markText_any _ _ (by omega) (by omega)).mono ?_
      rintro e W2 ⟨rfl, hb2⟩
      have R2 := Lib.hid (R1.below hb2)
      have K2 := Lib.hid (K1.then_ (Keep.of_below (S := fun _ => False) hb2) fun _ _ h => h.elim)
      clear R1 K1 hb2
      obtain ⟨_, e, _, _, v2, f2⟩ := R2.out.cell hlt (i := 2) (by omega); cases e
      obtain ⟨_, e, _, _, v3, f3⟩ := R2.out.cell hlt (i := 3) (by omega); cases e
      obtain ⟨_, e, _, _, v4, f4⟩ := R2.out.cell hlt (i := 4) (by omega); cases e
      obtain ⟨_, e, _, _, v5, f5⟩ := R2.out.cell hlt (i := 5) (by omega); cases e
      obtain ⟨_, e, _, _, v6, f6⟩ := R2.out.cell hlt (i := 6) (by omega); cases e
      obtain ⟨_, e, _, _, v7, f7⟩ := R2.out.cell hlt (i := 7) (by omega); cases e
      obtain ⟨_, e, _, _, v8, f8⟩ := R2.out.cell hlt (i := 8) (by omega); cases e
      obtain ⟨_, e, _, _, v9, f9⟩ := R2.out.cell hlt (i := 9) (by omega); cases e
      obtain ⟨_, e, _, _, v10, f10⟩ := R2.out.cell hlt (i := 10) (by omega); cases e
      obtain ⟨_, e, _, _, v11, f11⟩ := R2.out.cell hlt (i := 11) (by omega); cases e
      simp [groupF] at v11
      rw [HSF.out] at v11
      go_wp2_with fail
      refine genW (p := fun W => Calls _ _ _ W _) ?_
      intro W3 hW3
      have R3 := R2.out.sets rfl hlt (mk2 q) (by simp [mk2])
      have K3c := Keep.sets (S := fun i => some (⟨g, 0, none⟩ : Addr) = some ⟨i, 0, none⟩) (n := 14) (k := k) rfl (mk2 q) W2
      have e3 : (mk2 q).foldl (fun w p => w.setCell ⟨g, k * 14 + p.1, none⟩ p.2) W2 = W3 := hW3
      rw [e3] at R3 K3c
      have R3 := Lib.hid (R3.congr (f' := fun j => groupF (mg L K (k + 1) j) (H j)) fun j i hj hi => by
        by_cases e : j = k
        · subst e
          rw [if_pos rfl, if_pos rfl, HDN.out, HSF.out]
          exact mark_cells x (H j) q i hi
        · rw [if_neg e, if_neg e, mg_other e])
      have KA := Lib.hid (K2.out.trans K3c)
      clear e3 K3c
      clear hW3
      clear v2 v3 v4 v5 v6 v7 v8 v9 v10 v11 f2 f3 f4 f5 f6 f7 f8 f9 f10 f11 R2 K2
      have hI := (HG.out.loc k hlt).keep KA.out fun a ha c => RowR.ne (HG.out.loc k hlt) HG.out.row (by decide) ha c rfl
      have hD := (HG.out.dry k hlt).keep KA.out fun a ha c => RowR.ne (HG.out.dry k hlt) HG.out.row (by decide) ha c rfl
      have hS := (HG.out.she k hlt).keep KA.out fun a ha c => RowR.ne (HG.out.she k hlt) HG.out.row (by decide) ha c rfl
      rw [HSF.out] at hI hD hS
      rw [show q + 1 + 1 + 1 + 1 + 1 + 1 + 1 + 1 + 1 + 1 + 1 = q + 11 by omega]
      refine (markIntS_any _ _ B x.band.locals _ W3 ⟨by omega, by omega⟩ HX.out.2.1.1 hI).mono ?_
      rintro e W4 ⟨rfl, kI, hI4⟩
      have R4 := Lib.hid (R3.out.keep kI fun a ha c => RowR.ne R3.out hI (by decide) ha c rfl)
      have hD4 := hD.keep kI fun a ha c => RowR.ne hD hI (by decide) ha c rfl
      have hS4 := hS.keep kI fun a ha c => RowR.ne hS hI (by decide) ha c rfl
      have KB := Lib.hid (((KA.out.mono fun _ _ h => (.inl h : Part (some ⟨g, 0, none⟩) (H k) _)).trans (kI.mono fun _ _ h => (.inr (.inl h) : Part (some ⟨g, 0, none⟩) (H k) _))))
      obtain ⟨_, e, _, _, u12, f12⟩ := R4.out.cell hlt (i := 12) (by omega); cases e
      rw [HDN.out] at u12
      have v12 : W4.cell? ⟨g, k * 14 + 12, none⟩ = some (.slice (H k).da x.band.dry.length (H k).dc) := by rw [u12]; exact congrArg (fun z => some (Value.slice (H k).da z (H k).dc)) (by simp [markG])
      clear u12
      have y0 := HX.out.2.1.1
      have y1 := HX.out.2.1.2
      have y2 := HX.out.2.2
      clear hI hD hS kI
      go_wp2_with fail
      refine (markBoolS_any _ _ B x.band.dry _ W4 ⟨by omega, by omega⟩ HX.out.2.1.2 hD4).mono ?_
      rintro e W5 ⟨rfl, kD, hD5⟩
      have R5 := Lib.hid (R4.out.keep kD fun a ha c => RowR.ne R4.out hD4 (by decide) ha c rfl)
      have hI5 := hI4.keep kD fun a ha c => RowR.ne hI4 hD4 (by decide) ha c rfl
      have hS5 := hS4.keep kD fun a ha c => RowR.ne hS4 hD4 (by decide) ha c rfl
      have KC := Lib.hid (KB.out.trans (kD.mono fun _ _ h => (.inr (.inr (.inl h)) : Part (some ⟨g, 0, none⟩) (H k) _)))
      obtain ⟨_, e, _, _, u13, f13⟩ := R5.out.cell hlt (i := 13) (by omega); cases e
      rw [HDN.out] at u13
      have v13 : W5.cell? ⟨g, k * 14 + 13, none⟩ = some (.slice (H k).sa x.shelves.length (H k).sc) := by rw [u13]; exact congrArg (fun z => some (Value.slice (H k).sa z (H k).sc)) (by simp [markG])
      clear u13
      clear hI4 hD4 hS4 kD v12 f12
      go_wp2_with fail
      refine (markShelfS_any _ _ B x.shelves _ W5 ⟨by omega, by omega⟩ HX.out.2.2 hS5).mono ?_
      rintro e W6 ⟨rfl, kS, hS6⟩
      have R6 := Lib.hid (R5.out.keep kS fun a ha c => RowR.ne R5.out hS5 (by decide) ha c rfl)
      have hI6 := Lib.hid (hI5.keep kS fun a ha c => RowR.ne hI5 hS5 (by decide) ha c rfl)
      have hD6 := Lib.hid (hD5.keep kS fun a ha c => RowR.ne hD5 hS5 (by decide) ha c rfl)
      have KD := Lib.hid (KC.out.trans (kS.mono fun _ _ h => (.inr (.inr (.inr h)) : Part (some ⟨g, 0, none⟩) (H k) _)))
      have HS6 := Lib.hid hS6
      have HST2 := Lib.hid (show cntK L K (k + 1) = q + 11 + (x.band.locals.length : Int) + (x.band.dry.length : Int) + ((5 * x.shelves.length : Nat) : Int) by rw [HSTEP.out]; unfold gStep; omega)
      clear hI5 hD5 hS5 kS hS6 v13 f13
      go_wp2
      go_roundw
      case rel => exact ⟨k + 1, by omega, by go_num, by rw [HST2.out]; first | rfl | exact val_eq (by omega) | exact val_eq (by simp), HK.out.trans (KD.out.mono fun _ _ h => Part.has hlt h), HG.out.round hlt KD.out R6.out (by rw [HDN.out]; exact hI6.out) (by rw [HDN.out]; exact hD6.out) (by rw [HDN.out]; exact HS6.out) (fun j e => mg_other e)⟩
      case measure => simp [intOf]; omega
    · go_wp2
      go_ret
      obtain rfl : k = L.length := by omega
      exact ⟨rfl, hkeep, hgr.congr fun j hj => by rw [markGL_getD hj, mg, if_pos hj]⟩
/-- a world, marked -/
def markW (M : WorldM) (K : Int) : WorldM := ⟨M.now, markCpuL M.cpus.length K, markTaskL M.tasks.length (K + ((5 * M.cpus.length : Nat) : Int)), markGL M.groups (K + ((5 * M.cpus.length : Nat) : Int) + ((9 * M.tasks.length : Nat) : Int))⟩
def endW (M : WorldM) (K : Int) : Int := cntK M.groups (K + ((5 * M.cpus.length : Nat) : Int) + ((9 * M.tasks.length : Nat) : Int)) M.groups.length
theorem endW_pos {M : WorldM} (hf : WFit M) : 0 ≤ endW M 1 := by
  have := (cntK_bd (K := 1 + ((5 * M.cpus.length : Nat) : Int) + ((9 * M.tasks.length : Nat) : Int)) hf.2.2.2 M.groups.length (Nat.le_refl _)).1
  unfold endW
  omega
theorem endW_bd {M : WorldM} (hf : WFit M) : endW M 1 ≤ 17592186044416 := by
  have := (cntK_bd (K := 1 + ((5 * M.cpus.length : Nat) : Int) + ((9 * M.tasks.length : Nat) : Int)) hf.2.2.2 M.groups.length (Nat.le_refl _)).2
  have h1 := hf.1
  have h2 := hf.2.1
  have h3 := hf.2.2.1
  unfold endW
  omega
section
variable {w w' : World} {B : Nat} {ca ta ga : Option Addr} {gh : Nat → GH} {M : WorldM}
theorem Own.cpus (h : Own w B ca ta ga gh M) (hk : Keep (fun g => ca = some ⟨g, 0, none⟩) w w') {L : List CpuM} (hc : CpuR w' B ca L) : Own w' B ca ta ga gh { M with cpus := L } :=
  ⟨hc, h.task.keep hk fun _ ha c => RowR.ne h.task h.cpu (by decide) ha c rfl, h.grps.keep hk fun _ ha c => RowR.ne h.grps h.cpu (by decide) ha c rfl, fun k hk' => (h.loc k hk').keep hk fun _ ha c => RowR.ne (h.loc k hk') h.cpu (by decide) ha c rfl, fun k hk' => (h.dry k hk').keep hk fun _ ha c => RowR.ne (h.dry k hk') h.cpu (by decide) ha c rfl, fun k hk' => (h.she k hk').keep hk fun _ ha c => RowR.ne (h.she k hk') h.cpu (by decide) ha c rfl, h.sepL, h.sepD, h.sepS⟩
theorem Own.tasks (h : Own w B ca ta ga gh M) (hk : Keep (fun g => ta = some ⟨g, 0, none⟩) w w') {L : List TaskM} (hc : TaskR w' B ta L) : Own w' B ca ta ga gh { M with tasks := L } :=
  ⟨h.cpu.keep hk fun _ ha c => RowR.ne h.cpu h.task (by decide) ha c rfl, hc, h.grps.keep hk fun _ ha c => RowR.ne h.grps h.task (by decide) ha c rfl, fun k hk' => (h.loc k hk').keep hk fun _ ha c => RowR.ne (h.loc k hk') h.task (by decide) ha c rfl, fun k hk' => (h.dry k hk').keep hk fun _ ha c => RowR.ne (h.dry k hk') h.task (by decide) ha c rfl, fun k hk' => (h.she k hk').keep hk fun _ ha c => RowR.ne (h.she k hk') h.task (by decide) ha c rfl, h.sepL, h.sepD, h.sepS⟩
theorem Own.groups (h : Own w B ca ta ga gh M) (hk : Keep (HasG ga gh M.groups.length) w w') {L : List GroupM} (hg : GrpsO w' B ga gh L.length fun k => L.getD k group0) : Own w' B ca ta ga gh { M with groups := L } := by
  refine ⟨h.cpu.keep hk fun a ha c => ?_, h.task.keep hk fun a ha c => ?_, hg.row, hg.loc, hg.dry, hg.she, hg.sepL, hg.sepD, hg.sepS⟩
  · rcases c with c | ⟨k, hk', c | c | c⟩
    · exact RowR.ne h.cpu h.grps (by decide) ha c rfl
    · exact RowR.ne h.cpu (h.loc k hk') (by decide) ha c rfl
    · exact RowR.ne h.cpu (h.dry k hk') (by decide) ha c rfl
    · exact RowR.ne h.cpu (h.she k hk') (by decide) ha c rfl
  · rcases c with c | ⟨k, hk', c | c | c⟩
    · exact RowR.ne h.task h.grps (by decide) ha c rfl
    · exact RowR.ne h.task (h.loc k hk') (by decide) ha c rfl
    · exact RowR.ne h.task (h.dry k hk') (by decide) ha c rfl
    · exact RowR.ne h.task (h.she k hk') (by decide) ha c rfl
theorem Own.grpsO (h : Own w B ca ta ga gh M) : GrpsO w B ga gh M.groups.length fun k => M.groups.getD k group0 := ⟨h.grps, h.loc, h.dry, h.she, h.sepL, h.sepD, h.sepS⟩
end
set_option maxRecDepth 100000 in
set_option maxHeartbeats 2000000 in
theorem markWorld_any (h : WH) (B : Nat) (M : WorldM) (w : World) (hf : WFit M) (hs : Own w B h.ca h.ta h.ga h.gh M) :
    Calls Tryz.prog 16 #[.agg #[.int .i64 M.now, .slice h.ca M.cpus.length h.cc, .slice h.ta M.tasks.length h.tc, .slice h.ga M.groups.length h.gc], .int .i64 1] w fun e w' => e = .returned (.int .i64 (endW M 1)) ∧ Keep (Has h.ca h.ta h.ga h.gh M.groups.length) w w' ∧ Own w' B h.ca h.ta h.ga h.gh (markW M 1) := by
  have HF := Lib.hid hf
  have y1 := hf.1
  have y2 := hf.2.1
  have y3 := hf.2.2.1
  clear hf
  go_enter Tryz.func16, Tryz.ntmps16
  go_wp2_with fail
  refine gen1 (p := fun W => Calls _ _ _ W _) ?_
  intro W b1 s1 k0
  have B1 := Lib.hid b1
  have o1 := hs.below b1
  have HO := Lib.hid (show (B ≤ B) ∧ ∀ {g}, Has h.ca h.ta h.ga h.gh M.groups.length g → g < w.heap.size from ⟨Nat.le_refl _, fun hg => (hs.has hg).2⟩)
  have c2 := k0.cell 2
  have c3 := k0.cell 3
  have f2 := fun i => k0.frozen i
  simp at c2 c3
  clear hs b1
  refine (markCpuS_any _ _ B M.cpus 1 W ⟨by omega, by omega⟩ y1 o1.cpu).mono ?_
  rintro e W1 ⟨rfl, kc, hc1⟩
  have HN := Lib.hid (show ∀ g, Has h.ca h.ta h.ga h.gh M.groups.length g → g < w.heap.size from fun g hg => HO.out.2 hg)
  have kc1 := kc.blk k0 fun e => Nat.lt_irrefl _ (HN.out _ (.inl e))
  have o2 := o1.cpus kc hc1
  have KA := Lib.hid (kc.mono fun g _ e => (.inl e : Has h.ca h.ta h.ga h.gh M.groups.length g))
  have c4 := kc1.cell 2
  have f4 := fun i => kc1.frozen i
  simp at c4
  clear c2 c3 f2 k0 kc hc1 o1
  go_wp2_with fail
  refine (markTaskS_any _ _ B M.tasks _ W1 ⟨by omega, by omega⟩ y2 o2.task).mono ?_
  rintro e W2 ⟨rfl, kt, ht1⟩
  have kt1 := kt.blk kc1 fun e => Nat.lt_irrefl _ (HN.out _ (.inr (.inl e)))
  have o3 := o2.tasks kt ht1
  have KB := Lib.hid (KA.out.trans (kt.mono fun g _ e => (.inr (.inl e) : Has h.ca h.ta h.ga h.gh M.groups.length g)))
  have c5 := kt1.cell 3
  have f5 := fun i => kt1.frozen i
  simp at c5
  clear c4 f4 kc1 kt ht1 o2
  go_wp2_with fail
  have e5 : (5 * (M.cpus.length : Int)) = ((5 * M.cpus.length : Nat) : Int) := by omega
  have e9 : (9 * (M.tasks.length : Int)) = ((9 * M.tasks.length : Nat) : Int) := by omega
  simp only [e5, e9]
  clear e5 e9
  refine (markGroupS_any _ _ B h.gh M.groups _ W2 ⟨by omega, by omega⟩ y3 HF.out.2.2.2 o3.grpsO).mono ?_
  rintro e W3 ⟨rfl, kg, hg1⟩
  have o4 := Lib.hid (o3.groups kg (L := markGL M.groups (1 + ((5 * M.cpus.length : Nat) : Int) + ((9 * M.tasks.length : Nat) : Int))) (by rw [markGL_length]; exact hg1))
  have KC := Lib.hid (KB.out.trans (kg.mono fun g _ e => (.inr (.inr e) : Has h.ca h.ta h.ga h.gh M.groups.length g)))
  clear c5 f5 kt1 kg hg1 o3 y1 y2 y3
  go_wp2
  go_ret
  exact ⟨rfl, (Keep.of_below B1.out).trans KC.out, o4.out⟩
set_option maxRecDepth 100000 in
set_option maxHeartbeats 4000000 in
theorem heldGroupS_any (A : Option Addr) (cap : Nat) (H : Nat → GH) (L : List GroupM) (K : Int) (w : World) (hK : 0 ≤ K ∧ K ≤ 14680065) (hl : L.length ≤ 1048576) (hf : ∀ k (h : k < L.length), GFit L[k]) (hs : GroupS w A H (markGL L K)) :
    Calls Tryz.prog 56 #[.slice A L.length cap, .int .i64 K] w fun e w' => e = .returned (.int .i64 (cntK L K L.length)) ∧ Below w.heap.size w w' := by
  have HBD := Lib.hid (cntK_bd (K := K) hf)
  have HF := Lib.hid hf
  obtain ⟨hK0, hK1⟩ := hK
  clear hf
  go_enter Tryz.func56, Tryz.ntmps56
  go_wp2
  go_loopw [1, 5] (fun c i wr => ∃ k : Nat, k ≤ L.length ∧ i = .int .i64 k ∧ c = .int .i64 (cntK L K k) ∧ Below w.heap.size w wr) (fun _ i _ => L.length - (intOf i).toNat)
  case atStart => exact ⟨0, Nat.zero_le _, rfl, rfl, Below.refl _ _⟩
  case round =>
    obtain ⟨k, hk, rfl, rfl, hb⟩ := hrel
    by_cases hlt : k < L.length
    · have hs1 := hs.keep hb
      have HB := Lib.hid hb
      obtain ⟨b, o, rfl, hB, v0, v1, v2, v3, v4, v5, v6, v7, v8, v9, v10, v11, v12, v13⟩ := hs1.at_ k (by simpa using hlt)
      have IL := Lib.hid (hs1.loc k (by simpa using hlt))
      have DL := Lib.hid (hs1.dry k (by simpa using hlt))
      have SL := Lib.hid (hs1.she k (by simpa using hlt))
      rw [markGL_get] at IL DL SL v0 v1 v2 v3 v4 v5 v6 v7 v8 v9 v10 v11 v12 v13
      have hbd := HBD.out k hk
      have b0 : (0 : Int) ≤ cntK L K k := by omega
      have b1 : cntK L K k ≤ 14680065 + 7340043 * 1048576 := by omega
      have HX := Lib.hid (show GFit (L.getD k group0) by rw [List.getD_eq_getElem?_getD, List.getElem?_eq_getElem hlt]; exact HF.out k hlt)
      have HST2 := Lib.hid (show cntK L K (k + 1) = cntK L K k + 11 + ((L.getD k group0).band.locals.length : Int) + ((L.getD k group0).band.dry.length : Int) + ((5 * (L.getD k group0).shelves.length : Nat) : Int) by show cntK L K k + (gStep (L.getD k group0) : Nat) = _; unfold gStep; omega)
      clear hs1 hs hb
      generalize L.getD k group0 = x at *
      generalize hq : cntK L K k = q at *
      clear hq hbd
      simp only [markG, m3, markIntL_length, markBoolL_length, markShelfL_length] at v0 v1 v2 v3 v4 v5 v6 v7 v8 v9 v10 v11 v12 v13
      have y0 := HX.out.2.1.1
      have y1 := HX.out.2.1.2
      have y2 := HX.out.2.2
      go_upto_region 10 with (fail)
      have Q2 := fun d os => cell_regrown v2 d os
      rw [show q + 2 = q + 1 + 1 by omega] at Q2
      refine wp_region_quiet_below (by kernel_rfl) (by kernel_rfl) ?_
      repeat (go_big_quiet_step ((go_at_call 99; exact Calls.regrown_of (markText_any (q + 1 + 1) _ (by omega) (by omega)))))
      refine wpQuiet_nil ?_
      intro _ hw'
      obtain ⟨⟨dq, osq⟩, hw''⟩ := hw'
      subst hw''
      have hb2 := below_regrown wr dq osq
      clear Q2
      generalize grow (redrawn wr dq) osq = w2 at *
      clear v0 v1 v2
      have v3 := (hb2.cell hB).trans v3
      have v4 := (hb2.cell hB).trans v4
      have v5 := (hb2.cell hB).trans v5
      have v6 := (hb2.cell hB).trans v6
      have v7 := (hb2.cell hB).trans v7
      have v8 := (hb2.cell hB).trans v8
      have v9 := (hb2.cell hB).trans v9
      have v10 := (hb2.cell hB).trans v10
      have v11 := (hb2.cell hB).trans v11
      have v12 := (hb2.cell hB).trans v12
      have v13 := (hb2.cell hB).trans v13
      have IL2 := Lib.hid (IL.out.keep hb2)
      have DL2 := Lib.hid (DL.out.keep hb2)
      have SL2 := Lib.hid (SL.out.keep hb2)
      rw [show q + 3 = q + 1 + 1 + 1 by omega] at v3
      rw [show q + 4 = q + 1 + 1 + 1 + 1 by omega] at v4
      rw [show q + 5 = q + 1 + 1 + 1 + 1 + 1 by omega] at v5
      rw [show q + 6 = q + 1 + 1 + 1 + 1 + 1 + 1 by omega] at v6
      rw [show q + 7 = q + 1 + 1 + 1 + 1 + 1 + 1 + 1 by omega] at v7
      rw [show q + 8 = q + 1 + 1 + 1 + 1 + 1 + 1 + 1 + 1 by omega] at v8
      rw [show q + 9 = q + 1 + 1 + 1 + 1 + 1 + 1 + 1 + 1 + 1 by omega] at v9
      rw [show q + 10 = q + 1 + 1 + 1 + 1 + 1 + 1 + 1 + 1 + 1 + 1 by omega] at v10
      go_wp2_with (first | (go_at_call 103; rw [show q + 1 + 1 + 1 + 1 + 1 + 1 + 1 + 1 + 1 + 1 + 1 = q + 11 by omega]; refine (heldIntS_any _ _ _ _ _ ⟨by omega, by omega⟩ y0 IL2.out).mono ?_; rintro e w' ⟨rfl, rfl⟩) | (go_at_call 104; refine (heldBoolS_any _ _ _ _ _ ⟨by omega, by omega⟩ y1 DL2.out).mono ?_; rintro e w' ⟨rfl, rfl⟩) | (go_at_call 105; refine (heldShelfS_any _ _ _ _ _ ⟨by omega, by omega⟩ y2 SL2.out).mono ?_; rintro e w' ⟨rfl, rfl⟩))
      go_roundw
      case rel => exact ⟨k + 1, by omega, by go_num, by rw [HST2.out]; first | rfl | exact val_eq (by omega) | exact val_eq (by simp), HB.out.andThen hb2⟩
      case measure => simp [intOf]; omega
    · go_wp2
      go_ret
      obtain rfl : k = L.length := by omega
      exact ⟨rfl, hb⟩
set_option maxRecDepth 100000 in
set_option maxHeartbeats 2000000 in
theorem heldWorld_any (h : WH) (M : WorldM) (w : World) (hf : WFit M) (hs : WA w h.ca h.ta h.ga h.gh (markW M 1)) :
    Calls Tryz.prog 17 #[.agg #[.int .i64 M.now, .slice h.ca M.cpus.length h.cc, .slice h.ta M.tasks.length h.tc, .slice h.ga M.groups.length h.gc], .int .i64 1] w fun e w' => e = .returned (.int .i64 (endW M 1)) ∧ Below w.heap.size w w' := by
  have HF := Lib.hid hf
  have y1 := hf.1
  have y2 := hf.2.1
  have y3 := hf.2.2.1
  have EP := endW_pos hf
  have EB := endW_bd hf
  clear hf
  go_enter Tryz.func17, Tryz.ntmps17
  go_wp2_with fail
  refine gen1 (p := fun W => Calls _ _ _ W _) ?_
  intro W b1 s1 k0
  have B1 := Lib.hid b1
  have o1 := hs.keep b1
  have c2 := k0.cell 2
  have c3 := k0.cell 3
  have f2 := fun i => k0.frozen i
  simp at c2 c3
  clear hs b1
  have e5 : (5 * (M.cpus.length : Int)) = ((5 * M.cpus.length : Nat) : Int) := by omega
  have e9 : (9 * (M.tasks.length : Int)) = ((9 * M.tasks.length : Nat) : Int) := by omega
  have E5 := Lib.hid e5
  have E9 := Lib.hid e9
  clear e5 e9
  refine (heldCpuS_any _ _ M.cpus.length 1 W ⟨by omega, by omega⟩ y1 o1.cpu).mono ?_
  rintro e W1 ⟨rfl, rfl⟩
  go_wp2_with fail
  try simp only [E5.out]
  refine (heldTaskS_any _ _ M.tasks.length _ W ⟨by omega, by omega⟩ y2 o1.task).mono ?_
  rintro e W1 ⟨rfl, rfl⟩
  go_wp2_with fail
  try simp only [E5.out, E9.out]
  refine (heldGroupS_any _ _ h.gh M.groups _ W ⟨by omega, by omega⟩ y3 HF.out.2.2.2 o1.group).mono ?_
  rintro e W3 ⟨rfl, hb3⟩
  have EE := Lib.hid (show cntK M.groups (1 + ((5 * M.cpus.length : Nat) : Int) + ((9 * M.tasks.length : Nat) : Int)) M.groups.length = endW M 1 from rfl)
  rw [EE.out]
  have hb := B1.out.andThen hb3
  clear c2 c3 f2 k0 o1 hb3 y1 y2 y3
  go_wp2
  go_ret
  exact ⟨rfl, hb⟩
end Go.Proofs.YtknfpigaognklaaGreatDoor
