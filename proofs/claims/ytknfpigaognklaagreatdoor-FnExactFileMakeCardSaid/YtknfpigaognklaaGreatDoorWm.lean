/- The plain data of a world, and how they lie in memory. -/
import Derived.Test.YtknfpigaognklaaGreatDoorBase
namespace Go.Proofs.YtknfpigaognklaaGreatDoor
open Go.RowKit
structure CpuM where
  up : Bool
  cur : Int
  ran : Int
  busy : Int
  idle : Int
/-- the value of one -/
def CpuM.val (x : CpuM) : Value := .agg #[.bool x.up, .int .i64 x.cur, .int .i64 x.ran, .int .i64 x.busy, .int .i64 x.idle]
structure CpuS (w : World) (A : Option Addr) (L : List CpuM) : Prop where
  at_ : ∀ k (h : k < L.length), ∃ b o, A = some ⟨b, o, none⟩ ∧ b < w.heap.size ∧ w.cell? ⟨b, o + k * 5, none⟩ = some (.bool L[k].up) ∧ w.cell? ⟨b, o + k * 5 + 1, none⟩ = some (.int .i64 L[k].cur) ∧ w.cell? ⟨b, o + k * 5 + 2, none⟩ = some (.int .i64 L[k].ran) ∧ w.cell? ⟨b, o + k * 5 + 3, none⟩ = some (.int .i64 L[k].busy) ∧ w.cell? ⟨b, o + k * 5 + 4, none⟩ = some (.int .i64 L[k].idle)
theorem CpuS.keep {w w1 : World} {A : Option Addr} {L : List CpuM} (h : CpuS w A L) (hb : Below w.heap.size w w1) : CpuS w1 A L := ⟨fun k hk => by
  obtain ⟨b, o, rfl, h0, h1, h2, h3, h4, h5⟩ := h.at_ k hk
  exact ⟨b, o, rfl, Nat.lt_of_lt_of_le h0 hb.size, (hb.cell h0).trans h1, (hb.cell h0).trans h2, (hb.cell h0).trans h3, (hb.cell h0).trans h4, (hb.cell h0).trans h5⟩⟩
theorem CpuS.but {g : Nat} {w w1 : World} {A : Option Addr} {L : List CpuM} (h : CpuS w A L) (hb : But g w w1) (hg : ∀ a, A = some a → a.block ≠ g) : CpuS w1 A L := ⟨fun k hk => by
  obtain ⟨b, o, rfl, h0, h1, h2, h3, h4, h5⟩ := h.at_ k hk
  exact ⟨b, o, rfl, by rw [hb.size]; exact h0, (hb.cell (show b ≠ g from hg _ rfl)).trans h1, (hb.cell (show b ≠ g from hg _ rfl)).trans h2, (hb.cell (show b ≠ g from hg _ rfl)).trans h3, (hb.cell (show b ≠ g from hg _ rfl)).trans h4, (hb.cell (show b ≠ g from hg _ rfl)).trans h5⟩⟩
structure TaskM where
  st : Int
  gr : Int
  cpu : Int
  nice : Int
  mask : Int
  v : Int
  sum : Int
  used : Int
  load : Int
/-- the value of one -/
def TaskM.val (x : TaskM) : Value := .agg #[.int .i64 x.st, .int .i64 x.gr, .int .i64 x.cpu, .int .i64 x.nice, .int .i64 x.mask, .int .i64 x.v, .int .i64 x.sum, .int .i64 x.used, .int .i64 x.load]
structure TaskS (w : World) (A : Option Addr) (L : List TaskM) : Prop where
  at_ : ∀ k (h : k < L.length), ∃ b o, A = some ⟨b, o, none⟩ ∧ b < w.heap.size ∧ w.cell? ⟨b, o + k * 9, none⟩ = some (.int .i64 L[k].st) ∧ w.cell? ⟨b, o + k * 9 + 1, none⟩ = some (.int .i64 L[k].gr) ∧ w.cell? ⟨b, o + k * 9 + 2, none⟩ = some (.int .i64 L[k].cpu) ∧ w.cell? ⟨b, o + k * 9 + 3, none⟩ = some (.int .i64 L[k].nice) ∧ w.cell? ⟨b, o + k * 9 + 4, none⟩ = some (.int .i64 L[k].mask) ∧ w.cell? ⟨b, o + k * 9 + 5, none⟩ = some (.int .i64 L[k].v) ∧ w.cell? ⟨b, o + k * 9 + 6, none⟩ = some (.int .i64 L[k].sum) ∧ w.cell? ⟨b, o + k * 9 + 7, none⟩ = some (.int .i64 L[k].used) ∧ w.cell? ⟨b, o + k * 9 + 8, none⟩ = some (.int .i64 L[k].load)
theorem TaskS.keep {w w1 : World} {A : Option Addr} {L : List TaskM} (h : TaskS w A L) (hb : Below w.heap.size w w1) : TaskS w1 A L := ⟨fun k hk => by
  obtain ⟨b, o, rfl, h0, h1, h2, h3, h4, h5, h6, h7, h8, h9⟩ := h.at_ k hk
  exact ⟨b, o, rfl, Nat.lt_of_lt_of_le h0 hb.size, (hb.cell h0).trans h1, (hb.cell h0).trans h2, (hb.cell h0).trans h3, (hb.cell h0).trans h4, (hb.cell h0).trans h5, (hb.cell h0).trans h6, (hb.cell h0).trans h7, (hb.cell h0).trans h8, (hb.cell h0).trans h9⟩⟩
theorem TaskS.but {g : Nat} {w w1 : World} {A : Option Addr} {L : List TaskM} (h : TaskS w A L) (hb : But g w w1) (hg : ∀ a, A = some a → a.block ≠ g) : TaskS w1 A L := ⟨fun k hk => by
  obtain ⟨b, o, rfl, h0, h1, h2, h3, h4, h5, h6, h7, h8, h9⟩ := h.at_ k hk
  exact ⟨b, o, rfl, by rw [hb.size]; exact h0, (hb.cell (show b ≠ g from hg _ rfl)).trans h1, (hb.cell (show b ≠ g from hg _ rfl)).trans h2, (hb.cell (show b ≠ g from hg _ rfl)).trans h3, (hb.cell (show b ≠ g from hg _ rfl)).trans h4, (hb.cell (show b ≠ g from hg _ rfl)).trans h5, (hb.cell (show b ≠ g from hg _ rfl)).trans h6, (hb.cell (show b ≠ g from hg _ rfl)).trans h7, (hb.cell (show b ≠ g from hg _ rfl)).trans h8, (hb.cell (show b ≠ g from hg _ rfl)).trans h9⟩⟩
structure ShelfM where
  floor : Int
  on : Bool
  v : Int
  w : Int
  sum : Int
/-- the value of one -/
def ShelfM.val (x : ShelfM) : Value := .agg #[.int .i64 x.floor, .bool x.on, .int .i64 x.v, .int .i64 x.w, .int .i64 x.sum]
structure ShelfS (w : World) (A : Option Addr) (L : List ShelfM) : Prop where
  at_ : ∀ k (h : k < L.length), ∃ b o, A = some ⟨b, o, none⟩ ∧ b < w.heap.size ∧ w.cell? ⟨b, o + k * 5, none⟩ = some (.int .i64 L[k].floor) ∧ w.cell? ⟨b, o + k * 5 + 1, none⟩ = some (.bool L[k].on) ∧ w.cell? ⟨b, o + k * 5 + 2, none⟩ = some (.int .i64 L[k].v) ∧ w.cell? ⟨b, o + k * 5 + 3, none⟩ = some (.int .i64 L[k].w) ∧ w.cell? ⟨b, o + k * 5 + 4, none⟩ = some (.int .i64 L[k].sum)
theorem ShelfS.keep {w w1 : World} {A : Option Addr} {L : List ShelfM} (h : ShelfS w A L) (hb : Below w.heap.size w w1) : ShelfS w1 A L := ⟨fun k hk => by
  obtain ⟨b, o, rfl, h0, h1, h2, h3, h4, h5⟩ := h.at_ k hk
  exact ⟨b, o, rfl, Nat.lt_of_lt_of_le h0 hb.size, (hb.cell h0).trans h1, (hb.cell h0).trans h2, (hb.cell h0).trans h3, (hb.cell h0).trans h4, (hb.cell h0).trans h5⟩⟩
theorem ShelfS.but {g : Nat} {w w1 : World} {A : Option Addr} {L : List ShelfM} (h : ShelfS w A L) (hb : But g w w1) (hg : ∀ a, A = some a → a.block ≠ g) : ShelfS w1 A L := ⟨fun k hk => by
  obtain ⟨b, o, rfl, h0, h1, h2, h3, h4, h5⟩ := h.at_ k hk
  exact ⟨b, o, rfl, by rw [hb.size]; exact h0, (hb.cell (show b ≠ g from hg _ rfl)).trans h1, (hb.cell (show b ≠ g from hg _ rfl)).trans h2, (hb.cell (show b ≠ g from hg _ rfl)).trans h3, (hb.cell (show b ≠ g from hg _ rfl)).trans h4, (hb.cell (show b ≠ g from hg _ rfl)).trans h5⟩⟩
structure BoolS (w : World) (A : Option Addr) (L : List Bool) : Prop where
  at_ : ∀ k (h : k < L.length), ∃ b o, A = some ⟨b, o, none⟩ ∧ b < w.heap.size ∧ w.cell? ⟨b, o + k, none⟩ = some (.bool L[k])
theorem BoolS.keep {w w1 : World} {A : Option Addr} {L : List Bool} (h : BoolS w A L) (hb : Below w.heap.size w w1) : BoolS w1 A L := ⟨fun k hk => by
  obtain ⟨b, o, rfl, h0, h1⟩ := h.at_ k hk
  exact ⟨b, o, rfl, Nat.lt_of_lt_of_le h0 hb.size, (hb.cell h0).trans h1⟩⟩
theorem BoolS.but {g : Nat} {w w1 : World} {A : Option Addr} {L : List Bool} (h : BoolS w A L) (hb : But g w w1) (hg : ∀ a, A = some a → a.block ≠ g) : BoolS w1 A L := ⟨fun k hk => by
  obtain ⟨b, o, rfl, h0, h1⟩ := h.at_ k hk
  exact ⟨b, o, rfl, by rw [hb.size]; exact h0, (hb.cell (show b ≠ g from hg _ rfl)).trans h1⟩⟩
structure BandM where
  quota : Int
  pool : Int
  spent : Int
  locals : List Int
  dry : List Bool
structure GroupM where
  used : Bool
  parent : Int
  name : ByteArray
  weight : Int
  cpus : Int
  period : Int
  next : Int
  sum : Int
  band : BandM
  shelves : List ShelfM
structure WorldM where
  now : Int
  cpus : List CpuM
  tasks : List TaskM
  groups : List GroupM
/-- where the slices of a group lie -/
structure GH where
  la : Option Addr
  lc : Nat
  da : Option Addr
  dc : Nat
  sa : Option Addr
  sc : Nat
def bandCells (x : BandM) (h : GH) : List Value := [.int .i64 x.quota, .int .i64 x.pool, .int .i64 x.spent, .slice h.la x.locals.length h.lc, .slice h.da x.dry.length h.dc]
structure GroupS (w : World) (A : Option Addr) (H : Nat → GH) (L : List GroupM) : Prop where
  at_ : ∀ k (h : k < L.length), ∃ b o, A = some ⟨b, o, none⟩ ∧ b < w.heap.size ∧ w.cell? ⟨b, o + k * 14, none⟩ = some (.bool L[k].used) ∧ w.cell? ⟨b, o + k * 14 + 1, none⟩ = some (.int .i64 L[k].parent) ∧ w.cell? ⟨b, o + k * 14 + 2, none⟩ = some (.string L[k].name) ∧ w.cell? ⟨b, o + k * 14 + 3, none⟩ = some (.int .i64 L[k].weight) ∧ w.cell? ⟨b, o + k * 14 + 4, none⟩ = some (.int .i64 L[k].cpus) ∧ w.cell? ⟨b, o + k * 14 + 5, none⟩ = some (.int .i64 L[k].period) ∧ w.cell? ⟨b, o + k * 14 + 6, none⟩ = some (.int .i64 L[k].next) ∧ w.cell? ⟨b, o + k * 14 + 7, none⟩ = some (.int .i64 L[k].sum) ∧ w.cell? ⟨b, o + k * 14 + 8, none⟩ = some (.int .i64 L[k].band.quota) ∧ w.cell? ⟨b, o + k * 14 + 9, none⟩ = some (.int .i64 L[k].band.pool) ∧ w.cell? ⟨b, o + k * 14 + 10, none⟩ = some (.int .i64 L[k].band.spent) ∧ w.cell? ⟨b, o + k * 14 + 11, none⟩ = some (.slice (H k).la L[k].band.locals.length (H k).lc) ∧ w.cell? ⟨b, o + k * 14 + 12, none⟩ = some (.slice (H k).da L[k].band.dry.length (H k).dc) ∧ w.cell? ⟨b, o + k * 14 + 13, none⟩ = some (.slice (H k).sa L[k].shelves.length (H k).sc)
  loc : ∀ k (h : k < L.length), IntS w (H k).la L[k].band.locals
  dry : ∀ k (h : k < L.length), BoolS w (H k).da L[k].band.dry
  she : ∀ k (h : k < L.length), ShelfS w (H k).sa L[k].shelves
theorem GroupS.keep {w w1 : World} {A : Option Addr} {H : Nat → GH} {L : List GroupM} (h : GroupS w A H L) (hb : Below w.heap.size w w1) : GroupS w1 A H L :=
  ⟨fun k hk => by
    obtain ⟨b, o, rfl, h0, h1, h2, h3, h4, h5, h6, h7, h8, h9, h10, h11, h12, h13, h14⟩ := h.at_ k hk
    exact ⟨b, o, rfl, Nat.lt_of_lt_of_le h0 hb.size, (hb.cell h0).trans h1, (hb.cell h0).trans h2, (hb.cell h0).trans h3, (hb.cell h0).trans h4, (hb.cell h0).trans h5, (hb.cell h0).trans h6, (hb.cell h0).trans h7, (hb.cell h0).trans h8, (hb.cell h0).trans h9, (hb.cell h0).trans h10, (hb.cell h0).trans h11, (hb.cell h0).trans h12, (hb.cell h0).trans h13, (hb.cell h0).trans h14⟩, fun k hk => (h.loc k hk).keep hb, fun k hk => (h.dry k hk).keep hb, fun k hk => (h.she k hk).keep hb⟩
/-- where the slices of a world lie -/
structure WH where
  ca : Option Addr
  cc : Nat
  ta : Option Addr
  tc : Nat
  ga : Option Addr
  gc : Nat
  gh : Nat → GH
structure WAt (w : World) (h : WH) (M : WorldM) : Prop where
  cpu : CpuS w h.ca M.cpus
  task : TaskS w h.ta M.tasks
  group : GroupS w h.ga h.gh M.groups
theorem WAt.keep {w w1 : World} {h : WH} {M : WorldM} (hw : WAt w h M) (hb : Below w.heap.size w w1) : WAt w1 h M := ⟨hw.cpu.keep hb, hw.task.keep hb, hw.group.keep hb⟩
/-- lengths that an int holds -/
structure Fit (M : WorldM) : Prop where
  cpu : M.cpus.length ≤ 1048576
  task : M.tasks.length ≤ 1048576
  group : M.groups.length ≤ 1048576
  loc : ∀ k (h : k < M.groups.length), M.groups[k].band.locals.length ≤ 1048576
  dry : ∀ k (h : k < M.groups.length), M.groups[k].band.dry.length ≤ 1048576
  she : ∀ k (h : k < M.groups.length), M.groups[k].shelves.length ≤ 1048576
  name : ∀ k (h : k < M.groups.length), M.groups[k].name.size ≤ 1048576
/-- a world behind a pointer -/
structure PAt (w : World) (p : Nat) (h : WH) (M : WorldM) : Prop where
  lt : p < w.heap.size
  now : w.cell? ⟨p, 0, none⟩ = some (.int .i64 M.now)
  cpus : w.cell? ⟨p, 1, none⟩ = some (.slice h.ca M.cpus.length h.cc)
  tasks : w.cell? ⟨p, 2, none⟩ = some (.slice h.ta M.tasks.length h.tc)
  groups : w.cell? ⟨p, 3, none⟩ = some (.slice h.ga M.groups.length h.gc)
  wat : WAt w h M
theorem PAt.keep {w w1 : World} {p : Nat} {h : WH} {M : WorldM} (hw : PAt w p h M) (hb : Below w.heap.size w w1) : PAt w1 p h M :=
  ⟨Nat.lt_of_lt_of_le hw.lt hb.size, (hb.cell hw.lt).trans hw.now, (hb.cell hw.lt).trans hw.cpus, (hb.cell hw.lt).trans hw.tasks, (hb.cell hw.lt).trans hw.groups, hw.wat.keep hb⟩
theorem PAt.box {w : World} {h : WH} {M : WorldM} (hw : WAt w h M) (t : TypeId) : PAt (w.alloc (.cells #[.int .i64 M.now, .slice h.ca M.cpus.length h.cc, .slice h.ta M.tasks.length h.tc, .slice h.ga M.groups.length h.gc] t)) w.heap.size h M :=
  ⟨by simp, by simp [World.cell?_alloc_at], by simp [World.cell?_alloc_at], by simp [World.cell?_alloc_at], by simp [World.cell?_alloc_at], hw.keep ((Below.refl _ _).alloc (Nat.le_refl _) _)⟩
end Go.Proofs.YtknfpigaognklaaGreatDoor
