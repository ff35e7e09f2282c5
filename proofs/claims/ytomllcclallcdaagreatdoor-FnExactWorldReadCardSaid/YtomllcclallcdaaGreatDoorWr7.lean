/- A part of the proof. -/
import Derived.Test.YtomllcclallcdaaGreatDoorWr1
import Derived.Test.YtomllcclallcdaaGreatDoorWr6
import Derived.StillTailTactics
import Derived.Deep.QuietTactic
import Derived.BigQuiet
import Derived.Lib.AtoiAll
import Derived.Lib.Atoi
namespace Go.Proofs.YtomllcclallcdaaGreatDoor
section
open Go.RowKit
set_option maxHeartbeats 400000 in
theorem eqCpu_any (x : CpuM) (w : World) :
    Calls Tryz.prog 44 #[.agg #[.bool x.up, .int .i64 x.cur, .int .i64 x.ran, .int .i64 x.busy, .int .i64 x.idle], .agg #[.bool x.up, .int .i64 x.cur, .int .i64 x.ran, .int .i64 x.busy, .int .i64 x.idle]] w fun e w' => e = .returned (.bool true) ∧ Below w.heap.size w w' := by
  go_enter Tryz.func44, Tryz.ntmps44
  go_wp2
  go_ret
  exact ⟨rfl, ((Below.refl _ _).alloc (Nat.le_refl _) _).alloc (by simp) _⟩
set_option maxRecDepth 100000 in
set_option maxHeartbeats 400000 in
theorem eqCpuS_any (A B : Option Addr) (cap cap' : Nat) (L : List CpuM) (w : World) (hl : L.length ≤ 1048576) (hs : CpuS w A L) (ht : CpuS w B L) :
    Calls Tryz.prog 16 #[.slice A L.length cap, .slice B L.length cap'] w fun e w' => e = .returned (.bool true) ∧ Below w.heap.size w w' := by
  go_enter Tryz.func16, Tryz.ntmps16
  go_wp2
  go_loopw [4, 5] (fun r i wr => ∃ k : Nat, k ≤ L.length ∧ i = .int .i64 k ∧ r = .bool false ∧ Below w.heap.size w wr) (fun _ i _ => L.length - (intOf i).toNat)
  case atStart => exact ⟨0, Nat.zero_le _, rfl, rfl, Below.refl _ _⟩
  case round =>
    obtain ⟨k, hk, rfl, rfl, hb⟩ := hrel
    by_cases hlt : k < L.length
    · obtain ⟨b, o, rfl, hB, c0, c1, c2, c3, c4⟩ := (hs.keep hb).at_ k hlt
      obtain ⟨b', o', rfl, hB', c0', c1', c2', c3', c4'⟩ := (ht.keep hb).at_ k hlt
      go_wp2_with fail
      go_still_tail 8, (by kernel_rfl)
      change wpList _ _ _ _ _ wr.drew
      have hb1 := hb.drew
      generalize wr.drew = w2 at *
      go_wp2_with (go_at_call 44; refine (eqCpu_any L[k] _).mono ?_; rintro e w3 ⟨rfl, hb3⟩)
      go_roundw
      case rel => exact ⟨k + 1, by omega, by go_num, rfl, hb1.andThen hb3⟩
      case measure => simp [intOf]; omega
    · go_wp2
      go_ret
      exact ⟨rfl, hb⟩
set_option maxHeartbeats 400000 in
theorem eqTask_any (x : TaskM) (w : World) :
    Calls Tryz.prog 45 #[.agg #[.int .i64 x.st, .int .i64 x.gr, .int .i64 x.cpu, .int .i64 x.nice, .int .i64 x.mask, .int .i64 x.v, .int .i64 x.sum, .int .i64 x.used, .int .i64 x.load], .agg #[.int .i64 x.st, .int .i64 x.gr, .int .i64 x.cpu, .int .i64 x.nice, .int .i64 x.mask, .int .i64 x.v, .int .i64 x.sum, .int .i64 x.used, .int .i64 x.load]] w fun e w' => e = .returned (.bool true) ∧ Below w.heap.size w w' := by
  go_enter Tryz.func45, Tryz.ntmps45
  go_wp2
  go_ret
  exact ⟨rfl, ((Below.refl _ _).alloc (Nat.le_refl _) _).alloc (by simp) _⟩
set_option maxRecDepth 100000 in
set_option maxHeartbeats 400000 in
theorem eqTaskS_any (A B : Option Addr) (cap cap' : Nat) (L : List TaskM) (w : World) (hl : L.length ≤ 1048576) (hs : TaskS w A L) (ht : TaskS w B L) :
    Calls Tryz.prog 17 #[.slice A L.length cap, .slice B L.length cap'] w fun e w' => e = .returned (.bool true) ∧ Below w.heap.size w w' := by
  go_enter Tryz.func17, Tryz.ntmps17
  go_wp2
  go_loopw [4, 5] (fun r i wr => ∃ k : Nat, k ≤ L.length ∧ i = .int .i64 k ∧ r = .bool false ∧ Below w.heap.size w wr) (fun _ i _ => L.length - (intOf i).toNat)
  case atStart => exact ⟨0, Nat.zero_le _, rfl, rfl, Below.refl _ _⟩
  case round =>
    obtain ⟨k, hk, rfl, rfl, hb⟩ := hrel
    by_cases hlt : k < L.length
    · obtain ⟨b, o, rfl, hB, c0, c1, c2, c3, c4, c5, c6, c7, c8⟩ := (hs.keep hb).at_ k hlt
      obtain ⟨b', o', rfl, hB', c0', c1', c2', c3', c4', c5', c6', c7', c8'⟩ := (ht.keep hb).at_ k hlt
      go_wp2_with fail
      go_still_tail 8, (by kernel_rfl)
      change wpList _ _ _ _ _ wr.drew
      have hb1 := hb.drew
      generalize wr.drew = w2 at *
      go_wp2_with (go_at_call 45; refine (eqTask_any L[k] _).mono ?_; rintro e w3 ⟨rfl, hb3⟩)
      go_roundw
      case rel => exact ⟨k + 1, by omega, by go_num, rfl, hb1.andThen hb3⟩
      case measure => simp [intOf]; omega
    · go_wp2
      go_ret
      exact ⟨rfl, hb⟩
set_option maxHeartbeats 400000 in
theorem eqShelf_any (x : ShelfM) (w : World) :
    Calls Tryz.prog 134 #[.agg #[.int .i64 x.floor, .bool x.on, .int .i64 x.v, .int .i64 x.w, .int .i64 x.sum], .agg #[.int .i64 x.floor, .bool x.on, .int .i64 x.v, .int .i64 x.w, .int .i64 x.sum]] w fun e w' => e = .returned (.bool true) ∧ Below w.heap.size w w' := by
  go_enter Tryz.func134, Tryz.ntmps134
  go_wp2
  go_ret
  exact ⟨rfl, ((Below.refl _ _).alloc (Nat.le_refl _) _).alloc (by simp) _⟩
set_option maxRecDepth 100000 in
set_option maxHeartbeats 400000 in
theorem eqShelfS_any (A B : Option Addr) (cap cap' : Nat) (L : List ShelfM) (w : World) (hl : L.length ≤ 1048576) (hs : ShelfS w A L) (ht : ShelfS w B L) :
    Calls Tryz.prog 83 #[.slice A L.length cap, .slice B L.length cap'] w fun e w' => e = .returned (.bool true) ∧ Below w.heap.size w w' := by
  go_enter Tryz.func83, Tryz.ntmps83
  go_wp2
  go_loopw [4, 5] (fun r i wr => ∃ k : Nat, k ≤ L.length ∧ i = .int .i64 k ∧ r = .bool false ∧ Below w.heap.size w wr) (fun _ i _ => L.length - (intOf i).toNat)
  case atStart => exact ⟨0, Nat.zero_le _, rfl, rfl, Below.refl _ _⟩
  case round =>
    obtain ⟨k, hk, rfl, rfl, hb⟩ := hrel
    by_cases hlt : k < L.length
    · obtain ⟨b, o, rfl, hB, c0, c1, c2, c3, c4⟩ := (hs.keep hb).at_ k hlt
      obtain ⟨b', o', rfl, hB', c0', c1', c2', c3', c4'⟩ := (ht.keep hb).at_ k hlt
      go_wp2_with fail
      go_still_tail 8, (by kernel_rfl)
      change wpList _ _ _ _ _ wr.drew
      have hb1 := hb.drew
      generalize wr.drew = w2 at *
      go_wp2_with (go_at_call 134; refine (eqShelf_any L[k] _).mono ?_; rintro e w3 ⟨rfl, hb3⟩)
      go_roundw
      case rel => exact ⟨k + 1, by omega, by go_num, rfl, hb1.andThen hb3⟩
      case measure => simp [intOf]; omega
    · go_wp2
      go_ret
      exact ⟨rfl, hb⟩
set_option maxRecDepth 100000 in
set_option maxHeartbeats 400000 in
theorem eqIntS_any (A B : Option Addr) (cap cap' : Nat) (L : List Int) (w : World) (hl : L.length ≤ 1048576) (hs : IntS w A L) (ht : IntS w B L) :
    Calls Tryz.prog 132 #[.slice A L.length cap, .slice B L.length cap'] w fun e w' => e = .returned (.bool true) ∧ Below w.heap.size w w' := by
  go_enter Tryz.func132, Tryz.ntmps132
  go_wp2
  go_loopw [4, 5] (fun r i wr => ∃ k : Nat, k ≤ L.length ∧ i = .int .i64 k ∧ r = .bool false ∧ Below w.heap.size w wr) (fun _ i _ => L.length - (intOf i).toNat)
  case atStart => exact ⟨0, Nat.zero_le _, rfl, rfl, Below.refl _ _⟩
  case round =>
    obtain ⟨k, hk, rfl, rfl, hb⟩ := hrel
    by_cases hlt : k < L.length
    · obtain ⟨b, o, rfl, hB, c0⟩ := (hs.keep hb).at_ k hlt
      obtain ⟨b', o', rfl, hB', c0'⟩ := (ht.keep hb).at_ k hlt
      go_wp2_with fail
      go_quiet (fail)
      go_wp2
      go_roundw
      case rel => exact ⟨k + 1, by omega, by go_num, rfl, hb.drewN _⟩
      case measure => simp [intOf]; omega
    · go_wp2
      go_ret
      exact ⟨rfl, hb⟩
set_option maxRecDepth 100000 in
set_option maxHeartbeats 400000 in
theorem eqBoolS_any (A B : Option Addr) (cap cap' : Nat) (L : List Bool) (w : World) (hl : L.length ≤ 1048576) (hs : BoolS w A L) (ht : BoolS w B L) :
    Calls Tryz.prog 133 #[.slice A L.length cap, .slice B L.length cap'] w fun e w' => e = .returned (.bool true) ∧ Below w.heap.size w w' := by
  go_enter Tryz.func133, Tryz.ntmps133
  go_wp2
  go_loopw [4, 5] (fun r i wr => ∃ k : Nat, k ≤ L.length ∧ i = .int .i64 k ∧ r = .bool false ∧ Below w.heap.size w wr) (fun _ i _ => L.length - (intOf i).toNat)
  case atStart => exact ⟨0, Nat.zero_le _, rfl, rfl, Below.refl _ _⟩
  case round =>
    obtain ⟨k, hk, rfl, rfl, hb⟩ := hrel
    by_cases hlt : k < L.length
    · obtain ⟨b, o, rfl, hB, c0⟩ := (hs.keep hb).at_ k hlt
      obtain ⟨b', o', rfl, hB', c0'⟩ := (ht.keep hb).at_ k hlt
      go_wp2_with fail
      go_quiet (fail)
      go_wp2
      go_roundw
      case rel => exact ⟨k + 1, by omega, by go_num, rfl, hb.drewN _⟩
      case measure => simp [intOf]; omega
    · go_wp2
      go_ret
      exact ⟨rfl, hb⟩
open Go.RowKit
def BFit (x : BandM) : Prop := x.locals.length ≤ 1048576 ∧ x.dry.length ≤ 1048576
def GFit (x : GroupM) : Prop := x.name.size ≤ 1048576 ∧ BFit x.band ∧ x.shelves.length ≤ 1048576
def WFit (M : WorldM) : Prop := M.cpus.length ≤ 1048576 ∧ M.tasks.length ≤ 1048576 ∧ M.groups.length ≤ 1048576 ∧ ∀ k (h : k < M.groups.length), GFit M.groups[k]
open Go.RowKit
def hset (H : Nat → GH) (k : Nat) (h : GH) : Nat → GH := fun j => if j = k then h else H j
theorem hset_same (H : Nat → GH) (k : Nat) (h : GH) : hset H k h k = h := by simp [hset]
theorem hset_other (H : Nat → GH) {k j : Nat} (h : GH) (hj : j ≠ k) : hset H k h j = H j := by simp [hset, hj]
open Go.RowKit
theorem hne {B g : Nat} (hg : B < g) : ∀ a, (some (⟨g, 0, none⟩ : Addr) = some a → a.block ≠ B) := fun a ha => by cases ha; simp; omega
set_option maxHeartbeats 400000 in
theorem eqBand_any (x : BandM) (h h2 : GH) (w : World) (hf : BFit x) (hl : IntS w h.la x.locals) (hd : BoolS w h.da x.dry) (hl2 : IntS w h2.la x.locals) (hd2 : BoolS w h2.da x.dry) :
    Calls Tryz.prog 82 #[.agg #[.int .i64 x.quota, .int .i64 x.pool, .int .i64 x.spent, .slice h.la x.locals.length h.lc, .slice h.da x.dry.length h.dc], .agg #[.int .i64 x.quota, .int .i64 x.pool, .int .i64 x.spent, .slice h2.la x.locals.length h2.lc, .slice h2.da x.dry.length h2.dc]] w fun e w' => e = .returned (.bool true) ∧ Below w.heap.size w w' := by
  go_enter Tryz.func82, Tryz.ntmps82
  go_wp2_with fail
  refine gen2 (p := fun W => Calls _ _ _ W _) ?_
  intro W b1 s1 k0 k1
  refine (eqIntS_any _ _ _ _ x.locals _ hf.1 (hl.keep b1) (hl2.keep b1)).mono ?_
  rintro e w1 ⟨rfl, hb1⟩
  have b2 := b1.andThen hb1
  have c0 := (k0.below hb1 k0.lt).cell 4
  have c1 := (k1.below hb1 k1.lt).cell 4
  simp at c0 c1
  clear k0 k1
  go_wp2_with fail
  refine (eqBoolS_any _ _ _ _ x.dry _ hf.2 (hd.keep b2) (hd2.keep b2)).mono ?_
  rintro e w2 ⟨rfl, hb2⟩
  go_wp2
  go_ret
  exact ⟨rfl, b2.andThen hb2⟩
set_option maxHeartbeats 1000000 in
theorem eqGroup_any (x : GroupM) (h h2 : GH) (w : World) (hf : GFit x) (hl : IntS w h.la x.band.locals) (hd : BoolS w h.da x.band.dry) (hs : ShelfS w h.sa x.shelves) (hl2 : IntS w h2.la x.band.locals) (hd2 : BoolS w h2.da x.band.dry) (hs2 : ShelfS w h2.sa x.shelves) :
    Calls Tryz.prog 46 #[.agg #[.bool x.used, .int .i64 x.parent, .string x.name, .int .i64 x.weight, .int .i64 x.cpus, .int .i64 x.period, .int .i64 x.next, .int .i64 x.sum, .int .i64 x.band.quota, .int .i64 x.band.pool, .int .i64 x.band.spent, .slice h.la x.band.locals.length h.lc, .slice h.da x.band.dry.length h.dc, .slice h.sa x.shelves.length h.sc], .agg #[.bool x.used, .int .i64 x.parent, .string x.name, .int .i64 x.weight, .int .i64 x.cpus, .int .i64 x.period, .int .i64 x.next, .int .i64 x.sum, .int .i64 x.band.quota, .int .i64 x.band.pool, .int .i64 x.band.spent, .slice h2.la x.band.locals.length h2.lc, .slice h2.da x.band.dry.length h2.dc, .slice h2.sa x.shelves.length h2.sc]] w fun e w' => e = .returned (.bool true) ∧ Below w.heap.size w w' := by
  go_enter Tryz.func46, Tryz.ntmps46
  go_wp2_with fail
  refine gen2 (p := fun W => Calls _ _ _ W _) ?_
  intro W b1 s1 k0 k1
  refine (eqBand_any x.band h h2 _ hf.2.1 (hl.keep b1) (hd.keep b1) (hl2.keep b1) (hd2.keep b1)).mono ?_
  rintro e w1 ⟨rfl, hb1⟩
  have b2 := b1.andThen hb1
  have c0 := (k0.below hb1 k0.lt).cell 13
  have c1 := (k1.below hb1 k1.lt).cell 13
  simp at c0 c1
  clear k0 k1
  go_wp2_with fail
  refine (eqShelfS_any _ _ _ _ x.shelves _ hf.2.2 (hs.keep b2) (hs2.keep b2)).mono ?_
  rintro e w2 ⟨rfl, hb2⟩
  go_wp2
  go_ret
  exact ⟨rfl, b2.andThen hb2⟩
set_option maxRecDepth 100000 in
set_option maxHeartbeats 1000000 in
theorem eqGroupS_any (A B : Option Addr) (cap cap2 : Nat) (H H2 : Nat → GH) (L : List GroupM) (w : World) (hl : L.length ≤ 1048576) (hf : ∀ k (h : k < L.length), GFit L[k]) (hs : GroupS w A H L) (ht : GroupS w B H2 L) :
    Calls Tryz.prog 18 #[.slice A L.length cap, .slice B L.length cap2] w fun e w' => e = .returned (.bool true) ∧ Below w.heap.size w w' := by
  have HF := Lib.hid hf
  clear hf
  go_enter Tryz.func18, Tryz.ntmps18
  go_wp2
  go_loopw [4, 5] (fun r i wr => ∃ k : Nat, k ≤ L.length ∧ i = .int .i64 k ∧ r = .bool false ∧ Below w.heap.size w wr) (fun _ i _ => L.length - (intOf i).toNat)
  case atStart => exact ⟨0, Nat.zero_le _, rfl, rfl, Below.refl _ _⟩
  case round =>
    obtain ⟨k, hk, rfl, rfl, hb⟩ := hrel
    by_cases hlt : k < L.length
    · obtain ⟨b, o, rfl, hB, c0, c1, c2, c3, c4, c5, c6, c7, c8, c9, c10, c11, c12, c13⟩ := (hs.keep hb).at_ k hlt
      obtain ⟨b', o', rfl, hB', c0', c1', c2', c3', c4', c5', c6', c7', c8', c9', c10', c11', c12', c13'⟩ := (ht.keep hb).at_ k hlt
      go_wp2_with fail
      go_still_tail 8, (by kernel_rfl)
      change wpList _ _ _ _ _ wr.drew
      have hb1 := hb.drew
      generalize wr.drew = w2 at *
      go_wp2_with fail
      refine (eqGroup_any L[k] (H k) (H2 k) _ (HF.out k hlt) ((hs.loc k hlt).keep hb1) ((hs.dry k hlt).keep hb1) ((hs.she k hlt).keep hb1) ((ht.loc k hlt).keep hb1) ((ht.dry k hlt).keep hb1) ((ht.she k hlt).keep hb1)).mono ?_
      rintro e w3 ⟨rfl, hb3⟩
      go_wp2
      go_roundw
      case rel => exact ⟨k + 1, by omega, by go_num, rfl, hb1.andThen hb3⟩
      case measure => simp [intOf]; omega
    · go_wp2
      go_ret
      exact ⟨rfl, hb⟩
set_option maxHeartbeats 1000000 in
theorem eqWorld_any (h h2 : WH) (M : WorldM) (w : World) (hf : WFit M) (hs : WAt w h M) (ht : WAt w h2 M) :
    Calls Tryz.prog 6 #[.agg #[.int .i64 M.now, .slice h.ca M.cpus.length h.cc, .slice h.ta M.tasks.length h.tc, .slice h.ga M.groups.length h.gc], .agg #[.int .i64 M.now, .slice h2.ca M.cpus.length h2.cc, .slice h2.ta M.tasks.length h2.tc, .slice h2.ga M.groups.length h2.gc]] w fun e w' => e = .returned (.bool true) ∧ Below w.heap.size w w' := by
  obtain ⟨m1, m2, m3, m4⟩ := hf
  have M4 := Lib.hid m4
  clear m4
  go_enter Tryz.func6, Tryz.ntmps6
  go_wp2_with fail
  refine gen2 (p := fun W => Calls _ _ _ W _) ?_
  intro W b1 s1 k0 k1
  refine (eqCpuS_any _ _ _ _ M.cpus _ m1 (hs.cpu.keep b1) (ht.cpu.keep b1)).mono ?_
  rintro e w1 ⟨rfl, hb1⟩
  have b2 := b1.andThen hb1
  have j0 := k0.below hb1 k0.lt
  have j1 := k1.below hb1 k1.lt
  have c0 := j0.cell 2
  have c1 := j1.cell 2
  simp at c0 c1
  have J0 := Lib.hid j0
  have J1 := Lib.hid j1
  clear k0 k1 j0 j1
  go_wp2_with fail
  refine (eqTaskS_any _ _ _ _ M.tasks _ m2 (hs.task.keep b2) (ht.task.keep b2)).mono ?_
  rintro e w2 ⟨rfl, hb2⟩
  have b3 := b2.andThen hb2
  have d0 := (J0.out.below hb2 J0.out.lt).cell 3
  have d1 := (J1.out.below hb2 J1.out.lt).cell 3
  simp at d0 d1
  clear J0 J1 c0 c1
  go_wp2_with fail
  refine (eqGroupS_any _ _ _ _ h.gh h2.gh M.groups _ m3 M4.out (hs.group.keep b3) (ht.group.keep b3)).mono ?_
  rintro e w3 ⟨rfl, hb3⟩
  go_wp2
  go_ret
  exact ⟨rfl, b3.andThen hb3⟩
open Go.RowKit Go.Sort
def gStep (x : GroupM) : Nat := 11 + x.band.locals.length + x.band.dry.length + 5 * x.shelves.length
def markG (x : GroupM) (k : Int) : GroupM := { used := m3 k, parent := k + 1, name := markM (k + 2), weight := k + 3, cpus := k + 4, period := k + 5, next := k + 6, sum := k + 7, band := { quota := k + 8, pool := k + 9, spent := k + 10, locals := markIntL x.band.locals.length (k + 11), dry := markBoolL x.band.dry.length (k + 11 + (x.band.locals.length : Nat)) }, shelves := markShelfL x.shelves.length (k + 11 + (x.band.locals.length : Nat) + (x.band.dry.length : Nat)) }
def cntK (L : List GroupM) (K : Int) : Nat → Int
  | 0 => K
  | j + 1 => cntK L K j + (gStep (L.getD j group0) : Nat)
def mg (L : List GroupM) (K : Int) (k j : Nat) : GroupM := if j < k then markG (L.getD j group0) (cntK L K j) else L.getD j group0
def markGL (L : List GroupM) (K : Int) : List GroupM := (List.range L.length).map fun j => markG (L.getD j group0) (cntK L K j)
@[simp] theorem markGL_length (L : List GroupM) (K : Int) : (markGL L K).length = L.length := by simp [markGL]
theorem markGL_getD {L : List GroupM} {K : Int} {j : Nat} (h : j < L.length) : (markGL L K).getD j group0 = markG (L.getD j group0) (cntK L K j) := by
  rw [List.getD_eq_getElem?_getD, List.getElem?_eq_getElem (by simpa using h)]; simp [markGL]
theorem markGL_get {L : List GroupM} {K : Int} {j : Nat} (h : j < (markGL L K).length) : (markGL L K)[j] = markG (L.getD j group0) (cntK L K j) := by simp [markGL]
theorem gStep_fit {x : GroupM} (h : GFit x) : gStep x ≤ 7340043 := by obtain ⟨_, ⟨h1, h2⟩, h3⟩ := h; unfold gStep; omega
theorem cntK_bd {L : List GroupM} {K : Int} (hf : ∀ k (h : k < L.length), GFit L[k]) : ∀ j : Nat, j ≤ L.length → K ≤ cntK L K j ∧ cntK L K j ≤ K + 7340043 * (j : Nat)
  | 0, _ => by simp [cntK]
  | j + 1, h => by
    have ih := cntK_bd (K := K) hf j (by omega)
    have := gStep_fit (hf j (by omega))
    have e : L.getD j group0 = L[j] := by rw [List.getD_eq_getElem?_getD, List.getElem?_eq_getElem (by omega)]; rfl
    simp only [cntK, e]
    omega
structure GrpsO (w : World) (B : Nat) (A : Option Addr) (H : Nat → GH) (n : Nat) (X : Nat → GroupM) : Prop where
  row : RowR w B A 56 14 n fun k => groupF (X k) (H k)
  loc : ∀ k, k < n → IntR w B (H k).la (X k).band.locals
  dry : ∀ k, k < n → BoolR w B (H k).da (X k).band.dry
  she : ∀ k, k < n → ShelfR w B (H k).sa (X k).shelves
  sepL : Sep (fun k => (H k).la) n
  sepD : Sep (fun k => (H k).da) n
  sepS : Sep (fun k => (H k).sa) n
def Part (A : Option Addr) (h : GH) (g : Nat) : Prop := A = some ⟨g, 0, none⟩ ∨ h.la = some ⟨g, 0, none⟩ ∨ h.da = some ⟨g, 0, none⟩ ∨ h.sa = some ⟨g, 0, none⟩
def HasG (A : Option Addr) (H : Nat → GH) (n g : Nat) : Prop := A = some ⟨g, 0, none⟩ ∨ ∃ k, k < n ∧ ((H k).la = some ⟨g, 0, none⟩ ∨ (H k).da = some ⟨g, 0, none⟩ ∨ (H k).sa = some ⟨g, 0, none⟩)
theorem Part.has {A : Option Addr} {H : Nat → GH} {n k g : Nat} (hk : k < n) (h : Part A (H k) g) : HasG A H n g := by
  rcases h with h | h | h | h
  · exact .inl h
  · exact .inr ⟨k, hk, .inl h⟩
  · exact .inr ⟨k, hk, .inr (.inl h)⟩
  · exact .inr ⟨k, hk, .inr (.inr h)⟩
section
variable {w w' : World} {B : Nat} {A : Option Addr} {H : Nat → GH} {n : Nat} {X Y : Nat → GroupM}
theorem GrpsO.congr (h : GrpsO w B A H n X) (e : ∀ k, k < n → X k = Y k) : GrpsO w B A H n Y :=
  ⟨h.row.congr fun k i hk _ => by rw [e k hk], fun k hk => by rw [← e k hk]; exact h.loc k hk, fun k hk => by rw [← e k hk]; exact h.dry k hk, fun k hk => by rw [← e k hk]; exact h.she k hk, h.sepL, h.sepD, h.sepS⟩
theorem GrpsO.round (h : GrpsO w B A H n X) {k : Nat} (hk : k < n) (hkeep : Keep (Part A (H k)) w w') (hrow : RowR w' B A 56 14 n fun j => groupF (Y j) (H j))
    (hl : IntR w' B (H k).la (Y k).band.locals) (hd : BoolR w' B (H k).da (Y k).band.dry) (hs : ShelfR w' B (H k).sa (Y k).shelves) (he : ∀ j, j ≠ k → Y j = X j) : GrpsO w' B A H n Y := by
  have frm : ∀ {T n' len f} {A' : Option Addr} {a : Addr}, RowR w B A' T n' len f → A' = some a → A' = some ⟨a.block, 0, none⟩ := fun hr ha => by rw [ha, ← hr.form ha]
  refine ⟨hrow, fun j hj => ?_, fun j hj => ?_, fun j hj => ?_, h.sepL, h.sepD, h.sepS⟩
  · by_cases e : j = k
    · subst e; exact hl
    · rw [he j e]
      refine (h.loc j hj).keep hkeep fun a ha => ?_
      rintro (c | c | c | c)
      · exact RowR.ne (h.loc j hj) h.row (by decide) ha c rfl
      · exact h.sepL j k _ hj hk e (frm (h.loc j hj) ha) c
      · exact RowR.ne (h.loc j hj) (h.dry k hk) (by decide) ha c rfl
      · exact RowR.ne (h.loc j hj) (h.she k hk) (by decide) ha c rfl
  · by_cases e : j = k
    · subst e; exact hd
    · rw [he j e]
      refine (h.dry j hj).keep hkeep fun a ha => ?_
      rintro (c | c | c | c)
      · exact RowR.ne (h.dry j hj) h.row (by decide) ha c rfl
      · exact RowR.ne (h.dry j hj) (h.loc k hk) (by decide) ha c rfl
      · exact h.sepD j k _ hj hk e (frm (h.dry j hj) ha) c
      · exact RowR.ne (h.dry j hj) (h.she k hk) (by decide) ha c rfl
  · by_cases e : j = k
    · subst e; exact hs
    · rw [he j e]
      refine (h.she j hj).keep hkeep fun a ha => ?_
      rintro (c | c | c | c)
      · exact RowR.ne (h.she j hj) h.row (by decide) ha c rfl
      · exact RowR.ne (h.she j hj) (h.loc k hk) (by decide) ha c rfl
      · exact RowR.ne (h.she j hj) (h.dry k hk) (by decide) ha c rfl
      · exact h.sepS j k _ hj hk e (frm (h.she j hj) ha) c
end
theorem mg_self (L : List GroupM) (K : Int) (k : Nat) : mg L K k k = L.getD k group0 := by simp [mg]
theorem mg_done (L : List GroupM) (K : Int) (k : Nat) : mg L K (k + 1) k = markG (L.getD k group0) (cntK L K k) := by simp [mg]
theorem mg_other {L : List GroupM} {K : Int} {k j : Nat} (h : j ≠ k) : mg L K (k + 1) j = mg L K k j := by
  have : (j < k + 1) ↔ (j < k) := by omega
  simp [mg, this]
theorem RowR.sets {B : Nat} {A : Option Addr} {T : TypeId} {n len g k : Nat} (hA : A = some ⟨g, 0, none⟩) (hk : k < len) : ∀ (l : List (Nat × Value)) {w : World} {f : Nat → Nat → Value} (_ : RowR w B A T n len f) (_ : ∀ p ∈ l, p.1 < n),
    RowR (l.foldl (fun w p => w.setCell ⟨g, k * n + p.1, none⟩ p.2) w) B A T n len (fun k' i' => if k' = k then l.foldl (fun v p => if p.1 = i' then p.2 else v) (f k' i') else f k' i')
  | [], w, f, h, _ => h.congr fun j i _ _ => by simp
  | p :: l, w, f, h, hp => ((RowR.sets hA hk l (h.set hA hk (hp p (by simp)) p.2) fun q hq => hp q (by simp [hq])).congr fun j i hj hi => by
      by_cases e : j = k
      · subst e
        simp only [if_true, true_and, List.foldl_cons]
        by_cases e2 : i = p.1
        · subst e2; simp
        · rw [if_neg e2, if_neg (fun h => e2 h.symm)]
      · simp [e])
theorem Keep.sets {S : Nat → Prop} {g n k : Nat} (hp : S g) : ∀ (l : List (Nat × Value)) (w : World), Keep S w (l.foldl (fun w p => w.setCell ⟨g, k * n + p.1, none⟩ p.2) w)
  | [], _ => Keep.refl _ _
  | _ :: l, w => (Keep.set w _ _ hp).trans (Keep.sets hp l _)
def mk1 (q : Int) : List (Nat × Value) := [(0, .bool (q % 3 == 0)), (1, .int .i64 (q + 1))]
def mk2 (q : Int) : List (Nat × Value) := [(2, .string (markM (q + 1 + 1))), (3, .int .i64 (q + 1 + 1 + 1)), (4, .int .i64 (q + 1 + 1 + 1 + 1)), (5, .int .i64 (q + 1 + 1 + 1 + 1 + 1)), (6, .int .i64 (q + 1 + 1 + 1 + 1 + 1 + 1)), (7, .int .i64 (q + 1 + 1 + 1 + 1 + 1 + 1 + 1)), (8, .int .i64 (q + 1 + 1 + 1 + 1 + 1 + 1 + 1 + 1)), (9, .int .i64 (q + 1 + 1 + 1 + 1 + 1 + 1 + 1 + 1 + 1)), (10, .int .i64 (q + 1 + 1 + 1 + 1 + 1 + 1 + 1 + 1 + 1 + 1))]
theorem mark_cells (x : GroupM) (h : GH) (q : Int) : ∀ i, i < 14 → (mk2 q).foldl (fun v p => if p.1 = i then p.2 else v) ((mk1 q).foldl (fun v p => if p.1 = i then p.2 else v) (groupF x h i)) = groupF (markG x q) h i
  | 0, _ => rfl
  | 1, _ => rfl
  | 2, _ => congrArg (fun z => Value.string (markM z)) (show q + 1 + 1 = q + 2 by omega)
  | 3, _ => val_eq (show q + 1 + 1 + 1 = q + 3 by omega)
  | 4, _ => val_eq (show q + 1 + 1 + 1 + 1 = q + 4 by omega)
  | 5, _ => val_eq (show q + 1 + 1 + 1 + 1 + 1 = q + 5 by omega)
  | 6, _ => val_eq (show q + 1 + 1 + 1 + 1 + 1 + 1 = q + 6 by omega)
  | 7, _ => val_eq (show q + 1 + 1 + 1 + 1 + 1 + 1 + 1 = q + 7 by omega)
  | 8, _ => val_eq (show q + 1 + 1 + 1 + 1 + 1 + 1 + 1 + 1 = q + 8 by omega)
  | 9, _ => val_eq (show q + 1 + 1 + 1 + 1 + 1 + 1 + 1 + 1 + 1 = q + 9 by omega)
  | 10, _ => val_eq (show q + 1 + 1 + 1 + 1 + 1 + 1 + 1 + 1 + 1 + 1 = q + 10 by omega)
  | 11, _ => congrArg (fun z => Value.slice h.la z h.lc) (show x.band.locals.length = (markG x q).band.locals.length by simp [markG])
  | 12, _ => congrArg (fun z => Value.slice h.da z h.dc) (show x.band.dry.length = (markG x q).band.dry.length by simp [markG])
  | 13, _ => congrArg (fun z => Value.slice h.sa z h.sc) (show x.shelves.length = (markG x q).shelves.length by simp [markG])
  | i + 14, h => absurd h (by omega)
theorem genW {p : World → Prop} {w : World} (h : ∀ W, w = W → p W) : p w := h w rfl
set_option maxRecDepth 100000 in
set_option maxHeartbeats 4000000 in
theorem markGroupS_any (A : Option Addr) (cap B : Nat) (H : Nat → GH) (L : List GroupM) (K : Int) (w : World) (hK : 0 ≤ K ∧ K ≤ 14680065) (hl : L.length ≤ 1048576) (hf : ∀ k (h : k < L.length), GFit L[k]) (hs : GrpsO w B A H L.length fun k => L.getD k group0) :
    Calls Tryz.prog 21 #[.slice A L.length cap, .int .i64 K] w fun e w' => e = .returned (.int .i64 (cntK L K L.length)) ∧ Keep (HasG A H L.length) w w' ∧ GrpsO w' B A H L.length fun k => (markGL L K).getD k group0 := by
  have HBD := Lib.hid (cntK_bd (K := K) hf)
  have HF := Lib.hid hf
  obtain ⟨hK0, hK1⟩ := hK
  clear hf
  go_enter Tryz.func21, Tryz.ntmps21
  go_wp2
  go_loopw [1, 5] (fun c i wr => ∃ k : Nat, k ≤ L.length ∧ i = .int .i64 k ∧ c = .int .i64 (cntK L K k) ∧ Keep (HasG A H L.length) w wr ∧ GrpsO wr B A H L.length (mg L K k)) (fun _ i _ => L.length - (intOf i).toNat)
  case atStart => exact ⟨0, Nat.zero_le _, rfl, rfl, Keep.refl _ _, hs.congr fun k _ => by simp [mg]⟩
  case round =>
    obtain ⟨k, hk, rfl, rfl, hkeep, hgr⟩ := hrel
    by_cases hlt : k < L.length
    · have HK := Lib.hid hkeep
      have HG := Lib.hid hgr
      have HR := Lib.hid hgr.row
      obtain ⟨g, hA, hg, hB, v0, f0⟩ := hgr.row.cell hlt (i := 0) (by omega)
      have HA := Lib.hid hA
      obtain ⟨_, e, _, _, v1, f1⟩ := hgr.row.cell hlt (i := 1) (by omega); cases hA.symm.trans e
      clear hkeep hgr hs
      subst hA
      have hbd := HBD.out k hk
      have b0 : (0 : Int) ≤ cntK L K k := by omega
      have b1 : cntK L K k ≤ 14680065 + 7340043 * 1048576 := by omega
      have HX := Lib.hid (show GFit (L.getD k group0) by rw [List.getD_eq_getElem?_getD, List.getElem?_eq_getElem hlt]; exact HF.out k hlt)
      have HDN := Lib.hid (mg_done L K k)
      have HSF := Lib.hid (mg_self L K k)
      have HSTEP := Lib.hid (show cntK L K (k + 1) = cntK L K k + (gStep (L.getD k group0) : Nat) from rfl)
      have HM := Lib.hid (show ∀ k j, mg L K k j = mg L K k j from fun _ _ => rfl)
      generalize hx : L.getD k group0 = x at *
      generalize hq : cntK L K k = q at *
      have HQ := Lib.hid hq
      clear hq hbd hx HM
      simp only [Nat.add_zero] at v0 f0
      go_wp2_with fail
      refine genW (p := fun W => Calls _ _ _ W _) ?_
      intro W1 hW1
      have R1 := HR.out.sets rfl hlt (mk1 q) (by simp [mk1])
      have K1 := Keep.sets (S := fun i => some (⟨g, 0, none⟩ : Addr) = some ⟨i, 0, none⟩) (n := 14) (k := k) rfl (mk1 q) wr
      have e1 : (mk1 q).foldl (fun w p => w.setCell ⟨g, k * 14 + p.1, none⟩ p.2) wr = W1 := hW1
      rw [e1] at R1 K1
      clear e1
      clear hW1 v0 v1 f0 f1
      refine (markText_any _ _ (by omega) (by omega)).mono ?_
      rintro e W2 ⟨rfl, hb2⟩
      have R2 := Lib.hid (R1.below hb2)
      have K2 := Lib.hid (K1.then_ (Keep.of_below (S := fun _ => False) hb2) fun _ _ h => h.elim)
      clear R1 K1 hb2
      obtain ⟨_, e, _, _, v2, f2⟩ := R2.out.cell hlt (i := 2) (by omega); cases e
      obtain ⟨_, e, _, _, v3, f3⟩ := R2.out.cell hlt (i := 3) (by omega); cases e
      obtain ⟨_, e, _, _, v4, f4⟩ := R2.out.cell hlt (i := 4) (by omega); cases e
      obtain ⟨_, e, _, _, v5, f5⟩ := R2.out.cell hlt (i := 5) (by omega); cases e
      obtain ⟨_, e, _, _, v6, f6⟩ := R2.out.cell hlt (i := 6) (by omega); cases e
      obtain ⟨_, e, _, _, v7, f7⟩ := R2.out.cell hlt (i := 7) (by omega); cases e
      obtain ⟨_, e, _, _, v8, f8⟩ := R2.out.cell hlt (i := 8) (by omega); cases e
      obtain ⟨_, e, _, _, v9, f9⟩ := R2.out.cell hlt (i := 9) (by omega); cases e
      obtain ⟨_, e, _, _, v10, f10⟩ := R2.out.cell hlt (i := 10) (by omega); cases e
      obtain ⟨_, e, _, _, v11, f11⟩ := R2.out.cell hlt (i := 11) (by omega); cases e
      simp [groupF] at v11
      rw [HSF.out] at v11
      go_wp2_with fail
      refine genW (p := fun W => Calls _ _ _ W _) ?_
      intro W3 hW3
      have R3 := R2.out.sets rfl hlt (mk2 q) (by simp [mk2])
      have K3c := Keep.sets (S := fun i => some (⟨g, 0, none⟩ : Addr) = some ⟨i, 0, none⟩) (n := 14) (k := k) rfl (mk2 q) W2
      have e3 : (mk2 q).foldl (fun w p => w.setCell ⟨g, k * 14 + p.1, none⟩ p.2) W2 = W3 := hW3
      rw [e3] at R3 K3c
      have R3 := Lib.hid (R3.congr (f' := fun j => groupF (mg L K (k + 1) j) (H j)) fun j i hj hi => by
        by_cases e : j = k
        · subst e
          rw [if_pos rfl, if_pos rfl, HDN.out, HSF.out]
          exact mark_cells x (H j) q i hi
        · rw [if_neg e, if_neg e, mg_other e])
      have KA := Lib.hid (K2.out.trans K3c)
      clear e3 K3c
      clear hW3
      clear v2 v3 v4 v5 v6 v7 v8 v9 v10 v11 f2 f3 f4 f5 f6 f7 f8 f9 f10 f11 R2 K2
      have hI := (HG.out.loc k hlt).keep KA.out fun a ha c => RowR.ne (HG.out.loc k hlt) HG.out.row (by decide) ha c rfl
      have hD := (HG.out.dry k hlt).keep KA.out fun a ha c => RowR.ne (HG.out.dry k hlt) HG.out.row (by decide) ha c rfl
      have hS := (HG.out.she k hlt).keep KA.out fun a ha c => RowR.ne (HG.out.she k hlt) HG.out.row (by decide) ha c rfl
      rw [HSF.out] at hI hD hS
      rw [show q + 1 + 1 + 1 + 1 + 1 + 1 + 1 + 1 + 1 + 1 + 1 = q + 11 by omega]
      refine (markIntS_any _ _ B x.band.locals _ W3 ⟨by omega, by omega⟩ HX.out.2.1.1 hI).mono ?_
      rintro e W4 ⟨rfl, kI, hI4⟩
      have R4 := Lib.hid (R3.out.keep kI fun a ha c => RowR.ne R3.out hI (by decide) ha c rfl)
      have hD4 := hD.keep kI fun a ha c => RowR.ne hD hI (by decide) ha c rfl
      have hS4 := hS.keep kI fun a ha c => RowR.ne hS hI (by decide) ha c rfl
      have KB := Lib.hid (((KA.out.mono fun _ _ h => (.inl h : Part (some ⟨g, 0, none⟩) (H k) _)).trans (kI.mono fun _ _ h => (.inr (.inl h) : Part (some ⟨g, 0, none⟩) (H k) _))))
      obtain ⟨_, e, _, _, u12, f12⟩ := R4.out.cell hlt (i := 12) (by omega); cases e
      rw [HDN.out] at u12
      have v12 : W4.cell? ⟨g, k * 14 + 12, none⟩ = some (.slice (H k).da x.band.dry.length (H k).dc) := by rw [u12]; exact congrArg (fun z => some (Value.slice (H k).da z (H k).dc)) (by simp [markG])
      clear u12
      have y0 := HX.out.2.1.1
      have y1 := HX.out.2.1.2
      have y2 := HX.out.2.2
      clear hI hD hS kI
      go_wp2_with fail
      refine (markBoolS_any _ _ B x.band.dry _ W4 ⟨by omega, by omega⟩ HX.out.2.1.2 hD4).mono ?_
      rintro e W5 ⟨rfl, kD, hD5⟩
      have R5 := Lib.hid (R4.out.keep kD fun a ha c => RowR.ne R4.out hD4 (by decide) ha c rfl)
      have hI5 := hI4.keep kD fun a ha c => RowR.ne hI4 hD4 (by decide) ha c rfl
      have hS5 := hS4.keep kD fun a ha c => RowR.ne hS4 hD4 (by decide) ha c rfl
      have KC := Lib.hid (KB.out.trans (kD.mono fun _ _ h => (.inr (.inr (.inl h)) : Part (some ⟨g, 0, none⟩) (H k) _)))
      obtain ⟨_, e, _, _, u13, f13⟩ := R5.out.cell hlt (i := 13) (by omega); cases e
      rw [HDN.out] at u13
      have v13 : W5.cell? ⟨g, k * 14 + 13, none⟩ = some (.slice (H k).sa x.shelves.length (H k).sc) := by rw [u13]; exact congrArg (fun z => some (Value.slice (H k).sa z (H k).sc)) (by simp [markG])
      clear u13
      clear hI4 hD4 hS4 kD v12 f12
      go_wp2_with fail
      refine (markShelfS_any _ _ B x.shelves _ W5 ⟨by omega, by omega⟩ HX.out.2.2 hS5).mono ?_
      rintro e W6 ⟨rfl, kS, hS6⟩
      have R6 := Lib.hid (R5.out.keep kS fun a ha c => RowR.ne R5.out hS5 (by decide) ha c rfl)
      have hI6 := Lib.hid (hI5.keep kS fun a ha c => RowR.ne hI5 hS5 (by decide) ha c rfl)
      have hD6 := Lib.hid (hD5.keep kS fun a ha c => RowR.ne hD5 hS5 (by decide) ha c rfl)
      have KD := Lib.hid (KC.out.trans (kS.mono fun _ _ h => (.inr (.inr (.inr h)) : Part (some ⟨g, 0, none⟩) (H k) _)))
      have HS6 := Lib.hid hS6
      have HST2 := Lib.hid (show cntK L K (k + 1) = q + 11 + (x.band.locals.length : Int) + (x.band.dry.length : Int) + ((5 * x.shelves.length : Nat) : Int) by rw [HSTEP.out]; unfold gStep; omega)
      clear hI5 hD5 hS5 kS hS6 v13 f13
      go_wp2
      go_roundw
      case rel => exact ⟨k + 1, by omega, by go_num, by rw [HST2.out]; first | rfl | exact val_eq (by omega) | exact val_eq (by simp), HK.out.trans (KD.out.mono fun _ _ h => Part.has hlt h), HG.out.round hlt KD.out R6.out (by rw [HDN.out]; exact hI6.out) (by rw [HDN.out]; exact hD6.out) (by rw [HDN.out]; exact HS6.out) (fun j e => mg_other e)⟩
      case measure => simp [intOf]; omega
    · go_wp2
      go_ret
      obtain rfl : k = L.length := by omega
      exact ⟨rfl, hkeep, hgr.congr fun j hj => by rw [markGL_getD hj, mg, if_pos hj]⟩
def markW (M : WorldM) (K : Int) : WorldM := ⟨M.now, markCpuL M.cpus.length K, markTaskL M.tasks.length (K + ((5 * M.cpus.length : Nat) : Int)), markGL M.groups (K + ((5 * M.cpus.length : Nat) : Int) + ((9 * M.tasks.length : Nat) : Int))⟩
def endW (M : WorldM) (K : Int) : Int := cntK M.groups (K + ((5 * M.cpus.length : Nat) : Int) + ((9 * M.tasks.length : Nat) : Int)) M.groups.length
theorem endW_pos {M : WorldM} (hf : WFit M) : 0 ≤ endW M 1 := by
  have := (cntK_bd (K := 1 + ((5 * M.cpus.length : Nat) : Int) + ((9 * M.tasks.length : Nat) : Int)) hf.2.2.2 M.groups.length (Nat.le_refl _)).1
  unfold endW
  omega
theorem endW_bd {M : WorldM} (hf : WFit M) : endW M 1 ≤ 17592186044416 := by
  have := (cntK_bd (K := 1 + ((5 * M.cpus.length : Nat) : Int) + ((9 * M.tasks.length : Nat) : Int)) hf.2.2.2 M.groups.length (Nat.le_refl _)).2
  have h1 := hf.1
  have h2 := hf.2.1
  have h3 := hf.2.2.1
  unfold endW
  omega
section
variable {w w' : World} {B : Nat} {ca ta ga : Option Addr} {gh : Nat → GH} {M : WorldM}
theorem Own.cpus (h : Own w B ca ta ga gh M) (hk : Keep (fun g => ca = some ⟨g, 0, none⟩) w w') {L : List CpuM} (hc : CpuR w' B ca L) : Own w' B ca ta ga gh { M with cpus := L } :=
  ⟨hc, h.task.keep hk fun _ ha c => RowR.ne h.task h.cpu (by decide) ha c rfl, h.grps.keep hk fun _ ha c => RowR.ne h.grps h.cpu (by decide) ha c rfl, fun k hk' => (h.loc k hk').keep hk fun _ ha c => RowR.ne (h.loc k hk') h.cpu (by decide) ha c rfl, fun k hk' => (h.dry k hk').keep hk fun _ ha c => RowR.ne (h.dry k hk') h.cpu (by decide) ha c rfl, fun k hk' => (h.she k hk').keep hk fun _ ha c => RowR.ne (h.she k hk') h.cpu (by decide) ha c rfl, h.sepL, h.sepD, h.sepS⟩
theorem Own.tasks (h : Own w B ca ta ga gh M) (hk : Keep (fun g => ta = some ⟨g, 0, none⟩) w w') {L : List TaskM} (hc : TaskR w' B ta L) : Own w' B ca ta ga gh { M with tasks := L } :=
  ⟨h.cpu.keep hk fun _ ha c => RowR.ne h.cpu h.task (by decide) ha c rfl, hc, h.grps.keep hk fun _ ha c => RowR.ne h.grps h.task (by decide) ha c rfl, fun k hk' => (h.loc k hk').keep hk fun _ ha c => RowR.ne (h.loc k hk') h.task (by decide) ha c rfl, fun k hk' => (h.dry k hk').keep hk fun _ ha c => RowR.ne (h.dry k hk') h.task (by decide) ha c rfl, fun k hk' => (h.she k hk').keep hk fun _ ha c => RowR.ne (h.she k hk') h.task (by decide) ha c rfl, h.sepL, h.sepD, h.sepS⟩
theorem Own.groups (h : Own w B ca ta ga gh M) (hk : Keep (HasG ga gh M.groups.length) w w') {L : List GroupM} (hg : GrpsO w' B ga gh L.length fun k => L.getD k group0) : Own w' B ca ta ga gh { M with groups := L } := by
  refine ⟨h.cpu.keep hk fun a ha c => ?_, h.task.keep hk fun a ha c => ?_, hg.row, hg.loc, hg.dry, hg.she, hg.sepL, hg.sepD, hg.sepS⟩
  · rcases c with c | ⟨k, hk', c | c | c⟩
    · exact RowR.ne h.cpu h.grps (by decide) ha c rfl
    · exact RowR.ne h.cpu (h.loc k hk') (by decide) ha c rfl
    · exact RowR.ne h.cpu (h.dry k hk') (by decide) ha c rfl
    · exact RowR.ne h.cpu (h.she k hk') (by decide) ha c rfl
  · rcases c with c | ⟨k, hk', c | c | c⟩
    · exact RowR.ne h.task h.grps (by decide) ha c rfl
    · exact RowR.ne h.task (h.loc k hk') (by decide) ha c rfl
    · exact RowR.ne h.task (h.dry k hk') (by decide) ha c rfl
    · exact RowR.ne h.task (h.she k hk') (by decide) ha c rfl
theorem Own.grpsO (h : Own w B ca ta ga gh M) : GrpsO w B ga gh M.groups.length fun k => M.groups.getD k group0 := ⟨h.grps, h.loc, h.dry, h.she, h.sepL, h.sepD, h.sepS⟩
end
set_option maxRecDepth 100000 in
set_option maxHeartbeats 2000000 in
theorem markWorld_any (h : WH) (B : Nat) (M : WorldM) (w : World) (hf : WFit M) (hs : Own w B h.ca h.ta h.ga h.gh M) :
    Calls Tryz.prog 7 #[.agg #[.int .i64 M.now, .slice h.ca M.cpus.length h.cc, .slice h.ta M.tasks.length h.tc, .slice h.ga M.groups.length h.gc], .int .i64 1] w fun e w' => e = .returned (.int .i64 (endW M 1)) ∧ Keep (Has h.ca h.ta h.ga h.gh M.groups.length) w w' ∧ Own w' B h.ca h.ta h.ga h.gh (markW M 1) := by
  have HF := Lib.hid hf
  have y1 := hf.1
  have y2 := hf.2.1
  have y3 := hf.2.2.1
  clear hf
  go_enter Tryz.func7, Tryz.ntmps7
  go_wp2_with fail
  refine gen1 (p := fun W => Calls _ _ _ W _) ?_
  intro W b1 s1 k0
  have B1 := Lib.hid b1
  have o1 := hs.below b1
  have HO := Lib.hid (show (B ≤ B) ∧ ∀ {g}, Has h.ca h.ta h.ga h.gh M.groups.length g → g < w.heap.size from ⟨Nat.le_refl _, fun hg => (hs.has hg).2⟩)
  have c2 := k0.cell 2
  have c3 := k0.cell 3
  have f2 := fun i => k0.frozen i
  simp at c2 c3
  clear hs b1
  refine (markCpuS_any _ _ B M.cpus 1 W ⟨by omega, by omega⟩ y1 o1.cpu).mono ?_
  rintro e W1 ⟨rfl, kc, hc1⟩
  have HN := Lib.hid (show ∀ g, Has h.ca h.ta h.ga h.gh M.groups.length g → g < w.heap.size from fun g hg => HO.out.2 hg)
  have kc1 := kc.blk k0 fun e => Nat.lt_irrefl _ (HN.out _ (.inl e))
  have o2 := o1.cpus kc hc1
  have KA := Lib.hid (kc.mono fun g _ e => (.inl e : Has h.ca h.ta h.ga h.gh M.groups.length g))
  have c4 := kc1.cell 2
  have f4 := fun i => kc1.frozen i
  simp at c4
  clear c2 c3 f2 k0 kc hc1 o1
  go_wp2_with fail
  refine (markTaskS_any _ _ B M.tasks _ W1 ⟨by omega, by omega⟩ y2 o2.task).mono ?_
  rintro e W2 ⟨rfl, kt, ht1⟩
  have kt1 := kt.blk kc1 fun e => Nat.lt_irrefl _ (HN.out _ (.inr (.inl e)))
  have o3 := o2.tasks kt ht1
  have KB := Lib.hid (KA.out.trans (kt.mono fun g _ e => (.inr (.inl e) : Has h.ca h.ta h.ga h.gh M.groups.length g)))
  have c5 := kt1.cell 3
  have f5 := fun i => kt1.frozen i
  simp at c5
  clear c4 f4 kc1 kt ht1 o2
  go_wp2_with fail
  have e5 : (5 * (M.cpus.length : Int)) = ((5 * M.cpus.length : Nat) : Int) := by omega
  have e9 : (9 * (M.tasks.length : Int)) = ((9 * M.tasks.length : Nat) : Int) := by omega
  simp only [e5, e9]
  clear e5 e9
  refine (markGroupS_any _ _ B h.gh M.groups _ W2 ⟨by omega, by omega⟩ y3 HF.out.2.2.2 o3.grpsO).mono ?_
  rintro e W3 ⟨rfl, kg, hg1⟩
  have o4 := Lib.hid (o3.groups kg (L := markGL M.groups (1 + ((5 * M.cpus.length : Nat) : Int) + ((9 * M.tasks.length : Nat) : Int))) (by rw [markGL_length]; exact hg1))
  have KC := Lib.hid (KB.out.trans (kg.mono fun g _ e => (.inr (.inr e) : Has h.ca h.ta h.ga h.gh M.groups.length g)))
  clear c5 f5 kt1 kg hg1 o3 y1 y2 y3
  go_wp2
  go_ret
  exact ⟨rfl, (Keep.of_below B1.out).trans KC.out, o4.out⟩
set_option maxRecDepth 100000 in
set_option maxHeartbeats 4000000 in
theorem heldGroupS_any (A : Option Addr) (cap : Nat) (H : Nat → GH) (L : List GroupM) (K : Int) (w : World) (hK : 0 ≤ K ∧ K ≤ 14680065) (hl : L.length ≤ 1048576) (hf : ∀ k (h : k < L.length), GFit L[k]) (hs : GroupS w A H (markGL L K)) :
    Calls Tryz.prog 24 #[.slice A L.length cap, .int .i64 K] w fun e w' => e = .returned (.int .i64 (cntK L K L.length)) ∧ Below w.heap.size w w' := by
  have HBD := Lib.hid (cntK_bd (K := K) hf)
  have HF := Lib.hid hf
  obtain ⟨hK0, hK1⟩ := hK
  clear hf
  go_enter Tryz.func24, Tryz.ntmps24
  go_wp2
  go_loopw [1, 5] (fun c i wr => ∃ k : Nat, k ≤ L.length ∧ i = .int .i64 k ∧ c = .int .i64 (cntK L K k) ∧ Below w.heap.size w wr) (fun _ i _ => L.length - (intOf i).toNat)
  case atStart => exact ⟨0, Nat.zero_le _, rfl, rfl, Below.refl _ _⟩
  case round =>
    obtain ⟨k, hk, rfl, rfl, hb⟩ := hrel
    by_cases hlt : k < L.length
    · have hs1 := hs.keep hb
      have HB := Lib.hid hb
      obtain ⟨b, o, rfl, hB, v0, v1, v2, v3, v4, v5, v6, v7, v8, v9, v10, v11, v12, v13⟩ := hs1.at_ k (by simpa using hlt)
      have IL := Lib.hid (hs1.loc k (by simpa using hlt))
      have DL := Lib.hid (hs1.dry k (by simpa using hlt))
      have SL := Lib.hid (hs1.she k (by simpa using hlt))
      rw [markGL_get] at IL DL SL v0 v1 v2 v3 v4 v5 v6 v7 v8 v9 v10 v11 v12 v13
      have hbd := HBD.out k hk
      have b0 : (0 : Int) ≤ cntK L K k := by omega
      have b1 : cntK L K k ≤ 14680065 + 7340043 * 1048576 := by omega
      have HX := Lib.hid (show GFit (L.getD k group0) by rw [List.getD_eq_getElem?_getD, List.getElem?_eq_getElem hlt]; exact HF.out k hlt)
      have HST2 := Lib.hid (show cntK L K (k + 1) = cntK L K k + 11 + ((L.getD k group0).band.locals.length : Int) + ((L.getD k group0).band.dry.length : Int) + ((5 * (L.getD k group0).shelves.length : Nat) : Int) by show cntK L K k + (gStep (L.getD k group0) : Nat) = _; unfold gStep; omega)
      clear hs1 hs hb
      generalize L.getD k group0 = x at *
      generalize hq : cntK L K k = q at *
      clear hq hbd
      simp only [markG, m3, markIntL_length, markBoolL_length, markShelfL_length] at v0 v1 v2 v3 v4 v5 v6 v7 v8 v9 v10 v11 v12 v13
      have y0 := HX.out.2.1.1
      have y1 := HX.out.2.1.2
      have y2 := HX.out.2.2
      go_upto_region 10 with (fail)
      have Q2 := fun d os => cell_regrown v2 d os
      rw [show q + 2 = q + 1 + 1 by omega] at Q2
      refine wp_region_quiet_below (by kernel_rfl) (by kernel_rfl) ?_
      repeat (go_big_quiet_step ((go_at_call 47; exact Calls.regrown_of (markText_any (q + 1 + 1) _ (by omega) (by omega)))))
      refine wpQuiet_nil ?_
      intro _ hw'
      obtain ⟨⟨dq, osq⟩, hw''⟩ := hw'
      subst hw''
      have hb2 := below_regrown wr dq osq
      clear Q2
      generalize grow (redrawn wr dq) osq = w2 at *
      clear v0 v1 v2
      have v3 := (hb2.cell hB).trans v3
      have v4 := (hb2.cell hB).trans v4
      have v5 := (hb2.cell hB).trans v5
      have v6 := (hb2.cell hB).trans v6
      have v7 := (hb2.cell hB).trans v7
      have v8 := (hb2.cell hB).trans v8
      have v9 := (hb2.cell hB).trans v9
      have v10 := (hb2.cell hB).trans v10
      have v11 := (hb2.cell hB).trans v11
      have v12 := (hb2.cell hB).trans v12
      have v13 := (hb2.cell hB).trans v13
      have IL2 := Lib.hid (IL.out.keep hb2)
      have DL2 := Lib.hid (DL.out.keep hb2)
      have SL2 := Lib.hid (SL.out.keep hb2)
      rw [show q + 3 = q + 1 + 1 + 1 by omega] at v3
      rw [show q + 4 = q + 1 + 1 + 1 + 1 by omega] at v4
      rw [show q + 5 = q + 1 + 1 + 1 + 1 + 1 by omega] at v5
      rw [show q + 6 = q + 1 + 1 + 1 + 1 + 1 + 1 by omega] at v6
      rw [show q + 7 = q + 1 + 1 + 1 + 1 + 1 + 1 + 1 by omega] at v7
      rw [show q + 8 = q + 1 + 1 + 1 + 1 + 1 + 1 + 1 + 1 by omega] at v8
      rw [show q + 9 = q + 1 + 1 + 1 + 1 + 1 + 1 + 1 + 1 + 1 by omega] at v9
      rw [show q + 10 = q + 1 + 1 + 1 + 1 + 1 + 1 + 1 + 1 + 1 + 1 by omega] at v10
      go_wp2_with (first | (go_at_call 51; rw [show q + 1 + 1 + 1 + 1 + 1 + 1 + 1 + 1 + 1 + 1 + 1 = q + 11 by omega]; refine (heldIntS_any _ _ _ _ _ ⟨by omega, by omega⟩ y0 IL2.out).mono ?_; rintro e w' ⟨rfl, rfl⟩) | (go_at_call 52; refine (heldBoolS_any _ _ _ _ _ ⟨by omega, by omega⟩ y1 DL2.out).mono ?_; rintro e w' ⟨rfl, rfl⟩) | (go_at_call 53; refine (heldShelfS_any _ _ _ _ _ ⟨by omega, by omega⟩ y2 SL2.out).mono ?_; rintro e w' ⟨rfl, rfl⟩))
      go_roundw
      case rel => exact ⟨k + 1, by omega, by go_num, by rw [HST2.out]; first | rfl | exact val_eq (by omega) | exact val_eq (by simp), HB.out.andThen hb2⟩
      case measure => simp [intOf]; omega
    · go_wp2
      go_ret
      obtain rfl : k = L.length := by omega
      exact ⟨rfl, hb⟩
set_option maxRecDepth 100000 in
set_option maxHeartbeats 2000000 in
theorem heldWorld_any (h : WH) (M : WorldM) (w : World) (hf : WFit M) (hs : WA w h.ca h.ta h.ga h.gh (markW M 1)) :
    Calls Tryz.prog 8 #[.agg #[.int .i64 M.now, .slice h.ca M.cpus.length h.cc, .slice h.ta M.tasks.length h.tc, .slice h.ga M.groups.length h.gc], .int .i64 1] w fun e w' => e = .returned (.int .i64 (endW M 1)) ∧ Below w.heap.size w w' := by
  have HF := Lib.hid hf
  have y1 := hf.1
  have y2 := hf.2.1
  have y3 := hf.2.2.1
  have EP := endW_pos hf
  have EB := endW_bd hf
  clear hf
  go_enter Tryz.func8, Tryz.ntmps8
  go_wp2_with fail
  refine gen1 (p := fun W => Calls _ _ _ W _) ?_
  intro W b1 s1 k0
  have B1 := Lib.hid b1
  have o1 := hs.keep b1
  have c2 := k0.cell 2
  have c3 := k0.cell 3
  have f2 := fun i => k0.frozen i
  simp at c2 c3
  clear hs b1
  have e5 : (5 * (M.cpus.length : Int)) = ((5 * M.cpus.length : Nat) : Int) := by omega
  have e9 : (9 * (M.tasks.length : Int)) = ((9 * M.tasks.length : Nat) : Int) := by omega
  have E5 := Lib.hid e5
  have E9 := Lib.hid e9
  clear e5 e9
  refine (heldCpuS_any _ _ M.cpus.length 1 W ⟨by omega, by omega⟩ y1 o1.cpu).mono ?_
  rintro e W1 ⟨rfl, rfl⟩
  go_wp2_with fail
  try simp only [E5.out]
  refine (heldTaskS_any _ _ M.tasks.length _ W ⟨by omega, by omega⟩ y2 o1.task).mono ?_
  rintro e W1 ⟨rfl, rfl⟩
  go_wp2_with fail
  try simp only [E5.out, E9.out]
  refine (heldGroupS_any _ _ h.gh M.groups _ W ⟨by omega, by omega⟩ y3 HF.out.2.2.2 o1.group).mono ?_
  rintro e W3 ⟨rfl, hb3⟩
  have EE := Lib.hid (show cntK M.groups (1 + ((5 * M.cpus.length : Nat) : Int) + ((9 * M.tasks.length : Nat) : Int)) M.groups.length = endW M 1 from rfl)
  rw [EE.out]
  have hb := B1.out.andThen hb3
  clear c2 c3 f2 k0 o1 hb3 y1 y2 y3
  go_wp2
  go_ret
  exact ⟨rfl, hb⟩
open Go.RowKit Go.Sort
def setG (M : WorldM) (g : Nat) (y : GroupM) : WorldM := { M with groups := M.groups.set g y }
open Go.RowKit Go.Sort
theorem Own.wat {w : World} {B : Nat} {x : WH} {M : WorldM} (o : Own w B x.ca x.ta x.ga x.gh M) : WAt w x M := ⟨o.wa.cpu, o.wa.task, o.wa.group⟩
open Go.RowKit Go.Sort
def nilH : GH := ⟨none, 0, none, 0, none, 0⟩
open Go.RowKit Go.Sort
def setT (M : WorldM) (t : Nat) (x : TaskM) : WorldM := { M with tasks := M.tasks.set t x }
open Go.RowKit Go.Sort
abbrev upd (l : List (Nat × Value)) (v : Nat → Value) (i : Nat) : Value := l.foldl (fun v p => if p.1 = i then p.2 else v) (v i)
abbrev wr (b n k : Nat) (l : List (Nat × Value)) (w : World) : World := l.foldl (fun w p => w.setCell ⟨b, k * n + p.1, none⟩ p.2) w
section
variable {w w' w'' : World} {B n : Nat} {ca ta ga : Option Addr} {gh gh' gh'' : Nat → GH} {M M' : WorldM}
theorem Own.setTs (h : Own w B ca ta ga gh M) {b c : Nat} (ha : ta = some ⟨b, 0, none⟩) (hc : c < M.tasks.length) (l : List (Nat × Value)) (hl : ∀ p ∈ l, p.1 < 9) {x : TaskM} (hx : ∀ i, i < 9 → upd l (taskF (tsk M c)) i = taskF x i) :
    Own (wr b 9 c l w) B ca ta ga gh (setT M c x) ∧ Keep (Has ca ta ga gh M.groups.length) w (wr b 9 c l w) := by
  refine ⟨h.tasks (Keep.sets (S := fun g => ta = some ⟨g, 0, none⟩) ha l w) ?_, (Keep.sets (S := Has ca ta ga gh M.groups.length) (.inr (.inl ha)) l w)⟩
  show RowR _ B ta 62 9 (M.tasks.set c x).length _
  rw [List.length_set]
  refine (RowR.sets ha hc l h.task hl).congr fun j i hj hi => ?_
  by_cases e : j = c
  · subst e
    rw [if_pos rfl, show (M.tasks.set j x).getD j task0 = x by simp [hc]]
    exact hx i hi
  · rw [if_neg e, show (M.tasks.set c x).getD j task0 = M.tasks.getD j task0 by simp [Ne.symm e]]
end
end
end Go.Proofs.YtomllcclallcdaaGreatDoor
namespace Go.Proofs.YtomllcclallcdaaGreatDoor
section
open Go.RowKit
def cutB (x : UInt8) : List UInt8 → List (List UInt8)
  | [] => [[]]
  | b :: r => if b = x then [] :: cutB x r else (b :: (cutB x r).headD []) :: (cutB x r).tail
theorem cutB_ne (x : UInt8) : ∀ l, cutB x l ≠ []
  | [] => by simp [cutB]
  | b :: r => by rw [cutB]; split <;> simp
theorem cutB_app {x : UInt8} : ∀ {a : List UInt8} (r : List UInt8), x ∉ a → cutB x (a ++ x :: r) = a :: cutB x r
  | [], r, _ => by simp [cutB]
  | b :: a, r, h => by
    have hb : b ≠ x := fun e => h (by simp [e])
    have ih := cutB_app (a := a) r (fun e => h (List.mem_cons_of_mem b e))
    rw [List.cons_append, cutB, if_neg hb, ih]
    rfl
theorem cutB_none {x : UInt8} : ∀ {a : List UInt8}, x ∉ a → cutB x a = [a]
  | [], _ => rfl
  | b :: a, h => by
    have hb : b ≠ x := fun e => h (by simp [e])
    rw [cutB, if_neg hb, cutB_none (a := a) (fun e => h (List.mem_cons_of_mem b e))]
    rfl
theorem dig_in (u j : Nat) : 48 ≤ (Lib.dg u j).toNat ∧ (Lib.dg u j).toNat ≤ 57 := by
  have h : u / 10 ^ j % 10 < 10 := Nat.mod_lt _ (by omega)
  unfold Lib.dg
  rw [UInt8.toNat_ofNat']
  omega
theorem dec_in {u : Nat} {b : UInt8} (h : b ∈ Lib.decDigits u) : 48 ≤ b.toNat ∧ b.toNat ≤ 57 := by
  rw [Lib.decDigits_eq, List.mem_map] at h
  obtain ⟨t, _, rfl⟩ := h
  exact dig_in _ _
theorem itoa_in {n : Int} {b : UInt8} (h : b ∈ Lib.itoa n) : b.toNat = 45 ∨ (48 ≤ b.toNat ∧ b.toNat ≤ 57) := by
  unfold Lib.itoa at h
  split at h
  · rcases List.mem_cons.1 h with rfl | h
    · exact .inl rfl
    · exact .inr (dec_in h)
  · exact .inr (dec_in h)
theorem itoa_no {n : Int} {x : UInt8} (hx : x.toNat < 45) : x ∉ Lib.itoa n := fun h => by have := itoa_in h; omega
def lineC (w : List UInt8) (ns : List Int) : List UInt8 := w ++ numsB ns
theorem numsB_no {x : UInt8} (hx : x.toNat < 45) (h32 : x ≠ 32) : ∀ {ns : List Int}, x ∉ numsB ns
  | [], h => by simp [numsB] at h
  | n :: r, h => by
    have ih := numsB_no hx h32 (ns := r)
    rw [numsB, List.flatMap_cons, List.cons_append, List.mem_cons, List.mem_append] at h
    rcases h with h | h | h
    · exact h32 h
    · exact itoa_no hx h
    · exact ih h
theorem cut_nums : ∀ (w : List UInt8) (ns : List Int), (32 : UInt8) ∉ w → cutB 32 (w ++ numsB ns) = w :: ns.map Lib.itoa
  | w, [], h => by simp [numsB, cutB_none h]
  | w, n :: r, h => by
    rw [show numsB (n :: r) = 32 :: (Lib.itoa n ++ numsB r) by simp [numsB], cutB_app _ h, cut_nums (Lib.itoa n) r (itoa_no (by decide))]
    rfl
def joinL (l : List (List UInt8)) : List UInt8 := l.flatMap (· ++ [10])
theorem joinL_app (a b : List (List UInt8)) : joinL (a ++ b) = joinL a ++ joinL b := by simp [joinL]
theorem cut_join : ∀ {l : List (List UInt8)}, (∀ a ∈ l, (10 : UInt8) ∉ a) → cutB 10 (joinL l) = l ++ [[]]
  | [], _ => rfl
  | a :: r, h => by
    rw [show joinL (a :: r) = a ++ 10 :: joinL r by simp [joinL], cutB_app _ (h a (by simp)), cut_join (fun b hb => h b (by simp [hb]))]
    rfl
def catL (f : Nat → List (List UInt8)) : Nat → List (List UInt8)
  | 0 => []
  | n + 1 => catL f n ++ f n
theorem join_cat (f : Nat → List (List UInt8)) : ∀ n, joinL (catL f n) = catB (fun k => joinL (f k)) n
  | 0 => rfl
  | n + 1 => by rw [catL, joinL_app, join_cat f n, catB]
theorem mem_cat {f : Nat → List (List UInt8)} {a : List UInt8} : ∀ {n : Nat}, a ∈ catL f n → ∃ k, k < n ∧ a ∈ f k
  | 0, h => by simp [catL] at h
  | n + 1, h => by
    rcases List.mem_append.1 h with h | h
    · obtain ⟨k, hk, ha⟩ := mem_cat h; exact ⟨k, by omega, ha⟩
    · exact ⟨n, by omega, h⟩
theorem catB_congr {f g : Nat → List UInt8} : ∀ {n : Nat}, (∀ k, k < n → f k = g k) → catB f n = catB g n
  | 0, _ => rfl
  | n + 1, h => by rw [catB, catB, catB_congr (fun k hk => h k (by omega)), h n (by omega)]
def wNow : List UInt8 := [110, 111, 119]
def wCpu : List UInt8 := [99, 112, 117]
def wShelf : List UInt8 := [115, 104, 101, 108, 102]
def wBand : List UInt8 := [98, 97, 110, 100]
def wGroup : List UInt8 := [103, 114, 111, 117, 112]
def wTask : List UInt8 := [116, 97, 115, 107]
def cpuNs (x : CpuM) : List Int := [bitM x.up, x.cur, x.ran, x.busy, x.idle]
def shelfNs (k c : Nat) (x : ShelfM) : List Int := [(k : Int), (c : Int), x.floor, bitM x.on, x.v, x.w, x.sum]
def groupNs (k : Nat) (x : GroupM) : List Int := [(k : Int), x.parent, x.weight, x.cpus, x.period, x.next, x.sum]
def taskNs (t : Nat) (x : TaskM) : List Int := [(t : Int), x.st, x.gr, x.cpu, x.nice, x.mask, x.v, x.sum, x.used, x.load]
def groupL (M : WorldM) (k : Nat) : List (List UInt8) :=
  lineC (wGroup ++ 32 :: nameT M k) (groupNs k (grp M k)) :: (catL (fun c => [lineC wShelf (shelfNs k c (she M k c))]) (grp M k).shelves.length ++ if 0 < (grp M k).band.quota then [lineC wBand (bandN k (grp M k).band (grp M k).band.locals.length)] else [])
def groupsL (M : WorldM) : Nat → List (List UInt8) := catL fun k => if (grp M k).used = true then groupL M k else []
def tasksL (M : WorldM) : Nat → List (List UInt8) := catL fun t => if (tsk M t).st = 0 then [] else [lineC wTask (taskNs t (tsk M t))]
def bodyL (M : WorldM) : List (List UInt8) := [lineC wNow [M.now]] ++ catL (fun c => [lineC wCpu (cpuNs (cpo M c))]) M.cpus.length ++ groupsL M M.groups.length ++ tasksL M M.tasks.length
theorem join_one (w : List UInt8) (ns : List Int) : joinL [lineC w ns] = lineB w ns := by simp [joinL, lineC, lineB]
theorem body_join (M : WorldM) : joinL (bodyL M) = bodyT M := by
  rw [bodyL, joinL_app, joinL_app, joinL_app, join_one, join_cat, groupsL, join_cat, tasksL, join_cat]
  have e1 : catB (fun c => joinL [lineC wCpu (cpuNs (cpo M c))]) M.cpus.length = catB (cpuT M) M.cpus.length := catB_congr fun k _ => join_one _ _
  have e2 : catB (fun k => joinL (if (grp M k).used = true then groupL M k else [])) M.groups.length = groupsT M M.groups.length := catB_congr fun k _ => by
    by_cases hu : (grp M k).used = true
    · rw [if_pos hu, if_pos hu, groupL, show ∀ (a : List UInt8) l, a :: l = [a] ++ l from fun _ _ => rfl, joinL_app, joinL_app, join_one, join_cat, groupT, List.append_assoc]
      have e3 : catB (fun c => joinL [lineC wShelf (shelfNs k c (she M k c))]) (grp M k).shelves.length = catB (shelfT M k) (grp M k).shelves.length := catB_congr fun c _ => join_one _ _
      rw [e3]
      have e4 : joinL (if 0 < (grp M k).band.quota then [lineC wBand (bandN k (grp M k).band (grp M k).band.locals.length)] else []) = bandT k (grp M k).band := by
        unfold bandT
        split
        · exact join_one _ _
        · rfl
      rw [e4]
      have e5 : lineB (wGroup ++ 32 :: nameT M k) (groupNs k (grp M k)) = headT M k := by simp [headT, wGroup, groupNs]
      rw [e5]
    · rw [if_neg hu, if_neg hu]; rfl
  have e4 : catB (fun t => joinL (if (tsk M t).st = 0 then [] else [lineC wTask (taskNs t (tsk M t))])) M.tasks.length = tasksT M M.tasks.length := catB_congr fun t _ => by
    by_cases hs : (tsk M t).st = 0
    · rw [if_pos hs, if_pos hs]; rfl
    · rw [if_neg hs, if_neg hs]; exact join_one _ _
  rw [e1, e2, e4]
  rfl
def smal (n : Int) : Prop := -999999999999999999 ≤ n ∧ n ≤ 999999999999999999
structure NumS (M : WorldM) : Prop where
  nowF : ∀ n ∈ [M.now], smal n
  cpuF : ∀ c, c < M.cpus.length → ∀ n ∈ cpuNs (cpo M c), smal n
  grpF : ∀ k, k < 8 → (grp M k).used = true → ∀ n ∈ groupNs k (grp M k), smal n
  sheF : ∀ k c : Nat, k < 8 → (grp M k).used = true → c < (grp M k).shelves.length → ∀ n ∈ shelfNs k c (she M k c), smal n
  bandF : ∀ k, k < 8 → (grp M k).used = true → 0 < (grp M k).band.quota → ∀ n ∈ bandN k (grp M k).band (grp M k).band.locals.length, smal n
  tskF : ∀ t, t < M.tasks.length → (tsk M t).st ≠ 0 → ∀ n ∈ taskNs t (tsk M t), smal n
theorem numS_of {M : WorldM} (h : worldB M = true) (hx : NextOk M) : NumS M := by
  have F := facts_of h
  simp only [worldB, worldH, worldL, shelvesB, cpusB, Bool.and_eq_true, beq_iff_eq, inR_iff] at h
  obtain ⟨⟨⟨⟨⟨h1, h2⟩, h3⟩, h4⟩, h5⟩, ⟨h6, h7⟩, h8, h9⟩ := h
  have hl8 := F.tree.len
  refine ⟨?_, fun c hc => ?_, fun k hk hu => ?_, fun k c hk hu hc => ?_, fun k hk hu hq => ?_, fun t ht hst => ?_⟩
  · intro n hn; simp at hn; subst hn; unfold smal; omega
  · have q := List.all_eq_true.1 h9 c (List.mem_range.2 hc)
    have b := bitM_bd (cpo M c).up
    simp only [cpuB, cpuHead, Bool.and_eq_true, timeB, inR_iff] at q
    obtain ⟨⟨⟨q1, q2⟩, q3⟩, q4⟩ := q
    have hr : 0 ≤ (cpo M c).ran ∧ (cpo M c).ran ≤ 149 := by
      split at q4
      · simp at q4; omega
      · simp only [Bool.and_eq_true, inR_iff] at q4; omega
    intro n hn
    simp [cpuNs] at hn
    unfold smal
    rcases hn with rfl | rfl | rfl | rfl | rfl <;> omega
  · have q := List.all_eq_true.1 h6 k (List.mem_range.2 hk)
    rw [groupB, if_pos hu] at q
    simp only [grpU, Bool.and_eq_true, timeB, inR_iff] at q
    obtain ⟨⟨⟨⟨⟨⟨q1, q2⟩, q3⟩, q4⟩, q5⟩, q6⟩, q7⟩ := q
    have hp : -1 ≤ (grp M k).parent ∧ (grp M k).parent ≤ 8 := by
      by_cases h0 : k = 0
      · subst h0; have := F.tree.rpar; omega
      · obtain ⟨p1, p2, _⟩ := F.tree.up k hk hu h0; omega
    have hn9 := hx k (by omega)
    have hpn : 0 ≤ (grp M k).period ∧ (grp M k).period ≤ 1000 ∧ 0 ≤ (grp M k).next ∧ (grp M k).next ≤ M.now + 1000 := by
      rw [grpQ] at q7
      split at q7
      · simp at q7; omega
      · simp only [Bool.and_eq_true, inR_iff, decide_eq_true_eq] at q7
        obtain ⟨⟨⟨_, z1⟩, z2⟩, z3⟩ := q7
        have z4 := IntWalk.wrap64_in ((grp M k).next - M.now) ⟨by omega, by omega⟩
        omega
    intro n hn
    simp [groupNs] at hn
    unfold smal
    rcases hn with rfl | rfl | rfl | rfl | rfl | rfl | rfl <;> omega
  · have q1 := List.all_eq_true.1 h8 k (List.mem_range.2 hk)
    have q2 := List.all_eq_true.1 q1 c (List.mem_range.2 hc)
    have b := bitM_bd (she M k c).on
    have hcc : c < M.cpus.length := by rw [F.gok.she k hk hu] at hc; exact hc
    have := F.c4
    simp only [shelfB, shelfB1, Bool.and_eq_true, timeB, inR_iff] at q2
    intro n hn
    simp [shelfNs] at hn
    unfold smal
    rcases hn with rfl | rfl | rfl | rfl | rfl | rfl | rfl <;> omega
  · have q := F.band k hk hu (by omega)
    simp only [bandB, bandHead, Bool.and_eq_true, inR_iff] at q
    have key : ∀ n, n ≤ (grp M k).band.locals.length → ∀ m ∈ bandN k (grp M k).band n, smal m := by
      intro n
      induction n with
      | zero =>
        intro _ m hm
        simp [bandN, pairsN] at hm
        unfold smal
        rcases hm with rfl | rfl | rfl | rfl <;> omega
      | succ n ih =>
        intro hn m hm
        rw [bandN, pairsN, ← List.append_assoc, List.mem_append] at hm
        rcases hm with hm | hm
        · exact ih (by omega) m hm
        · have lc := lcB_bd (List.all_eq_true.1 q.1.2 n (List.mem_range.2 (by omega)))
          have b := bitM_bd ((grp M k).band.dry.getD n false)
          rw [List.mem_cons, List.mem_singleton] at hm
          unfold smal
          rcases hm with rfl | rfl <;> omega
    exact key _ (Nat.le_refl _)
  · have q := List.all_eq_true.1 h7 t (List.mem_range.2 ht)
    rw [taskB, if_neg hst] at q
    simp only [taskB1, taskB2, Bool.and_eq_true, timeB, inR_iff, Bool.or_eq_true, beq_iff_eq, Bool.not_eq_true', beq_eq_false_iff_ne] at q
    obtain ⟨⟨⟨⟨⟨⟨q1, q2⟩, q3⟩, q4⟩, q5⟩, ⟨⟨⟨q6, q7⟩, q8⟩, q9⟩, q10⟩, q11⟩ := q
    have hw := wof_in q3
    obtain ⟨g, c, hg, hg8, _, hc, hcl⟩ := F.tk t (by omega) hst
    have := F.c4
    intro n hn
    simp [taskNs] at hn
    unfold smal
    rcases hn with rfl | rfl | rfl | rfl | rfl | rfl | rfl | rfl | rfl | rfl <;> omega
end
end Go.Proofs.YtomllcclallcdaaGreatDoor
namespace Go.Proofs.YtomllcclallcdaaGreatDoor
section
def blankM : WorldM := ⟨0, [], List.replicate 12 task0, List.replicate 8 group0⟩
structure Rd (L : WorldM → List UInt8 → Option WorldM) : Prop where
  now : ∀ (X : WorldM) (n : Int), smal n → L X (lineC wNow [n]) = some { X with now := n }
  cpu : ∀ (X : WorldM) (x : CpuM), (∀ n ∈ cpuNs x, smal n) → X.cpus.length < 4 → L X (lineC wCpu (cpuNs x)) = some { X with cpus := X.cpus ++ [x] }
  group : ∀ (X : WorldM) (k : Nat) (y : GroupM) (nm : List UInt8), k < 8 → X.groups.length = 8 → (∀ n ∈ groupNs k y, smal n) → (k = 0 ∧ nm = [45] ∧ y.name = .empty ∨ k ≠ 0 ∧ nm = y.name.data.toList ∧ nameB y.name = true) →
    y.used = true → y.shelves = [] → y.band = band0 → L X (lineC (wGroup ++ 32 :: nm) (groupNs k y)) = some (setG X k y)
  shelf : ∀ (X : WorldM) (k : Nat) (x : ShelfM), k < 8 → X.groups.length = 8 → (grp X k).used = true → (grp X k).shelves.length < 4 → (∀ n ∈ shelfNs k (grp X k).shelves.length x, smal n) →
    L X (lineC wShelf (shelfNs k (grp X k).shelves.length x)) = some (setG X k { grp X k with shelves := (grp X k).shelves ++ [x] })
  band : ∀ (X : WorldM) (k : Nat) (b : BandM), k < 8 → X.groups.length = 8 → (grp X k).used = true → b.locals.length = X.cpus.length → b.dry.length = X.cpus.length → X.cpus.length ≤ 4 → (∀ n ∈ bandN k b b.locals.length, smal n) →
    L X (lineC wBand (bandN k b b.locals.length)) = some (setG X k { grp X k with band := b })
  task : ∀ (X : WorldM) (t : Nat) (y : TaskM), t < 12 → X.tasks.length = 12 → (∀ n ∈ taskNs t y, smal n) → L X (lineC wTask (taskNs t y)) = some { X with tasks := X.tasks.set t y }
theorem cat_read {L : WorldM → List UInt8 → Option WorldM} {f : Nat → List (List UInt8)} {S : Nat → WorldM} : ∀ n : Nat, (∀ k, k < n → (f k).foldlM L (S k) = some (S (k + 1))) → (catL f n).foldlM L (S 0) = some (S n)
  | 0, _ => rfl
  | n + 1, h => by
    rw [catL, List.foldlM_append, cat_read n fun k hk => h k (by omega)]
    exact h n (by omega)
def upTo {α : Type} (L : List α) (z : α) (k : Nat) : List α := L.take k ++ List.replicate (L.length - k) z
theorem upTo_len {α : Type} (L : List α) (z : α) {k : Nat} (h : k ≤ L.length) : (upTo L z k).length = L.length := by simp [upTo]; omega
theorem upTo_zero {α : Type} (L : List α) (z : α) : upTo L z 0 = List.replicate L.length z := by simp [upTo]
theorem upTo_all {α : Type} (L : List α) (z : α) : upTo L z L.length = L := by simp [upTo]
theorem upTo_get {α : Type} (L : List α) (z : α) {k : Nat} (h : k < L.length) : (upTo L z k)[k]? = some z := by
  rw [upTo, List.getElem?_append_right (by simp; omega)]
  simp only [List.length_take, List.getElem?_replicate]
  rw [if_pos (by omega)]
theorem upTo_set {α : Type} (L : List α) (z : α) {k : Nat} (h : k < L.length) : (upTo L z k).set k L[k] = upTo L z (k + 1) := by
  apply List.ext_getElem?
  intro i
  rw [List.getElem?_set]
  by_cases e : k = i
  · subst e
    rw [if_pos rfl, if_pos (by rw [upTo_len L z (by omega)]; exact h), upTo, List.getElem?_append_left (by simp; omega), List.getElem?_take, if_pos (by omega), List.getElem?_eq_getElem h]
  · rw [if_neg e]
    unfold upTo
    by_cases hi : i < k
    · rw [List.getElem?_append_left (by simp; omega), List.getElem?_append_left (by simp; omega), List.getElem?_take, List.getElem?_take, if_pos hi, if_pos (by omega)]
    · rw [List.getElem?_append_right (by simp; omega), List.getElem?_append_right (by simp; omega)]
      simp only [List.length_take, List.getElem?_replicate]
      split <;> split <;> first | rfl | omega
theorem upTo_same {α : Type} (L : List α) (z : α) {k : Nat} (h : k < L.length) (hz : L[k] = z) : upTo L z k = upTo L z (k + 1) := by
  rw [← upTo_set L z h, hz]
  apply List.ext_getElem?
  intro i
  rw [List.getElem?_set]
  by_cases e : k = i
  · subst e; rw [if_pos rfl, upTo_get L z h]; split <;> first | rfl | (rename_i x; exact absurd (by rw [upTo_len L z (by omega)]; exact h) x)
  · rw [if_neg e]
theorem name_nil {s : ByteArray} (h : s.toList.isEmpty = true) : s = .empty := by
  rw [List.isEmpty_iff, ByteArray.toList_eq] at h
  cases s with
  | mk d => cases d with
    | mk l => simp at h; subst h; rfl
theorem noBand_eq {x : BandM} (h : noBand x = true) : x = band0 := by
  obtain ⟨a, b, c, l, d⟩ := x
  simp only [noBand, Bool.and_eq_true, beq_iff_eq] at h
  obtain ⟨⟨⟨⟨h1, h2⟩, h3⟩, h4⟩, h5⟩ := h
  obtain rfl : l = [] := List.length_eq_zero_iff.1 (by omega)
  obtain rfl : d = [] := List.length_eq_zero_iff.1 (by omega)
  subst h1; subst h2; subst h3
  rfl
theorem grpZ_eq {x : GroupM} (h : grpZ x = true) (hu : x.used = false) : x = group0 := by
  obtain ⟨u, p, n, w, c, pe, ne, s, b, sh⟩ := x
  simp only [grpZ, Bool.and_eq_true, beq_iff_eq] at h
  obtain ⟨⟨⟨⟨⟨⟨⟨⟨h1, h2⟩, h3⟩, h4⟩, h5⟩, h6⟩, h7⟩, h8⟩, h9⟩ := h
  obtain rfl : sh = [] := List.length_eq_zero_iff.1 (by omega)
  have h2' := name_nil h2
  have h9' := noBand_eq h9
  simp only at hu h1 h3 h4 h5 h6 h7
  subst hu h1 h2' h3 h4 h5 h6 h7 h9'
  rfl
theorem zeroT_eq {x : TaskM} (h : zeroT x = true) : x = task0 := by
  obtain ⟨a, b, c, d, e, f, g, i, j⟩ := x
  simp only [zeroT, Bool.and_eq_true, beq_iff_eq] at h
  obtain ⟨⟨⟨⟨⟨⟨⟨⟨h1, h2⟩, h3⟩, h4⟩, h5⟩, h6⟩, h7⟩, h8⟩, h9⟩ := h
  subst h1 h2 h3 h4 h5 h6 h7 h8 h9
  rfl
theorem setG_setG (X : WorldM) (k : Nat) (y z : GroupM) : setG (setG X k y) k z = setG X k z := by simp [setG]
theorem grp_setG_same {X : WorldM} {k : Nat} (h : k < X.groups.length) (y : GroupM) : grp (setG X k y) k = y := by simp [grp, setG, h]
section
variable {L : WorldM → List UInt8 → Option WorldM} (hL : Rd L) {M : WorldM} (h : worldB M = true) (hx : NextOk M)
def grpS (M : WorldM) (k : Nat) : WorldM := ⟨M.now, M.cpus, List.replicate 12 task0, upTo M.groups group0 k⟩
include hL h hx
theorem read_cpus : (catL (fun c => [lineC wCpu (cpuNs (cpo M c))]) M.cpus.length).foldlM L { blankM with now := M.now } = some (grpS M 0) := by
  have F := facts_of h
  have N := numS_of h hx
  have key := cat_read (L := L) (f := fun c => [lineC wCpu (cpuNs (cpo M c))]) (S := fun c => { blankM with now := M.now, cpus := M.cpus.take c }) M.cpus.length fun c hc => by
    have h4 := F.c4
    have hlen : (M.cpus.take c).length = c := by simp; omega
    show (L _ _ >>= fun s => pure s) = _
    rw [hL.cpu _ _ (N.cpuF c hc) (by show (M.cpus.take c).length < 4; omega)]
    show some _ = some _
    rw [List.take_succ_eq_append_getElem hc, show cpo M c = M.cpus[c] by simp [cpo, hc]]
  rw [List.take_length] at key
  rw [grpS, upTo_zero, F.tree.len]
  exact key
theorem read_group {k : Nat} (hk : k < M.groups.length) (hu : (grp M k).used = true) : (groupL M k).foldlM L (grpS M k) = some (grpS M (k + 1)) := by
  have F := facts_of h
  have N := numS_of h hx
  have h8 := F.tree.len
  have hk8 : k < 8 := by omega
  have hX : (grpS M k).groups.length = 8 := by rw [grpS]; rw [upTo_len _ _ (by omega)]; exact h8
  have hXk : k < (grpS M k).groups.length := by omega
  have hsh := F.gok.she k hk8 hu
  have h4 := F.c4
  have hB := h
  simp only [worldB, worldH, worldL, shelvesB, cpusB, Bool.and_eq_true, beq_iff_eq, inR_iff] at hB
  obtain ⟨⟨⟨⟨⟨_, _⟩, _⟩, ht⟩, _⟩, ⟨hg, _⟩, _, _⟩ := hB
  have hgk := List.all_eq_true.1 hg k (List.mem_range.2 (by omega))
  rw [groupB, if_pos hu, Bool.and_eq_true] at hgk
  simp only [treeB, Bool.and_eq_true] at ht
  have hnm : k = 0 ∧ nameT M k = [45] ∧ (grp M k).name = .empty ∨ k ≠ 0 ∧ nameT M k = (grp M k).name.data.toList ∧ nameB (grp M k).name = true := by
    by_cases h0 : k = 0
    · subst h0; exact .inl ⟨rfl, rfl, name_nil ht.1.2⟩
    · refine .inr ⟨h0, by rw [nameT, if_neg h0], ?_⟩
      have q := List.all_eq_true.1 ht.2 k (List.mem_range.2 hk8)
      rw [show (k == 0) = false by simpa using h0, Bool.false_or, nodeB, hu] at q
      simp only [Bool.not_true, Bool.false_or, Bool.and_eq_true] at q
      exact q.1.1
  have e0 : ∀ y : GroupM, grp (setG (grpS M k) k y) k = y := fun y => grp_setG_same hXk y
  have el : ∀ y : GroupM, (setG (grpS M k) k y).groups.length = 8 := fun y => by rw [setG]; simp [hX]
  have qg : L (grpS M k) (lineC (wGroup ++ 32 :: nameT M k) (groupNs k (grp M k))) = some (setG (grpS M k) k { grp M k with band := band0, shelves := [] }) := hL.group (grpS M k) k { grp M k with band := band0, shelves := [] } (nameT M k) hk8 hX (N.grpF k hk8 hu) hnm hu rfl rfl
  rw [groupL, List.foldlM_cons, qg]
  show List.foldlM L _ _ = _
  rw [List.foldlM_append]
  have key := cat_read (L := L) (f := fun c => [lineC wShelf (shelfNs k c (she M k c))]) (S := fun c => setG (grpS M k) k { grp M k with band := band0, shelves := (grp M k).shelves.take c }) (grp M k).shelves.length fun c hc => by
    have hlen : ((grp M k).shelves.take c).length = c := by simp; omega
    have q := hL.shelf (setG (grpS M k) k { grp M k with band := band0, shelves := (grp M k).shelves.take c }) k (she M k c) hk8 (el _) (by rw [e0]; exact hu) (by rw [e0]; show ((grp M k).shelves.take c).length < 4; omega) (by rw [e0]; show ∀ n ∈ shelfNs k ((grp M k).shelves.take c).length _, _; rw [hlen]; exact N.sheF k c hk8 hu hc)
    rw [e0, setG_setG] at q
    have q2 : L (setG (grpS M k) k { grp M k with band := band0, shelves := (grp M k).shelves.take c }) (lineC wShelf (shelfNs k ((grp M k).shelves.take c).length (she M k c))) = _ := q
    rw [hlen] at q2
    show (L _ _ >>= fun s => pure s) = _
    rw [q2]
    show some _ = some _
    rw [List.take_succ_eq_append_getElem hc, show she M k c = (grp M k).shelves[c] by simp [she, hc]]
  rw [List.take_length] at key
  have key2 : List.foldlM L (setG (grpS M k) k { grp M k with band := band0, shelves := [] }) (catL (fun c => [lineC wShelf (shelfNs k c (she M k c))]) (grp M k).shelves.length) = _ := key
  rw [key2]
  show List.foldlM L _ _ = _
  have hfin : setG (grpS M k) k (grp M k) = grpS M (k + 1) := by
    rw [setG, grpS]
    show (⟨_, _, _, _⟩ : WorldM) = ⟨_, _, _, _⟩
    rw [← grp_eq hk, upTo_set _ _ hk]
  by_cases hq : 0 < (grp M k).band.quota
  · have hb := F.band k hk8 hu (by omega)
    have hgl := hgk.2
    rw [grpQ, if_neg (by omega)] at hgl
    simp only [bandB, bandHead, Bool.and_eq_true, inR_iff, beq_iff_eq] at hb hgl
    have hll : (grp M k).band.locals.length = M.cpus.length := by omega
    have q := hL.band (setG (grpS M k) k { grp M k with band := band0 }) k (grp M k).band hk8 (el _) (by rw [e0]; exact hu) hll (by have := hb.1.1.1.1.2; show _ = M.cpus.length; omega) h4 (N.bandF k hk8 hu hq)
    rw [e0, setG_setG] at q
    rw [if_pos hq]
    show (L _ _ >>= fun s => pure s) = _
    have q2 : L (setG (grpS M k) k { grp M k with band := band0 }) (lineC wBand (bandN k (grp M k).band (grp M k).band.locals.length)) = some (setG (grpS M k) k (grp M k)) := q
    rw [q2, hfin]
    rfl
  · rw [if_neg hq]
    have hz : (grp M k).band = band0 := by
      by_cases h0 : (grp M k).band.quota = 0
      · have := hgk.2
        rw [grpQ, if_pos h0] at this
        simp only [Bool.and_eq_true] at this
        exact noBand_eq this.1.1
      · have hb := F.band k hk8 hu h0
        simp only [bandB, bandHead, Bool.and_eq_true, inR_iff] at hb
        omega
    show some _ = some _
    rw [← hfin]
    congr 2
    rw [← hz]
theorem read_back : (bodyL M).foldlM L blankM = some M := by
  have F := facts_of h
  have N := numS_of h hx
  have h8 := F.tree.len
  have h12 := F.t12
  have hB := h
  simp only [worldB, worldH, worldL, shelvesB, cpusB, Bool.and_eq_true, beq_iff_eq, inR_iff] at hB
  obtain ⟨⟨⟨⟨⟨_, _⟩, _⟩, _⟩, _⟩, ⟨hg, htk⟩, _, _⟩ := hB
  rw [bodyL, List.foldlM_append, List.foldlM_append, List.foldlM_append]
  have e1 : List.foldlM L blankM [lineC wNow [M.now]] = some { blankM with now := M.now } := by
    show (L _ _ >>= fun s => pure s) = _
    rw [hL.now _ _ (N.nowF M.now (by simp))]
    rfl
  rw [e1]
  show (List.foldlM L _ _ >>= fun s => _) >>= _ = _
  have e2 := read_cpus hL h hx
  rw [e2]
  show List.foldlM L _ _ >>= _ = _
  have e3 : (groupsL M M.groups.length).foldlM L (grpS M 0) = some (grpS M M.groups.length) := cat_read (S := grpS M) _ fun k hk => by
    by_cases hu : (grp M k).used = true
    · rw [if_pos hu]; exact read_group hL h hx hk hu
    · rw [if_neg hu]
      show some _ = some _
      have hgk := List.all_eq_true.1 hg k (List.mem_range.2 (by omega))
      rw [groupB, if_neg hu] at hgk
      have hz := grpZ_eq hgk (by simpa using hu)
      rw [grpS, grpS, upTo_same _ _ hk (by rw [grp_eq hk, hz])]
  rw [e3]
  show List.foldlM L _ _ = _
  have e4 := cat_read (L := L) (f := fun t => if (tsk M t).st = 0 then [] else [lineC wTask (taskNs t (tsk M t))]) (S := fun t => (⟨M.now, M.cpus, upTo M.tasks task0 t, M.groups⟩ : WorldM)) M.tasks.length fun t ht => by
    by_cases hs : (tsk M t).st = 0
    · rw [if_pos hs]
      show some _ = some _
      have q := List.all_eq_true.1 htk t (List.mem_range.2 ht)
      rw [taskB, if_pos hs] at q
      have hz := zeroT_eq q
      rw [upTo_same _ _ ht (by rw [← hz]; simp [tsk, ht])]
    · rw [if_neg hs]
      show (L _ _ >>= fun s => pure s) = _
      rw [hL.task _ t _ (by omega) (by show (upTo M.tasks task0 t).length = 12; rw [upTo_len _ _ (by omega)]; exact h12) (N.tskF t ht hs)]
      show some _ = some _
      rw [← upTo_set _ _ ht, show tsk M t = M.tasks[t] by simp [tsk, ht]]
  rw [upTo_all, upTo_zero, h12] at e4
  rw [grpS, upTo_all, tasksL, h12]
  exact e4
end
end
end Go.Proofs.YtomllcclallcdaaGreatDoor
namespace Go.Proofs.YtomllcclallcdaaGreatDoor
section
theorem nDig_le : ∀ (k u : Nat), u < 10 ^ (k + 1) → Lib.nDigits u ≤ k + 1
  | 0, u, h => by rw [Lib.nDigits_small (by simpa using h)]; exact Nat.le_refl _
  | k + 1, u, h => by
    by_cases h1 : u < 10
    · rw [Lib.nDigits_small h1]; omega
    · rw [Lib.nDigits_big h1]
      have := nDig_le k (u / 10) (by rw [Nat.pow_succ] at h; omega)
      omega
theorem dig_val {d : Nat} (h : d < 10) : Lib.digitVal (dgt d) = some d := by
  have e : (dgt d).toNat = 48 + d := by unfold dgt; rw [UInt8.toNat_ofNat']; omega
  unfold Lib.digitVal
  rw [e, if_pos (by omega)]
  congr 1
  omega
theorem decFrom_snoc {d : Nat} (h : d < 10) : ∀ {a : List UInt8} {acc n : Nat}, Lib.decFrom acc a = some n → Lib.decFrom acc (a ++ [dgt d]) = some (n * 10 + d)
  | [], acc, n, hn => by
    simp only [Lib.decFrom, Option.some.injEq] at hn
    subst hn
    simp [Lib.decFrom, dig_val h]
  | b :: r, acc, n, hn => by
    simp only [Lib.decFrom, List.cons_append] at hn ⊢
    split at hn
    · exact decFrom_snoc h hn
    · cases hn
theorem decFrom_dec (u : Nat) : Lib.decFrom 0 (Lib.decDigits u) = some u := by
  induction u using Nat.strongRecOn with
  | _ u ih =>
    by_cases h : u < 10
    · rw [dec_one h]; simp [Lib.decFrom, dig_val h]
    · rw [dec_big h, decFrom_snoc (Nat.mod_lt _ (by omega)) (ih (u / 10) (by omega))]
      congr 1
      omega
theorem dec_head {u : Nat} (h : 1 ≤ u) : ∃ b r, Lib.decDigits u = b :: r ∧ b ≠ 48 := by
  induction u using Nat.strongRecOn with
  | _ u ih =>
    by_cases h1 : u < 10
    · refine ⟨_, _, dec_one h1, fun e => ?_⟩
      have e2 : (dgt u).toNat = 48 + u := by unfold dgt; rw [UInt8.toNat_ofNat']; omega
      rw [e] at e2
      have : (48 : UInt8).toNat = 48 := rfl
      omega
    · obtain ⟨b, r, e, hb⟩ := ih (u / 10) (by omega) (by omega)
      exact ⟨b, r ++ [dgt (u % 10)], by rw [dec_big h1, e]; rfl, hb⟩
theorem dec_size {u : Nat} (h : u ≤ 999999999999999999) : 1 ≤ (Lib.decDigits u).length ∧ (Lib.decDigits u).length ≤ 18 := by
  rw [Lib.decDigits_length]
  exact ⟨Lib.nDigits_pos u, nDig_le 17 u (by omega)⟩
def belowB (l : List UInt8) : Bool := decide (1 < l.length) && (l.headD 0 == 45)
def restB (l : List UInt8) : List UInt8 := if belowB l = true then l.drop 1 else l
def goodB (l : List UInt8) : Bool := inR (restB l).length 1 18 && (!(decide (1 < (restB l).length) && ((restB l).headD 0 == 48)) && !(belowB l && (restB l == [48])))
def numS (l : List UInt8) : Option Int := if goodB l = true then (Lib.decFrom 0 (restB l)).map fun (m : Nat) => if belowB l = true then -(m : Int) else (m : Int) else none
theorem numS_itoa {n : Int} (h : smal n) : numS (Lib.itoa n) = some n := by
  unfold smal at h
  by_cases h0 : n < 0
  · have e : Lib.itoa n = 45 :: Lib.decDigits n.natAbs := by unfold Lib.itoa; rw [if_pos h0]
    obtain ⟨b, r, eh, hb⟩ := dec_head (u := n.natAbs) (by omega)
    have hs := dec_size (u := n.natAbs) (by omega)
    have hbl : belowB (Lib.itoa n) = true := by rw [e, belowB]; simp; omega
    have hr : restB (Lib.itoa n) = Lib.decDigits n.natAbs := by rw [restB, if_pos hbl, e]; rfl
    have hg : goodB (Lib.itoa n) = true := by
      rw [goodB, hr, hbl]
      have i1 : inR ((Lib.decDigits n.natAbs).length : Int) 1 18 = true := by rw [inR_iff]; omega
      rw [i1, eh]
      simp [hb]
    rw [numS, if_pos hg, hr, decFrom_dec, hbl]
    show some _ = some _
    simp only [if_true]
    congr 1
    omega
  · have e : Lib.itoa n = Lib.decDigits n.toNat := by unfold Lib.itoa; rw [if_neg h0]
    have hs := dec_size (u := n.toNat) (by omega)
    have hbl : belowB (Lib.itoa n) = false := by
      rw [e, belowB]
      cases hd : Lib.decDigits n.toNat with
      | nil => simp
      | cons b r =>
        have := dec_in (u := n.toNat) (b := b) (by rw [hd]; simp)
        have hne : b ≠ 45 := fun x => by rw [x] at this; have : (45 : UInt8).toNat = 45 := rfl; omega
        simp [hne]
    have hr : restB (Lib.itoa n) = Lib.decDigits n.toNat := by rw [restB, hbl, e]; rfl
    have hg : goodB (Lib.itoa n) = true := by
      rw [goodB, hr, hbl]
      have i1 : inR ((Lib.decDigits n.toNat).length : Int) 1 18 = true := by rw [inR_iff]; omega
      rw [i1]
      by_cases h1 : n.toNat < 10
      · rw [dec_one h1]; simp
      · obtain ⟨b, r, eh, hb⟩ := dec_head (u := n.toNat) (by omega)
        rw [eh]
        simp [hb]
    rw [numS, if_pos hg, hr, decFrom_dec, hbl]
    show some _ = some _
    simp only [Bool.false_eq_true, if_false]
    congr 1
    omega
def atoiO (l : List UInt8) : Option Int := match Lib.atoiAll l with
  | .ok v => some v
  | _ => none
theorem decFrom_le : ∀ {l : List UInt8} {acc n : Nat}, Lib.decFrom acc l = some n → acc ≤ n
  | [], acc, n, h => by simp only [Lib.decFrom, Option.some.injEq] at h; omega
  | b :: r, acc, n, h => by
    simp only [Lib.decFrom] at h
    split at h
    · have := decFrom_le h; omega
    · cases h
theorem parse_of : ∀ {l : List UInt8} {acc n : Nat}, Lib.decFrom acc l = some n → n ≤ 999999999999999999 → Lib.parseUint10 acc l = .ok n
  | [], acc, n, h, _ => by simp only [Lib.decFrom, Option.some.injEq] at h; subst h; rfl
  | b :: r, acc, n, h, hn => by
    simp only [Lib.decFrom, Lib.digitVal] at h
    by_cases hd : 48 ≤ b.toNat ∧ b.toNat ≤ 57
    · rw [if_pos hd] at h
      have h2 : Lib.decFrom (acc * 10 + (b.toNat - 48)) r = some n := h
      have hle := decFrom_le h2
      rw [Lib.parseUint10, if_pos hd, if_neg (by omega), if_neg (by omega)]
      exact parse_of h2 hn
    · rw [if_neg hd] at h; cases h
theorem atoiO_itoa {n : Int} (h : smal n) : atoiO (Lib.itoa n) = some n := by
  unfold smal at h
  by_cases h0 : n < 0
  · have e : Lib.itoa n = 45 :: Lib.decDigits n.natAbs := by unfold Lib.itoa; rw [if_pos h0]
    have hs := dec_size (u := n.natAbs) (by omega)
    have hp : Lib.parseMag (Lib.decDigits n.natAbs) = .ok n.natAbs := by
      rw [Lib.parseMag, if_neg (fun x => by rw [x] at hs; simp at hs)]
      exact parse_of (decFrom_dec _) (by omega)
    have h45 : (45 : UInt8).toNat = 45 := rfl
    unfold atoiO
    rw [e]
    simp only [Lib.atoiAll, h45]
    simp only [or_true, if_true, hp]
    simp only [not_true_eq_false, false_and, if_false, true_and]
    rw [if_neg (by omega)]
    show some _ = some _
    congr 1
    omega
  · have e : Lib.itoa n = Lib.decDigits n.toNat := by unfold Lib.itoa; rw [if_neg h0]
    have hs := dec_size (u := n.toNat) (by omega)
    have hp : Lib.parseMag (Lib.decDigits n.toNat) = .ok n.toNat := by
      rw [Lib.parseMag, if_neg (fun x => by rw [x] at hs; simp at hs)]
      exact parse_of (decFrom_dec _) (by omega)
    unfold atoiO
    rw [e]
    cases hd : Lib.decDigits n.toNat with
    | nil => rw [hd] at hs; simp at hs
    | cons b r =>
      have hb := dec_in (u := n.toNat) (b := b) (by rw [hd]; simp)
      rw [hd] at hp
      simp only [Lib.atoiAll]
      have n43 : ¬ (b.toNat = 43 ∨ b.toNat = 45) := by omega
      have n45 : ¬ b.toNat = 45 := by omega
      rw [if_neg n43, hp]
      simp only [n45]
      simp only [not_false_eq_true, true_and, false_and, if_false]
      rw [if_neg (by omega)]
      show some _ = some _
      congr 1
      omega
def numsO (num : List UInt8 → Option Int) : List (List UInt8) → Option (List Int)
  | [] => some []
  | w :: r => match num w with
    | some n => (numsO num r).map (n :: ·)
    | none => none
theorem numsO_itoa {num : List UInt8 → Option Int} (h : ∀ n, smal n → num (Lib.itoa n) = some n) : ∀ {ns : List Int}, (∀ n ∈ ns, smal n) → numsO num (ns.map Lib.itoa) = some ns
  | [], _ => rfl
  | n :: r, hn => by
    rw [List.map_cons, numsO, h n (hn n (by simp)), numsO_itoa h (ns := r) fun m hm => hn m (by simp [hm])]
    rfl
def gI (l : List Int) (i : Nat) : Int := l.getD i 0
def cpuOf (l : List Int) : CpuM := ⟨gI l 0 == 1, gI l 1, gI l 2, gI l 3, gI l 4⟩
def shelfOf (l : List Int) : ShelfM := ⟨gI l 2, gI l 3 == 1, gI l 4, gI l 5, gI l 6⟩
def groupOf (nm : ByteArray) (l : List Int) : GroupM := ⟨true, gI l 1, nm, gI l 2, gI l 3, gI l 4, gI l 5, gI l 6, band0, []⟩
def taskOf (l : List Int) : TaskM := ⟨gI l 1, gI l 2, gI l 3, gI l 4, gI l 5, gI l 6, gI l 7, gI l 8, gI l 9⟩
def bandOf (l : List Int) (n : Nat) : BandM := ⟨gI l 1, gI l 2, gI l 3, (List.range n).map fun i => gI l (4 + 2 * i), (List.range n).map fun i => gI l (5 + 2 * i) == 1⟩
def addS (X : WorldM) (k : Nat) (l : List Int) : WorldM := setG X k { grp X k with shelves := (grp X k).shelves ++ [shelfOf l] }
def numsN (ws : List (List UInt8)) (many : Nat) : Option (List Int) := if ws.length = many then numsO numS ws else none
def lineW (X : WorldM) (ws : List (List UInt8)) : Option WorldM :=
  if ws.headD [] = wNow then (numsN ws.tail 1).map fun l => { X with now := gI l 0 }
  else if ws.headD [] = wCpu then (numsN ws.tail 5).bind fun l => if X.cpus.length = 4 then none else some { X with cpus := X.cpus ++ [cpuOf l] }
  else if ws.headD [] = wGroup then (if ws.length = 9 then (numsN (ws.drop 2) 7).bind fun l => if inR (gI l 0) 0 7 = true then some (setG X (gI l 0).toNat (groupOf (if gI l 0 = 0 then .empty else strB (ws.getD 1 [])) l)) else none else none)
  else if ws.headD [] = wShelf then (numsN ws.tail 7).bind fun l => if (usedI X (gI l 0) && !((grp X (gI l 0).toNat).shelves.length == 4)) = true then some (addS X (gI l 0).toNat l) else none
  else if ws.headD [] = wBand then (numsN ws.tail (4 + 2 * X.cpus.length)).bind fun l => if usedI X (gI l 0) = true then some (setG X (gI l 0).toNat { grp X (gI l 0).toNat with band := bandOf l X.cpus.length }) else none
  else if ws.headD [] = wTask then (numsN ws.tail 10).bind fun l => if inR (gI l 0) 0 11 = true then some { X with tasks := X.tasks.set (gI l 0).toNat (taskOf l) } else none
  else none
def lineSp (X : WorldM) (line : List UInt8) : Option WorldM := lineW X (cutB 32 line)
def kindIm (X : WorldM) (wd nm : List UInt8) (l : List Int) : Option WorldM :=
  if wd = wNow then (if l.length = 1 then some { X with now := gI l 0 } else none)
  else if wd = wCpu then (if l.length = 5 ∧ X.cpus.length ≠ 4 then some { X with cpus := X.cpus ++ [cpuOf l] } else none)
  else if wd = wGroup then (if l.length = 7 ∧ inR (gI l 0) 0 7 = true then some (setG X (gI l 0).toNat (groupOf (if nm = [45] then .empty else strB nm) l)) else none)
  else if wd = wShelf then (if l.length = 7 ∧ inR (gI l 0) 0 7 = true ∧ gI l 1 = (grp X (gI l 0).toNat).shelves.length ∧ gI l 1 < 4 then some (addS X (gI l 0).toNat l) else none)
  else if wd = wBand then (if 4 ≤ l.length ∧ l.length % 2 = 0 ∧ l.length ≤ 12 ∧ inR (gI l 0) 0 7 = true then some (setG X (gI l 0).toNat { grp X (gI l 0).toNat with band := bandOf l ((l.length - 4) / 2) }) else none)
  else if wd = wTask then (if l.length = 10 ∧ inR (gI l 0) 0 11 = true then some { X with tasks := X.tasks.set (gI l 0).toNat (taskOf l) } else none)
  else none
def lineIm (X : WorldM) (line : List UInt8) : Option WorldM :=
  if (cutB 32 line).headD [] = wGroup then (if (cutB 32 line).tail = [] then none else (numsO atoiO (cutB 32 line).tail.tail).bind (kindIm X wGroup ((cutB 32 line).tail.headD [])))
  else (numsO atoiO (cutB 32 line).tail).bind (kindIm X ((cutB 32 line).headD []) [])
theorem bitM_eq (b : Bool) : (bitM b == 1) = b := by cases b <;> rfl
theorem pairs_at (x : BandM) : ∀ (n i : Nat), i < n → (pairsN x n).getD (2 * i) 0 = x.locals.getD i 0 ∧ (pairsN x n).getD (2 * i + 1) 0 = bitM (x.dry.getD i false)
  | 0, i, h => by omega
  | n + 1, i, h => by
    have hl : ∀ n, (pairsN x n).length = 2 * n := fun n => by
      induction n with
      | zero => rfl
      | succ n ih => rw [pairsN, List.length_append, ih]; simp; omega
    have e : pairsN x (n + 1) = pairsN x n ++ [x.locals.getD n 0, bitM (x.dry.getD n false)] := rfl
    by_cases hi : i < n
    · obtain ⟨h1, h2⟩ := pairs_at x n i hi
      have g1 : (pairsN x (n + 1)).getD (2 * i) 0 = (pairsN x n).getD (2 * i) 0 := by
        rw [List.getD_eq_getElem?_getD, List.getD_eq_getElem?_getD, e, List.getElem?_append_left (by rw [hl]; omega)]
      have g2 : (pairsN x (n + 1)).getD (2 * i + 1) 0 = (pairsN x n).getD (2 * i + 1) 0 := by
        rw [List.getD_eq_getElem?_getD, List.getD_eq_getElem?_getD, e, List.getElem?_append_left (by rw [hl]; omega)]
      exact ⟨g1.trans h1, g2.trans h2⟩
    · obtain rfl : i = n := by omega
      have g1 : (pairsN x (i + 1)).getD (2 * i) 0 = x.locals.getD i 0 := by
        rw [List.getD_eq_getElem?_getD, e, List.getElem?_append_right (by rw [hl]; omega), hl, Nat.sub_self]; rfl
      have g2 : (pairsN x (i + 1)).getD (2 * i + 1) 0 = bitM (x.dry.getD i false) := by
        rw [List.getD_eq_getElem?_getD, e, List.getElem?_append_right (by rw [hl]; omega), hl, show 2 * i + 1 - 2 * i = 1 by omega]; rfl
      exact ⟨g1, g2⟩
theorem pairs_len (x : BandM) : ∀ n, (pairsN x n).length = 2 * n
  | 0 => rfl
  | n + 1 => by rw [pairsN, List.length_append, pairs_len x n]; simp; omega
theorem bdN_len (k : Nat) (b : BandM) (n : Nat) : (bandN k b n).length = 4 + 2 * n := by rw [bandN, List.length_append, pairs_len]; simp
theorem band_back (k : Nat) (b : BandM) (h : b.dry.length = b.locals.length) : bandOf (bandN k b b.locals.length) b.locals.length = b := by
  have e : ∀ i, gI (bandN k b b.locals.length) (4 + i) = (pairsN b b.locals.length).getD i 0 := fun i => by
    rw [gI, bandN, List.getD_eq_getElem?_getD, List.getElem?_append_right (by simp), List.getD_eq_getElem?_getD]
    simp
  have e1 : (List.range b.locals.length).map (fun i => gI (bandN k b b.locals.length) (4 + 2 * i)) = b.locals := by
    apply List.ext_getElem
    · simp
    · intro i h1 h2
      simp only [List.getElem_map, List.getElem_range]
      rw [e, (pairs_at b _ i h2).1]
      simp [h2]
  have e2 : (List.range b.locals.length).map (fun i => gI (bandN k b b.locals.length) (5 + 2 * i) == 1) = b.dry := by
    apply List.ext_getElem
    · simp [h]
    · intro i h1 h2
      simp only [List.getElem_map, List.getElem_range]
      rw [show 5 + 2 * i = 4 + (2 * i + 1) by omega, e, (pairs_at b _ i (by omega)).2, bitM_eq]
      simp [h2]
  rw [bandOf, e1, e2]
  rfl
theorem name_sp {nm : List UInt8} {k : Nat} {y : GroupM} (h : k = 0 ∧ nm = [45] ∧ y.name = .empty ∨ k ≠ 0 ∧ nm = y.name.data.toList ∧ nameB y.name = true) : (32 : UInt8) ∉ nm := by
  rcases h with ⟨_, rfl, _⟩ | ⟨_, rfl, h⟩
  · decide
  · intro hm
    simp only [nameB, Bool.and_eq_true] at h
    have q := List.all_eq_true.1 h.2 _ hm
    revert q
    decide
theorem name_dash {nm : List UInt8} {k : Nat} {y : GroupM} (h : k = 0 ∧ nm = [45] ∧ y.name = .empty ∨ k ≠ 0 ∧ nm = y.name.data.toList ∧ nameB y.name = true) : (if nm = [45] then ByteArray.empty else strB nm) = y.name := by
  rcases h with ⟨_, rfl, h⟩ | ⟨_, rfl, h⟩
  · rw [if_pos rfl, h]
  · rw [if_neg ?_]
    · rfl
    · intro e
      simp only [nameB, Bool.and_eq_true] at h
      have q := List.all_eq_true.1 h.2 45 (by rw [e]; simp)
      revert q
      decide
theorem name_zero {nm : List UInt8} {k : Nat} {y : GroupM} (h : k = 0 ∧ nm = [45] ∧ y.name = .empty ∨ k ≠ 0 ∧ nm = y.name.data.toList ∧ nameB y.name = true) : (if (k : Int) = 0 then ByteArray.empty else strB nm) = y.name := by
  rcases h with ⟨rfl, rfl, h⟩ | ⟨h0, rfl, h⟩
  · rw [if_pos (by rfl), h]
  · rw [if_neg (by omega)]; rfl
theorem cut_line {w : List UInt8} {ns : List Int} (h : (32 : UInt8) ∉ w) : cutB 32 (lineC w ns) = w :: ns.map Lib.itoa := cut_nums w ns h
theorem cut_group {nm : List UInt8} {ns : List Int} (h : (32 : UInt8) ∉ nm) : cutB 32 (lineC (wGroup ++ 32 :: nm) ns) = wGroup :: nm :: ns.map Lib.itoa := by
  rw [lineC, List.append_assoc, List.cons_append, cutB_app _ (by decide), cut_nums nm ns h]
theorem group_back {k : Nat} {y : GroupM} (hu : y.used = true) (hs : y.shelves = []) (hb : y.band = band0) : groupOf y.name (groupNs k y) = y := by
  obtain ⟨u, p, n, w, c, pe, ne, s, b, sh⟩ := y
  simp only at hu hs hb
  subst hu hs hb
  rfl
theorem rd_sp : Rd lineSp := by
  refine ⟨fun X n hn => ?_, fun X x hn hl => ?_, fun X k y nm hk hX hn hm hu hs hb => ?_, fun X k x hk hX hu hl hn => ?_, fun X k b hk hX hu h1 h2 h3 hn => ?_, fun X t y ht hX hn => ?_⟩
  · rw [lineSp, cut_line (by decide), lineW]
    have e : numsN (([n] : List Int).map Lib.itoa) 1 = some [n] := numsO_itoa (fun _ h => numS_itoa h) (by simpa using hn)
    show (if wNow = wNow then (numsN (([n] : List Int).map Lib.itoa) 1).map _ else _) = _
    rw [if_pos rfl, e]
    rfl
  · rw [lineSp, cut_line (by decide), lineW]
    have e : numsN ((cpuNs x).map Lib.itoa) 5 = some (cpuNs x) := numsO_itoa (fun _ h => numS_itoa h) hn
    show (if wCpu = wNow then _ else if wCpu = wCpu then (numsN ((cpuNs x).map Lib.itoa) 5).bind _ else _) = _
    rw [if_neg (by decide), if_pos rfl, e]
    show (if X.cpus.length = 4 then none else some _) = _
    rw [if_neg (by omega)]
    have e2 : cpuOf (cpuNs x) = x := by
      show (⟨bitM x.up == 1, _, _, _, _⟩ : CpuM) = x
      rw [bitM_eq]
      rfl
    rw [e2]
  · rw [lineSp, cut_group (name_sp hm), lineW]
    have e : numsN ((groupNs k y).map Lib.itoa) 7 = some (groupNs k y) := numsO_itoa (fun _ h => numS_itoa h) hn
    show (if wGroup = wNow then _ else if wGroup = wCpu then _ else if wGroup = wGroup then (if (9 : Nat) = 9 then (numsN ((groupNs k y).map Lib.itoa) 7).bind _ else _) else _) = _
    rw [if_neg (by decide), if_neg (by decide), if_pos rfl, if_pos rfl, e]
    show (if inR (k : Int) 0 7 = true then some (setG X (k : Int).toNat (groupOf (if (k : Int) = 0 then .empty else strB nm) _)) else none) = _
    rw [if_pos (by rw [inR_iff]; omega), name_zero hm, group_back hu hs hb]
    rfl
  · rw [lineSp, cut_line (by decide), lineW]
    have e : numsN ((shelfNs k (grp X k).shelves.length x).map Lib.itoa) 7 = some (shelfNs k (grp X k).shelves.length x) := numsO_itoa (fun _ h => numS_itoa h) hn
    show (if wShelf = wNow then _ else if wShelf = wCpu then _ else if wShelf = wGroup then _ else if wShelf = wShelf then (numsN ((shelfNs k (grp X k).shelves.length x).map Lib.itoa) 7).bind _ else _) = _
    rw [if_neg (by decide), if_neg (by decide), if_neg (by decide), if_pos rfl, e]
    show (if (usedI X (k : Int) && !((grp X (k : Int).toNat).shelves.length == 4)) = true then some (addS X (k : Int).toNat _) else none) = _
    rw [if_pos]
    · show some (setG X k { grp X k with shelves := (grp X k).shelves ++ [shelfOf (shelfNs k _ x)] }) = _
      have e2 : shelfOf (shelfNs k (grp X k).shelves.length x) = x := by
        show (⟨_, bitM x.on == 1, _, _, _⟩ : ShelfM) = x
        rw [bitM_eq]
        rfl
      rw [e2]
    · rw [Int.toNat_natCast, usedI, Int.toNat_natCast, hu]
      simp
      omega
  · rw [lineSp, cut_line (by decide), lineW]
    have e : numsN ((bandN k b b.locals.length).map Lib.itoa) (4 + 2 * X.cpus.length) = some (bandN k b b.locals.length) := by
      rw [numsN, if_pos (by rw [List.length_map, bdN_len, h1])]
      exact numsO_itoa (fun _ h => numS_itoa h) hn
    show (if wBand = wNow then _ else if wBand = wCpu then _ else if wBand = wGroup then _ else if wBand = wShelf then _ else if wBand = wBand then (numsN ((bandN k b b.locals.length).map Lib.itoa) (4 + 2 * X.cpus.length)).bind _ else _) = _
    rw [if_neg (by decide), if_neg (by decide), if_neg (by decide), if_neg (by decide), if_pos rfl, e]
    show (if usedI X (k : Int) = true then some (setG X (k : Int).toNat { grp X (k : Int).toNat with band := bandOf _ X.cpus.length }) else none) = _
    rw [if_pos (by rw [usedI, Int.toNat_natCast, hu]; simp; omega), Int.toNat_natCast, ← h1, band_back k b (by omega)]
  · rw [lineSp, cut_line (by decide), lineW]
    have e : numsN ((taskNs t y).map Lib.itoa) 10 = some (taskNs t y) := numsO_itoa (fun _ h => numS_itoa h) hn
    show (if wTask = wNow then _ else if wTask = wCpu then _ else if wTask = wGroup then _ else if wTask = wShelf then _ else if wTask = wBand then _ else if wTask = wTask then (numsN ((taskNs t y).map Lib.itoa) 10).bind _ else _) = _
    rw [if_neg (by decide), if_neg (by decide), if_neg (by decide), if_neg (by decide), if_neg (by decide), if_pos rfl, e]
    show (if inR (t : Int) 0 11 = true then some { X with tasks := X.tasks.set (t : Int).toNat (taskOf (taskNs t y)) } else none) = _
    rw [if_pos (by rw [inR_iff]; omega)]
    rfl
theorem rd_im : Rd lineIm := by
  refine ⟨fun X n hn => ?_, fun X x hn hl => ?_, fun X k y nm hk hX hn hm hu hs hb => ?_, fun X k x hk hX hu hl hn => ?_, fun X k b hk hX hu h1 h2 h3 hn => ?_, fun X t y ht hX hn => ?_⟩
  · rw [lineIm, cut_line (by decide)]
    have e : numsO atoiO (([n] : List Int).map Lib.itoa) = some [n] := numsO_itoa (fun _ h => atoiO_itoa h) (by simpa using hn)
    show (if wNow = wGroup then _ else (numsO atoiO _).bind _) = _
    rw [if_neg (by decide), List.tail_cons, e]
    rfl
  · rw [lineIm, cut_line (by decide)]
    have e : numsO atoiO ((cpuNs x).map Lib.itoa) = some (cpuNs x) := numsO_itoa (fun _ h => atoiO_itoa h) hn
    show (if wCpu = wGroup then _ else (numsO atoiO _).bind _) = _
    rw [if_neg (by decide), List.tail_cons, e]
    show kindIm X wCpu [] (cpuNs x) = _
    rw [kindIm, if_neg (by decide), if_pos rfl, if_pos ⟨rfl, by omega⟩]
    have e2 : cpuOf (cpuNs x) = x := by
      show (⟨bitM x.up == 1, _, _, _, _⟩ : CpuM) = x
      rw [bitM_eq]
      rfl
    rw [e2]
  · rw [lineIm, cut_group (name_sp hm)]
    have e : numsO atoiO ((groupNs k y).map Lib.itoa) = some (groupNs k y) := numsO_itoa (fun _ h => atoiO_itoa h) hn
    show (if wGroup = wGroup then (if nm :: (groupNs k y).map Lib.itoa = [] then none else (numsO atoiO ((groupNs k y).map Lib.itoa)).bind (kindIm X wGroup nm)) else _) = _
    rw [if_pos rfl, if_neg (by simp), e]
    show kindIm X wGroup nm (groupNs k y) = _
    rw [kindIm, if_neg (by decide), if_neg (by decide), if_pos rfl, if_pos ⟨rfl, by show inR (k : Int) 0 7 = true; rw [inR_iff]; omega⟩]
    show some (setG X (k : Int).toNat (groupOf (if nm = [45] then .empty else strB nm) _)) = _
    rw [name_dash hm, group_back hu hs hb]
    rfl
  · rw [lineIm, cut_line (by decide)]
    have e : numsO atoiO ((shelfNs k (grp X k).shelves.length x).map Lib.itoa) = some (shelfNs k (grp X k).shelves.length x) := numsO_itoa (fun _ h => atoiO_itoa h) hn
    show (if wShelf = wGroup then _ else (numsO atoiO _).bind _) = _
    rw [if_neg (by decide), List.tail_cons, e]
    show kindIm X wShelf [] (shelfNs k (grp X k).shelves.length x) = _
    rw [kindIm, if_neg (by decide), if_neg (by decide), if_neg (by decide), if_pos rfl, if_pos ⟨rfl, by show inR (k : Int) 0 7 = true; rw [inR_iff]; omega, rfl, by show ((grp X k).shelves.length : Int) < 4; omega⟩]
    show some (setG X k { grp X k with shelves := (grp X k).shelves ++ [shelfOf (shelfNs k _ x)] }) = _
    have e2 : shelfOf (shelfNs k (grp X k).shelves.length x) = x := by
      show (⟨_, bitM x.on == 1, _, _, _⟩ : ShelfM) = x
      rw [bitM_eq]
      rfl
    rw [e2]
  · rw [lineIm, cut_line (by decide)]
    have e : numsO atoiO ((bandN k b b.locals.length).map Lib.itoa) = some (bandN k b b.locals.length) := numsO_itoa (fun _ h => atoiO_itoa h) hn
    show (if wBand = wGroup then _ else (numsO atoiO _).bind _) = _
    rw [if_neg (by decide), List.tail_cons, e]
    show kindIm X wBand [] (bandN k b b.locals.length) = _
    have hl := bdN_len k b b.locals.length
    rw [kindIm, if_neg (by decide), if_neg (by decide), if_neg (by decide), if_neg (by decide), if_pos rfl, if_pos ⟨by omega, by omega, by omega, by show inR (k : Int) 0 7 = true; rw [inR_iff]; omega⟩]
    rw [show ((bandN k b b.locals.length).length - 4) / 2 = b.locals.length by omega, band_back k b (by omega)]
    rfl
  · rw [lineIm, cut_line (by decide)]
    have e : numsO atoiO ((taskNs t y).map Lib.itoa) = some (taskNs t y) := numsO_itoa (fun _ h => atoiO_itoa h) hn
    show (if wTask = wGroup then _ else (numsO atoiO _).bind _) = _
    rw [if_neg (by decide), List.tail_cons, e]
    show kindIm X wTask [] (taskNs t y) = _
    rw [kindIm, if_neg (by decide), if_neg (by decide), if_neg (by decide), if_neg (by decide), if_neg (by decide), if_pos rfl, if_pos ⟨rfl, by show inR (t : Int) 0 11 = true; rw [inR_iff]; omega⟩]
    rfl
end
end Go.Proofs.YtomllcclallcdaaGreatDoor
