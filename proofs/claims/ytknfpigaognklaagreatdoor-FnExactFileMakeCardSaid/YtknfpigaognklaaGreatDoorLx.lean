/- The laws' own helpers: a copy of a world; comparisons. -/
import Derived.Test.YtknfpigaognklaaGreatDoorLt
namespace Go.Proofs.YtknfpigaognklaaGreatDoor
open Go.RowKit
theorem GroupS.but {g : Nat} {w w1 : World} {A : Option Addr} {H : Nat → GH} {L : List GroupM} (h : GroupS w A H L) (hb : But g w w1) (hg : ∀ a, A = some a → a.block ≠ g)
    (hn : ∀ j, j < L.length → (∀ a, (H j).la = some a → a.block ≠ g) ∧ (∀ a, (H j).da = some a → a.block ≠ g) ∧ (∀ a, (H j).sa = some a → a.block ≠ g)) : GroupS w1 A H L :=
  ⟨fun k hk => by
    obtain ⟨b, o, rfl, h0, h1, h2, h3, h4, h5, h6, h7, h8, h9, h10, h11, h12, h13, h14⟩ := h.at_ k hk
    exact ⟨b, o, rfl, by rw [hb.size]; exact h0, (hb.cell (show b ≠ g from hg _ rfl)).trans h1, (hb.cell (show b ≠ g from hg _ rfl)).trans h2, (hb.cell (show b ≠ g from hg _ rfl)).trans h3, (hb.cell (show b ≠ g from hg _ rfl)).trans h4, (hb.cell (show b ≠ g from hg _ rfl)).trans h5, (hb.cell (show b ≠ g from hg _ rfl)).trans h6, (hb.cell (show b ≠ g from hg _ rfl)).trans h7, (hb.cell (show b ≠ g from hg _ rfl)).trans h8, (hb.cell (show b ≠ g from hg _ rfl)).trans h9, (hb.cell (show b ≠ g from hg _ rfl)).trans h10, (hb.cell (show b ≠ g from hg _ rfl)).trans h11, (hb.cell (show b ≠ g from hg _ rfl)).trans h12, (hb.cell (show b ≠ g from hg _ rfl)).trans h13, (hb.cell (show b ≠ g from hg _ rfl)).trans h14⟩, fun k hk => (h.loc k hk).but hb (hn k hk).1, fun k hk => (h.dry k hk).but hb (hn k hk).2.1, fun k hk => (h.she k hk).but hb (hn k hk).2.2⟩
theorem hne {B g : Nat} (hg : B < g) : ∀ a, (some (⟨g, 0, none⟩ : Addr) = some a → a.block ≠ B) := fun a ha => by cases ha; simp; omega
set_option maxRecDepth 100000 in
set_option maxHeartbeats 2000000 in
theorem toWorld_any (h : WH) (M : WorldM) (w : World) (hs : WAt w h M) (hf : WFit M) :
    Calls Tryz.prog 9 #[.agg #[.int .i64 M.now, .slice h.ca M.cpus.length h.cc, .slice h.ta M.tasks.length h.tc, .slice h.ga M.groups.length h.gc]] w (TwPost M w) := by
  obtain ⟨m1, m2, m3, m4⟩ := hf
  have M4 := Lib.hid m4
  clear m4
  go_enter Tryz.func9, Tryz.ntmps9
  go_wp2_with fail
  refine gen3 (p := fun W => Calls _ _ _ W _) ?_
  intro W b1 s1 k0 k1 k2
  refine (toCpuS_any _ _ M.cpus _ m1 (hs.cpu.keep b1)).mono ?_
  rintro e w1 ⟨g1, rfl, hb1, hg1, hs1⟩
  have b2 := b1.andThen hb1
  have j0 := k0.below hb1 k0.lt
  have j1 := k1.below hb1 k1.lt
  have j2 := k2.below hb1 k2.lt
  have c2 := j2.cell 1
  have f3 := fun i => j2.frozen i
  have c4 := j0.cell 2
  have S1 := Lib.hid s1
  have J0 := Lib.hid j0
  have J1 := Lib.hid j1
  have J2 := Lib.hid j2
  clear j0 j1 j2 k0 k1 k2 s1
  simp at c2 c4
  go_wp2_with fail
  refine genSet (p := fun W => Calls _ _ _ W _) J2.out ?_
  intro W2 bt2 q2
  have q0 := bt2.blk J0.out (by omega)
  have q1 := bt2.blk J1.out (by omega)
  have hb3 : Below w.heap.size w W2 := b2.trans (bt2.below (by omega))
  have y1 : w.heap.size + 2 < g1 := by have := S1.out; omega
  have hs1a := hs1.but bt2 (hne y1)
  refine (toTaskS_any _ _ M.tasks _ m2 (hs.task.keep hb3)).mono ?_
  rintro e w3 ⟨g2, rfl, hb4, hg2, hs2⟩
  have y2 : w.heap.size + 2 < g2 := by have := bt2.size; have := hb1.size; have := S1.out; omega
  have hs1b := hs1a.keep hb4
  have hb5 := hb3.andThen hb4
  have r0 := q0.below hb4 q0.lt
  have r1 := q1.below hb4 q1.lt
  have r2 := q2.below hb4 q2.lt
  have c5 := r2.cell 2
  have f5 := fun i => r2.frozen i
  have c6 := r0.cell 3
  have R0 := Lib.hid r0
  have R1 := Lib.hid r1
  have R2 := Lib.hid r2
  clear r0 r1 r2 q0 q1 q2 c2 c4 f3 J0 J1 J2 hs1 hs1a
  simp at c5 c6
  go_wp2_with fail
  refine genSet (p := fun W => Calls _ _ _ W _) R2.out ?_
  intro W4 bt4 q2
  have q0 := bt4.blk R0.out (by omega)
  have q1 := bt4.blk R1.out (by omega)
  have hb6 : Below w.heap.size w W4 := hb5.trans (bt4.below (by omega))
  have hs1c := hs1b.but bt4 (hne y1)
  have hs2c := hs2.but bt4 (hne y2)
  refine (toGroupS_any _ _ h.gh M.groups _ m3 M4.out (hs.group.keep hb6)).mono ?_
  rintro e w5 ⟨g3, H2, rfl, hb7, hg3, hs3, hn3⟩
  have y3 : w.heap.size + 2 < g3 := by have := bt2.size; have := hb1.size; have := hb4.size; have := bt4.size; have := S1.out; omega
  have hs1d := hs1c.keep hb7
  have hs2d := hs2c.keep hb7
  have hb8 := hb6.andThen hb7
  have r1 := q1.below hb7 q1.lt
  have r2 := q2.below hb7 q2.lt
  have d0 := r2.cell 0
  have d1 := r2.cell 1
  have d2 := r2.cell 2
  have d3 := r2.cell 3
  have e0 := r1.cell 0
  have e1 := r1.cell 1
  have e2 := r1.cell 2
  have e3 := r1.cell 3
  have f6 := fun i => r2.frozen i
  have f7 := fun i => r1.frozen i
  simp at d0 d1 d2 d3
  simp at e0 e1 e2 e3
  clear r1 r2 q0 q1 q2 c5 c6 f5 R0 R1 R2
  have HN3 := Lib.hid hn3
  clear hn3
  have N1 := Lib.hid (show ∀ g : Nat, w.heap.size + 2 < g → ∀ a : Addr, some (⟨g, 0, none⟩ : Addr) = some a → a.block ≠ w.heap.size + 1 from fun g hg => hne (by omega))
  have N2 := Lib.hid (show ∀ g : Nat, w.heap.size + 2 < g → ∀ a : Addr, some (⟨g, 0, none⟩ : Addr) = some a → a.block ≠ w.heap.size + 1 + 1 from fun g hg => hne (by omega))
  have N3 := Lib.hid (show ∀ j, j < M.groups.length → (∀ a, (H2 j).la = some a → a.block ≠ w.heap.size + 1) ∧ (∀ a, (H2 j).da = some a → a.block ≠ w.heap.size + 1) ∧ (∀ a, (H2 j).sa = some a → a.block ≠ w.heap.size + 1) from fun j hj => (HN3.out j hj).ne (by omega))
  have N4 := Lib.hid (show ∀ j, j < M.groups.length → (∀ a, (H2 j).la = some a → a.block ≠ w.heap.size + 1 + 1) ∧ (∀ a, (H2 j).da = some a → a.block ≠ w.heap.size + 1 + 1) ∧ (∀ a, (H2 j).sa = some a → a.block ≠ w.heap.size + 1 + 1) from fun j hj => (HN3.out j hj).ne (by omega))
  go_wp2
  refine bodyPost_ret (v := .agg #[.int .i64 M.now, .slice (some ⟨g1, 0, none⟩) M.cpus.length M.cpus.length, .slice (some ⟨g2, 0, none⟩) M.tasks.length M.tasks.length, .slice (some ⟨g3, 0, none⟩) M.groups.length M.groups.length]) (by simp [results, Tryz.results9, go_sem, *]) rfl ⟨⟨some ⟨g1, 0, none⟩, M.cpus.length, some ⟨g2, 0, none⟩, M.tasks.length, some ⟨g3, 0, none⟩, M.groups.length, H2⟩, rfl, ?_, ⟨?_, ?_, ?_⟩⟩
  · exact (((((hb8.setCell (by simp; omega) _).setCell (by simp) _).setCell (by simp) _).setCell (by simp) _).setCell (by simp) _)
  · exact (((((hs1d.but (But.set_ _ _ _ _) (N2.out _ y1)).but (But.set_ _ _ _ _) (N1.out _ y1)).but (But.set_ _ _ _ _) (N1.out _ y1)).but (But.set_ _ _ _ _) (N1.out _ y1)).but (But.set_ _ _ _ _) (N1.out _ y1))
  · exact (((((hs2d.but (But.set_ _ _ _ _) (N2.out _ y2)).but (But.set_ _ _ _ _) (N1.out _ y2)).but (But.set_ _ _ _ _) (N1.out _ y2)).but (But.set_ _ _ _ _) (N1.out _ y2)).but (But.set_ _ _ _ _) (N1.out _ y2))
  · exact (((((hs3.but (But.set_ _ _ _ _) (N2.out _ y3) N4.out).but (But.set_ _ _ _ _) (N1.out _ y3) N3.out).but (But.set_ _ _ _ _) (N1.out _ y3) N3.out).but (But.set_ _ _ _ _) (N1.out _ y3) N3.out).but (But.set_ _ _ _ _) (N1.out _ y3) N3.out)
set_option maxHeartbeats 400000 in
theorem eqBand_any (x : BandM) (h h2 : GH) (w : World) (hf : BFit x) (hl : IntS w h.la x.locals) (hd : BoolS w h.da x.dry) (hl2 : IntS w h2.la x.locals) (hd2 : BoolS w h2.da x.dry) :
    Calls Tryz.prog 156 #[.agg #[.int .i64 x.quota, .int .i64 x.pool, .int .i64 x.spent, .slice h.la x.locals.length h.lc, .slice h.da x.dry.length h.dc], .agg #[.int .i64 x.quota, .int .i64 x.pool, .int .i64 x.spent, .slice h2.la x.locals.length h2.lc, .slice h2.da x.dry.length h2.dc]] w fun e w' => e = .returned (.bool true) ∧ Below w.heap.size w w' := by
  go_enter Tryz.func156, Tryz.ntmps156
  go_wp2_with fail
  refine gen2 (p := fun W => Calls _ _ _ W _) ?_
  intro W b1 s1 k0 k1
  refine (eqIntS_any _ _ _ _ x.locals _ hf.1 (hl.keep b1) (hl2.keep b1)).mono ?_
  rintro e w1 ⟨rfl, hb1⟩
  have b2 := b1.andThen hb1
  have c0 := (k0.below hb1 k0.lt).cell 4
  have c1 := (k1.below hb1 k1.lt).cell 4
  simp at c0 c1
  clear k0 k1
  go_wp2_with fail
  refine (eqBoolS_any _ _ _ _ x.dry _ hf.2 (hd.keep b2) (hd2.keep b2)).mono ?_
  rintro e w2 ⟨rfl, hb2⟩
  go_wp2
  go_ret
  exact ⟨rfl, b2.andThen hb2⟩
set_option maxHeartbeats 1000000 in
theorem eqGroup_any (x : GroupM) (h h2 : GH) (w : World) (hf : GFit x) (hl : IntS w h.la x.band.locals) (hd : BoolS w h.da x.band.dry) (hs : ShelfS w h.sa x.shelves) (hl2 : IntS w h2.la x.band.locals) (hd2 : BoolS w h2.da x.band.dry) (hs2 : ShelfS w h2.sa x.shelves) :
    Calls Tryz.prog 82 #[.agg #[.bool x.used, .int .i64 x.parent, .string x.name, .int .i64 x.weight, .int .i64 x.cpus, .int .i64 x.period, .int .i64 x.next, .int .i64 x.sum, .int .i64 x.band.quota, .int .i64 x.band.pool, .int .i64 x.band.spent, .slice h.la x.band.locals.length h.lc, .slice h.da x.band.dry.length h.dc, .slice h.sa x.shelves.length h.sc], .agg #[.bool x.used, .int .i64 x.parent, .string x.name, .int .i64 x.weight, .int .i64 x.cpus, .int .i64 x.period, .int .i64 x.next, .int .i64 x.sum, .int .i64 x.band.quota, .int .i64 x.band.pool, .int .i64 x.band.spent, .slice h2.la x.band.locals.length h2.lc, .slice h2.da x.band.dry.length h2.dc, .slice h2.sa x.shelves.length h2.sc]] w fun e w' => e = .returned (.bool true) ∧ Below w.heap.size w w' := by
  go_enter Tryz.func82, Tryz.ntmps82
  go_wp2_with fail
  refine gen2 (p := fun W => Calls _ _ _ W _) ?_
  intro W b1 s1 k0 k1
  refine (eqBand_any x.band h h2 _ hf.2.1 (hl.keep b1) (hd.keep b1) (hl2.keep b1) (hd2.keep b1)).mono ?_
  rintro e w1 ⟨rfl, hb1⟩
  have b2 := b1.andThen hb1
  have c0 := (k0.below hb1 k0.lt).cell 13
  have c1 := (k1.below hb1 k1.lt).cell 13
  simp at c0 c1
  clear k0 k1
  go_wp2_with fail
  refine (eqShelfS_any _ _ _ _ x.shelves _ hf.2.2 (hs.keep b2) (hs2.keep b2)).mono ?_
  rintro e w2 ⟨rfl, hb2⟩
  go_wp2
  go_ret
  exact ⟨rfl, b2.andThen hb2⟩
set_option maxRecDepth 100000 in
set_option maxHeartbeats 1000000 in
theorem eqGroupS_any (A B : Option Addr) (cap cap2 : Nat) (H H2 : Nat → GH) (L : List GroupM) (w : World) (hl : L.length ≤ 1048576) (hf : ∀ k (h : k < L.length), GFit L[k]) (hs : GroupS w A H L) (ht : GroupS w B H2 L) :
    Calls Tryz.prog 38 #[.slice A L.length cap, .slice B L.length cap2] w fun e w' => e = .returned (.bool true) ∧ Below w.heap.size w w' := by
  have HF := Lib.hid hf
  clear hf
  go_enter Tryz.func38, Tryz.ntmps38
  go_wp2
  go_loopw [4, 5] (fun r i wr => ∃ k : Nat, k ≤ L.length ∧ i = .int .i64 k ∧ r = .bool false ∧ Below w.heap.size w wr) (fun _ i _ => L.length - (intOf i).toNat)
  case atStart => exact ⟨0, Nat.zero_le _, rfl, rfl, Below.refl _ _⟩
  case round =>
    obtain ⟨k, hk, rfl, rfl, hb⟩ := hrel
    by_cases hlt : k < L.length
    · obtain ⟨b, o, rfl, hB, c0, c1, c2, c3, c4, c5, c6, c7, c8, c9, c10, c11, c12, c13⟩ := (hs.keep hb).at_ k hlt
      obtain ⟨b', o', rfl, hB', c0', c1', c2', c3', c4', c5', c6', c7', c8', c9', c10', c11', c12', c13'⟩ := (ht.keep hb).at_ k hlt
      go_wp2_with fail
      go_still_tail 8, (by kernel_rfl)
      change wpList _ _ _ _ _ wr.drew
      have hb1 := hb.drew
      generalize wr.drew = w2 at *
      go_wp2_with fail
      refine (eqGroup_any L[k] (H k) (H2 k) _ (HF.out k hlt) ((hs.loc k hlt).keep hb1) ((hs.dry k hlt).keep hb1) ((hs.she k hlt).keep hb1) ((ht.loc k hlt).keep hb1) ((ht.dry k hlt).keep hb1) ((ht.she k hlt).keep hb1)).mono ?_
      rintro e w3 ⟨rfl, hb3⟩
      go_wp2
      go_roundw
      case rel => exact ⟨k + 1, by omega, by go_num, rfl, hb1.andThen hb3⟩
      case measure => simp [intOf]; omega
    · go_wp2
      go_ret
      exact ⟨rfl, hb⟩
set_option maxHeartbeats 1000000 in
theorem eqWorld_any (h h2 : WH) (M : WorldM) (w : World) (hf : WFit M) (hs : WAt w h M) (ht : WAt w h2 M) :
    Calls Tryz.prog 11 #[.agg #[.int .i64 M.now, .slice h.ca M.cpus.length h.cc, .slice h.ta M.tasks.length h.tc, .slice h.ga M.groups.length h.gc], .agg #[.int .i64 M.now, .slice h2.ca M.cpus.length h2.cc, .slice h2.ta M.tasks.length h2.tc, .slice h2.ga M.groups.length h2.gc]] w fun e w' => e = .returned (.bool true) ∧ Below w.heap.size w w' := by
  obtain ⟨m1, m2, m3, m4⟩ := hf
  have M4 := Lib.hid m4
  clear m4
  go_enter Tryz.func11, Tryz.ntmps11
  go_wp2_with fail
  refine gen2 (p := fun W => Calls _ _ _ W _) ?_
  intro W b1 s1 k0 k1
  refine (eqCpuS_any _ _ _ _ M.cpus _ m1 (hs.cpu.keep b1) (ht.cpu.keep b1)).mono ?_
  rintro e w1 ⟨rfl, hb1⟩
  have b2 := b1.andThen hb1
  have j0 := k0.below hb1 k0.lt
  have j1 := k1.below hb1 k1.lt
  have c0 := j0.cell 2
  have c1 := j1.cell 2
  simp at c0 c1
  have J0 := Lib.hid j0
  have J1 := Lib.hid j1
  clear k0 k1 j0 j1
  go_wp2_with fail
  refine (eqTaskS_any _ _ _ _ M.tasks _ m2 (hs.task.keep b2) (ht.task.keep b2)).mono ?_
  rintro e w2 ⟨rfl, hb2⟩
  have b3 := b2.andThen hb2
  have d0 := (J0.out.below hb2 J0.out.lt).cell 3
  have d1 := (J1.out.below hb2 J1.out.lt).cell 3
  simp at d0 d1
  clear J0 J1 c0 c1
  go_wp2_with fail
  refine (eqGroupS_any _ _ _ _ h.gh h2.gh M.groups _ m3 M4.out (hs.group.keep b3) (ht.group.keep b3)).mono ?_
  rintro e w3 ⟨rfl, hb3⟩
  go_wp2
  go_ret
  exact ⟨rfl, b3.andThen hb3⟩
end Go.Proofs.YtknfpigaognklaaGreatDoor
