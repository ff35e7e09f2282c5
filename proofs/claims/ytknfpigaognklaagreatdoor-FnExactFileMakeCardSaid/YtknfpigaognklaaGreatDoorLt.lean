/- The laws' own helpers: copies of groups and worlds. -/
import Derived.Test.YtknfpigaognklaaGreatDoorLg
namespace Go.Proofs.YtknfpigaognklaaGreatDoor
open Go.RowKit
def TbPost (x : BandM) (w : World) (e : Ending) (w' : World) : Prop := ∃ g1 g2 : Nat, e = .returned (.agg #[.int .i64 x.quota, .int .i64 x.pool, .int .i64 x.spent, .slice (some ⟨g1, 0, none⟩) x.locals.length x.locals.length, .slice (some ⟨g2, 0, none⟩) x.dry.length x.dry.length]) ∧
  Below w.heap.size w w' ∧ w.heap.size ≤ g1 ∧ w.heap.size ≤ g2 ∧ IntS w' (some ⟨g1, 0, none⟩) x.locals ∧ BoolS w' (some ⟨g2, 0, none⟩) x.dry
set_option maxHeartbeats 1000000 in
theorem toBand_any (x : BandM) (h : GH) (w : World) (hf : BFit x) (hl : IntS w h.la x.locals) (hd : BoolS w h.da x.dry) :
    Calls Tryz.prog 135 #[.agg #[.int .i64 x.quota, .int .i64 x.pool, .int .i64 x.spent, .slice h.la x.locals.length h.lc, .slice h.da x.dry.length h.dc]] w (TbPost x w) := by
  go_enter Tryz.func135, Tryz.ntmps135
  go_wp2_with fail
  refine gen3 (p := fun W => Calls _ _ _ W _) ?_
  intro W b1 s1 k0 k1 k2
  refine (toIntS_any _ _ x.locals _ hf.1 (hl.keep b1)).mono ?_
  rintro e w1 ⟨g1, rfl, hb1, hg1, hs1⟩
  have b2 := b1.andThen hb1
  have j0 := k0.below hb1 k0.lt
  have j1 := k1.below hb1 k1.lt
  have j2 := k2.below hb1 k2.lt
  have c3 := j2.cell 3
  have f3 := j2.frozen 3
  have c4 := j0.cell 4
  have S1 := Lib.hid s1
  have J0 := Lib.hid j0
  have J1 := Lib.hid j1
  have J2 := Lib.hid j2
  clear j0 j1 j2 k0 k1 k2 s1
  simp at c3 c4
  go_wp2_with fail
  refine genSet (p := fun W => Calls _ _ _ W _) J2.out ?_
  intro W2 bt2 q2
  have q0 := bt2.blk J0.out (by omega)
  have q1 := bt2.blk J1.out (by omega)
  have hb3 : Below w.heap.size w W2 := b2.trans (bt2.below (by omega))
  refine (toBoolS_any _ _ x.dry _ hf.2 (hd.keep hb3)).mono ?_
  rintro e w3 ⟨g2, rfl, hb4, hg2, hs2⟩
  have hs1' := (hs1.but bt2 (fun a ha => by cases ha; have := S1.out; simp; omega)).keep hb4
  have r1 := q1.below hb4 q1.lt
  have r2 := q2.below hb4 q2.lt
  have d0 := r2.cell 0
  have d1 := r2.cell 1
  have d2 := r2.cell 2
  have d3 := r2.cell 3
  have d4 := r2.cell 4
  have f4 := r2.frozen 4
  simp at d0 d1 d2 d3 d4
  have e0 := r1.cell 0
  have e1 := r1.cell 1
  have e2 := r1.cell 2
  have e3 := r1.cell 3
  have e4 := r1.cell 4
  simp at e0 e1 e2 e3 e4
  have f5 := fun i => r1.frozen i
  have R1 := Lib.hid r1
  have R2 := Lib.hid r2
  clear r1 r2 q0 q1 q2 c3 f3 c4
  have n1 : ∀ a : Addr, some (⟨g1, 0, none⟩ : Addr) = some a → a.block ≠ w.heap.size + 1 := fun a ha => by cases ha; have := S1.out; simp; omega
  have n2 : ∀ a : Addr, some (⟨g1, 0, none⟩ : Addr) = some a → a.block ≠ w.heap.size + 1 + 1 := fun a ha => by cases ha; have := S1.out; simp; omega
  have z2 : w.heap.size + 2 < g2 := by have := bt2.size; have := hb1.size; have := S1.out; omega
  have n3 : ∀ a : Addr, some (⟨g2, 0, none⟩ : Addr) = some a → a.block ≠ w.heap.size + 1 := fun a ha => by cases ha; simp; omega
  have n4 : ∀ a : Addr, some (⟨g2, 0, none⟩ : Addr) = some a → a.block ≠ w.heap.size + 1 + 1 := fun a ha => by cases ha; simp; omega
  have N1 := Lib.hid n1
  have N2 := Lib.hid n2
  have N3 := Lib.hid n3
  have N4 := Lib.hid n4
  clear n1 n2 n3 n4
  go_wp2
  refine bodyPost_ret (v := .agg #[.int .i64 x.quota, .int .i64 x.pool, .int .i64 x.spent, .slice (some ⟨g1, 0, none⟩) x.locals.length x.locals.length, .slice (some ⟨g2, 0, none⟩) x.dry.length x.dry.length]) (by simp [results, Tryz.results135, go_sem, *]) rfl ⟨g1, g2, rfl, ?_, ?_, ?_, ?_, ?_⟩
  · exact (((((((hb3.andThen hb4).setCell (by simp; omega) _).setCell (by simp) _).setCell (by simp) _).setCell (by simp) _).setCell (by simp) _).setCell (by simp) _)
  · have := S1.out; omega
  · omega
  · exact (((((((hs1'.but (But.set_ _ _ _ _) N2.out).but (But.set_ _ _ _ _) N1.out).but (But.set_ _ _ _ _) N1.out).but (But.set_ _ _ _ _) N1.out).but (But.set_ _ _ _ _) N1.out).but (But.set_ _ _ _ _) N1.out))
  · exact (((((((hs2.but (But.set_ _ _ _ _) N4.out).but (But.set_ _ _ _ _) N3.out).but (But.set_ _ _ _ _) N3.out).but (But.set_ _ _ _ _) N3.out).but (But.set_ _ _ _ _) N3.out).but (But.set_ _ _ _ _) N3.out))
def GNew (B : Nat) (h : GH) : Prop := (∀ a, h.la = some a → B ≤ a.block) ∧ (∀ a, h.da = some a → B ≤ a.block) ∧ (∀ a, h.sa = some a → B ≤ a.block)
def TgPost (x : GroupM) (w : World) (e : Ending) (w' : World) : Prop := ∃ h : GH, e = .returned (.agg #[.bool x.used, .int .i64 x.parent, .string x.name, .int .i64 x.weight, .int .i64 x.cpus, .int .i64 x.period, .int .i64 x.next, .int .i64 x.sum, .int .i64 x.band.quota, .int .i64 x.band.pool, .int .i64 x.band.spent, .slice h.la x.band.locals.length h.lc, .slice h.da x.band.dry.length h.dc, .slice h.sa x.shelves.length h.sc]) ∧
  Below w.heap.size w w' ∧ GNew w.heap.size h ∧ IntS w' h.la x.band.locals ∧ BoolS w' h.da x.band.dry ∧ ShelfS w' h.sa x.shelves
set_option maxRecDepth 100000 in
set_option maxHeartbeats 2000000 in
theorem toGroup_any (x : GroupM) (h : GH) (w : World) (hf : GFit x) (hl : IntS w h.la x.band.locals) (hd : BoolS w h.da x.band.dry) (hsh : ShelfS w h.sa x.shelves) :
    Calls Tryz.prog 73 #[.agg #[.bool x.used, .int .i64 x.parent, .string x.name, .int .i64 x.weight, .int .i64 x.cpus, .int .i64 x.period, .int .i64 x.next, .int .i64 x.sum, .int .i64 x.band.quota, .int .i64 x.band.pool, .int .i64 x.band.spent, .slice h.la x.band.locals.length h.lc, .slice h.da x.band.dry.length h.dc, .slice h.sa x.shelves.length h.sc]] w (TgPost x w) := by
  go_enter Tryz.func73, Tryz.ntmps73
  go_wp2_with fail
  refine gen3 (p := fun W => Calls _ _ _ W _) ?_
  intro W b1 s1 k0 k1 k2
  refine (toBand_any x.band h _ hf.2.1 (hl.keep b1) (hd.keep b1)).mono ?_
  rintro e w1 ⟨g1, g2, rfl, hb1, hg1, hg2, hs1, hs2⟩
  have b2 := b1.andThen hb1
  have j0 := k0.below hb1 k0.lt
  have j1 := k1.below hb1 k1.lt
  have j2 := k2.below hb1 k2.lt
  have c8 := j2.cell 8
  have c9 := j2.cell 9
  have c10 := j2.cell 10
  have c11 := j2.cell 11
  have c12 := j2.cell 12
  have f3 := fun i => j2.frozen i
  have c4 := j0.cell 13
  have S1 := Lib.hid s1
  have J0 := Lib.hid j0
  have J1 := Lib.hid j1
  have J2 := Lib.hid j2
  clear j0 j1 j2 k0 k1 k2 s1
  simp at c8 c9 c10 c11 c12 c4
  go_wp2_with fail
  refine genSet5 (p := fun W => Calls _ _ _ W _) J2.out ?_
  intro W2 bt2 q2
  have q0 := bt2.blk J0.out (by omega)
  have q1 := bt2.blk J1.out (by omega)
  have hb3 : Below w.heap.size w W2 := b2.trans (bt2.below (by omega))
  refine (toShelfS_any _ _ x.shelves _ hf.2.2 (hsh.keep hb3)).mono ?_
  rintro e w3 ⟨g3, rfl, hb4, hg3, hs3⟩
  have hs1' := (hs1.but bt2 (fun a ha => by cases ha; have := S1.out; simp; omega)).keep hb4
  have hs2' := (hs2.but bt2 (fun a ha => by cases ha; have := S1.out; simp; omega)).keep hb4
  have r1 := q1.below hb4 q1.lt
  have r2 := q2.below hb4 q2.lt
  have d0 := r2.cell 0
  have d1 := r2.cell 1
  have d2 := r2.cell 2
  have d3 := r2.cell 3
  have d4 := r2.cell 4
  have d5 := r2.cell 5
  have d6 := r2.cell 6
  have d7 := r2.cell 7
  have d8 := r2.cell 8
  have d9 := r2.cell 9
  have d10 := r2.cell 10
  have d11 := r2.cell 11
  have d12 := r2.cell 12
  have d13 := r2.cell 13
  have f4 := fun i => r2.frozen i
  simp at d0 d1 d2 d3 d4 d5 d6 d7 d8 d9 d10 d11 d12 d13
  have e0 := r1.cell 0
  have e1 := r1.cell 1
  have e2 := r1.cell 2
  have e3 := r1.cell 3
  have e4 := r1.cell 4
  have e5 := r1.cell 5
  have e6 := r1.cell 6
  have e7 := r1.cell 7
  have e8 := r1.cell 8
  have e9 := r1.cell 9
  have e10 := r1.cell 10
  have e11 := r1.cell 11
  have e12 := r1.cell 12
  have e13 := r1.cell 13
  simp at e0 e1 e2 e3 e4 e5 e6 e7 e8 e9 e10 e11 e12 e13
  have f5 := fun i => r1.frozen i
  have R1 := Lib.hid r1
  have R2 := Lib.hid r2
  clear r1 r2 q0 q1 q2 f3 c4 c8 c9 c10 c11 c12
  have z3 : w.heap.size + 2 < g3 := by have := bt2.size; have := hb1.size; have := S1.out; omega
  have N1 := Lib.hid (show ∀ g : Nat, w.heap.size + 2 < g → ∀ a : Addr, some (⟨g, 0, none⟩ : Addr) = some a → a.block ≠ w.heap.size + 1 from fun g hg a ha => by cases ha; simp; omega)
  have N2 := Lib.hid (show ∀ g : Nat, w.heap.size + 2 < g → ∀ a : Addr, some (⟨g, 0, none⟩ : Addr) = some a → a.block ≠ w.heap.size + 1 + 1 from fun g hg a ha => by cases ha; simp; omega)
  have y1 : w.heap.size + 2 < g1 := by have := S1.out; omega
  have y2 : w.heap.size + 2 < g2 := by have := S1.out; omega
  go_wp2
  refine bodyPost_ret (v := .agg #[.bool x.used, .int .i64 x.parent, .string x.name, .int .i64 x.weight, .int .i64 x.cpus, .int .i64 x.period, .int .i64 x.next, .int .i64 x.sum, .int .i64 x.band.quota, .int .i64 x.band.pool, .int .i64 x.band.spent, .slice (some ⟨g1, 0, none⟩) x.band.locals.length x.band.locals.length, .slice (some ⟨g2, 0, none⟩) x.band.dry.length x.band.dry.length, .slice (some ⟨g3, 0, none⟩) x.shelves.length x.shelves.length]) (by simp [results, Tryz.results73, go_sem, *]) rfl ⟨⟨some ⟨g1, 0, none⟩, x.band.locals.length, some ⟨g2, 0, none⟩, x.band.dry.length, some ⟨g3, 0, none⟩, x.shelves.length⟩, rfl, ?_, ⟨?_, ?_, ?_⟩, ?_, ?_, ?_⟩
  · exact ((((((((((((((((hb3.andThen hb4).setCell (by simp; omega) _).setCell (by simp) _).setCell (by simp) _).setCell (by simp) _).setCell (by simp) _).setCell (by simp) _).setCell (by simp) _).setCell (by simp) _).setCell (by simp) _).setCell (by simp) _).setCell (by simp) _).setCell (by simp) _).setCell (by simp) _).setCell (by simp) _).setCell (by simp) _)
  · intro a ha; cases ha; simp; omega
  · intro a ha; cases ha; simp; omega
  · intro a ha; cases ha; simp; omega
  · exact (((((((((((((((hs1'.but (But.set_ _ _ _ _) (N2.out _ y1)).but (But.set_ _ _ _ _) (N1.out _ y1)).but (But.set_ _ _ _ _) (N1.out _ y1)).but (But.set_ _ _ _ _) (N1.out _ y1)).but (But.set_ _ _ _ _) (N1.out _ y1)).but (But.set_ _ _ _ _) (N1.out _ y1)).but (But.set_ _ _ _ _) (N1.out _ y1)).but (But.set_ _ _ _ _) (N1.out _ y1)).but (But.set_ _ _ _ _) (N1.out _ y1)).but (But.set_ _ _ _ _) (N1.out _ y1)).but (But.set_ _ _ _ _) (N1.out _ y1)).but (But.set_ _ _ _ _) (N1.out _ y1)).but (But.set_ _ _ _ _) (N1.out _ y1)).but (But.set_ _ _ _ _) (N1.out _ y1)).but (But.set_ _ _ _ _) (N1.out _ y1))
  · exact (((((((((((((((hs2'.but (But.set_ _ _ _ _) (N2.out _ y2)).but (But.set_ _ _ _ _) (N1.out _ y2)).but (But.set_ _ _ _ _) (N1.out _ y2)).but (But.set_ _ _ _ _) (N1.out _ y2)).but (But.set_ _ _ _ _) (N1.out _ y2)).but (But.set_ _ _ _ _) (N1.out _ y2)).but (But.set_ _ _ _ _) (N1.out _ y2)).but (But.set_ _ _ _ _) (N1.out _ y2)).but (But.set_ _ _ _ _) (N1.out _ y2)).but (But.set_ _ _ _ _) (N1.out _ y2)).but (But.set_ _ _ _ _) (N1.out _ y2)).but (But.set_ _ _ _ _) (N1.out _ y2)).but (But.set_ _ _ _ _) (N1.out _ y2)).but (But.set_ _ _ _ _) (N1.out _ y2)).but (But.set_ _ _ _ _) (N1.out _ y2))
  · exact (((((((((((((((hs3.but (But.set_ _ _ _ _) (N2.out _ z3)).but (But.set_ _ _ _ _) (N1.out _ z3)).but (But.set_ _ _ _ _) (N1.out _ z3)).but (But.set_ _ _ _ _) (N1.out _ z3)).but (But.set_ _ _ _ _) (N1.out _ z3)).but (But.set_ _ _ _ _) (N1.out _ z3)).but (But.set_ _ _ _ _) (N1.out _ z3)).but (But.set_ _ _ _ _) (N1.out _ z3)).but (But.set_ _ _ _ _) (N1.out _ z3)).but (But.set_ _ _ _ _) (N1.out _ z3)).but (But.set_ _ _ _ _) (N1.out _ z3)).but (But.set_ _ _ _ _) (N1.out _ z3)).but (But.set_ _ _ _ _) (N1.out _ z3)).but (But.set_ _ _ _ _) (N1.out _ z3)).but (But.set_ _ _ _ _) (N1.out _ z3))
theorem infoGroup : (Tryz.prog.info? 55).map (fun i => (i.zero, i.size, i.bytes)) = some (some (.agg #[.bool false, .int .i64 0, .string .empty, .int .i64 0, .int .i64 0, .int .i64 0, .int .i64 0, .int .i64 0, .int .i64 0, .int .i64 0, .int .i64 0, .slice none 0 0, .slice none 0 0, .slice none 0 0]), 14, 168) := by kernel_rfl
def GPut (C : Array Value) (H : Nat → GH) (L : List GroupM) (k : Nat) : Prop := ∀ j (h : j < L.length), j < k → C[j * 14]? = some (.bool L[j].used) ∧ C[j * 14 + 1]? = some (.int .i64 L[j].parent) ∧ C[j * 14 + 2]? = some (.string L[j].name) ∧ C[j * 14 + 3]? = some (.int .i64 L[j].weight) ∧ C[j * 14 + 4]? = some (.int .i64 L[j].cpus) ∧ C[j * 14 + 5]? = some (.int .i64 L[j].period) ∧ C[j * 14 + 6]? = some (.int .i64 L[j].next) ∧ C[j * 14 + 7]? = some (.int .i64 L[j].sum) ∧ C[j * 14 + 8]? = some (.int .i64 L[j].band.quota) ∧ C[j * 14 + 9]? = some (.int .i64 L[j].band.pool) ∧ C[j * 14 + 10]? = some (.int .i64 L[j].band.spent) ∧ C[j * 14 + 11]? = some (.slice (H j).la L[j].band.locals.length (H j).lc) ∧ C[j * 14 + 12]? = some (.slice (H j).da L[j].band.dry.length (H j).dc) ∧ C[j * 14 + 13]? = some (.slice (H j).sa L[j].shelves.length (H j).sc)
def GSub (w : World) (B : Nat) (H : Nat → GH) (L : List GroupM) (k : Nat) : Prop := ∀ j (h : j < L.length), j < k → GNew B (H j) ∧ IntS w (H j).la L[j].band.locals ∧ BoolS w (H j).da L[j].band.dry ∧ ShelfS w (H j).sa L[j].shelves
def hset (H : Nat → GH) (k : Nat) (h : GH) : Nat → GH := fun j => if j = k then h else H j
theorem hset_same (H : Nat → GH) (k : Nat) (h : GH) : hset H k h k = h := by simp [hset]
theorem hset_other (H : Nat → GH) {k j : Nat} (h : GH) (hj : j ≠ k) : hset H k h j = H j := by simp [hset, hj]
theorem GPut.step {C : Array Value} {H : Nat → GH} {L : List GroupM} {k : Nat} {h : GH} (hlt : k < L.length) (hC : C.size = L.length * 14) (hp : GPut C H L k) :
    GPut ((((((((((((((C.setIfInBounds (k * 14) (.bool L[k].used)).setIfInBounds (k * 14 + 1) (.int .i64 L[k].parent)).setIfInBounds (k * 14 + 2) (.string L[k].name)).setIfInBounds (k * 14 + 3) (.int .i64 L[k].weight)).setIfInBounds (k * 14 + 4) (.int .i64 L[k].cpus)).setIfInBounds (k * 14 + 5) (.int .i64 L[k].period)).setIfInBounds (k * 14 + 6) (.int .i64 L[k].next)).setIfInBounds (k * 14 + 7) (.int .i64 L[k].sum)).setIfInBounds (k * 14 + 8) (.int .i64 L[k].band.quota)).setIfInBounds (k * 14 + 9) (.int .i64 L[k].band.pool)).setIfInBounds (k * 14 + 10) (.int .i64 L[k].band.spent)).setIfInBounds (k * 14 + 11) (.slice h.la L[k].band.locals.length h.lc)).setIfInBounds (k * 14 + 12) (.slice h.da L[k].band.dry.length h.dc)).setIfInBounds (k * 14 + 13) (.slice h.sa L[k].shelves.length h.sc)) (hset H k h) L (k + 1) := by
  intro j hj hjk
  by_cases e : j = k
  · subst e
    rw [hset_same]
    refine ⟨?_, ?_, ?_, ?_, ?_, ?_, ?_, ?_, ?_, ?_, ?_, ?_, ?_, ?_⟩ <;> simp [Array.getElem?_setIfInBounds, hC] <;> omega
  · rw [hset_other _ _ e]
    obtain ⟨p0, p1, p2, p3, p4, p5, p6, p7, p8, p9, p10, p11, p12, p13⟩ := hp j hj (by omega)
    refine ⟨?_, ?_, ?_, ?_, ?_, ?_, ?_, ?_, ?_, ?_, ?_, ?_, ?_, ?_⟩ <;> simp only [Array.getElem?_setIfInBounds] <;> repeat (rw [if_neg (by omega)])
    all_goals assumption
theorem GSub.step {w : World} {B : Nat} {H : Nat → GH} {L : List GroupM} {k : Nat} {h : GH} (hp : GSub w B H L k)
    (hn : ∀ hk : k < L.length, GNew B h ∧ IntS w h.la L[k].band.locals ∧ BoolS w h.da L[k].band.dry ∧ ShelfS w h.sa L[k].shelves) : GSub w B (hset H k h) L (k + 1) := by
  intro j hj hjk
  by_cases e : j = k
  · subst e; rw [hset_same]; exact hn hj
  · rw [hset_other _ _ e]; exact hp j hj (by omega)
theorem GSub.keep {w w1 : World} {B : Nat} {H : Nat → GH} {L : List GroupM} {k : Nat} (hp : GSub w B H L k) (hb : Below w.heap.size w w1) : GSub w1 B H L k := fun j hj hjk => by
  obtain ⟨h0, h1, h2, h3⟩ := hp j hj hjk
  exact ⟨h0, h1.keep hb, h2.keep hb, h3.keep hb⟩
theorem GNew.ne {B g : Nat} {h : GH} (hn : GNew B h) (hg : g < B) : (∀ a, h.la = some a → a.block ≠ g) ∧ (∀ a, h.da = some a → a.block ≠ g) ∧ (∀ a, h.sa = some a → a.block ≠ g) :=
  ⟨fun a ha => by have := hn.1 a ha; omega, fun a ha => by have := hn.2.1 a ha; omega, fun a ha => by have := hn.2.2 a ha; omega⟩
theorem GNew.mono {B B' : Nat} {h : GH} (hn : GNew B h) (hg : B' ≤ B) : GNew B' h :=
  ⟨fun a ha => by have := hn.1 a ha; omega, fun a ha => by have := hn.2.1 a ha; omega, fun a ha => by have := hn.2.2 a ha; omega⟩
theorem GSub.but {w w1 : World} {B g : Nat} {H : Nat → GH} {L : List GroupM} {k : Nat} (hp : GSub w B H L k) (hb : But g w w1) (hg : g < B) : GSub w1 B H L k := fun j hj hjk => by
  obtain ⟨h0, h1, h2, h3⟩ := hp j hj hjk
  obtain ⟨n1, n2, n3⟩ := h0.ne hg
  exact ⟨h0, h1.but hb n1, h2.but hb n2, h3.but hb n3⟩
theorem group_put {w : World} {g B : Nat} {C : Array Value} {H : Nat → GH} {L : List GroupM} {t : TypeId} (hb : Blk w g t C) (h : GPut C H L L.length) (hs : GSub w B H L L.length) : GroupS w (some ⟨g, 0, none⟩) H L := ⟨fun k hk => by
  obtain ⟨p0, p1, p2, p3, p4, p5, p6, p7, p8, p9, p10, p11, p12, p13⟩ := h k hk hk
  refine ⟨g, 0, rfl, hb.lt, ?_, ?_, ?_, ?_, ?_, ?_, ?_, ?_, ?_, ?_, ?_, ?_, ?_, ?_⟩ <;> (rw [hb.cell]; simp only [Nat.zero_add]; assumption), fun k hk => (hs k hk hk).2.1, fun k hk => (hs k hk hk).2.2.1, fun k hk => (hs k hk hk).2.2.2⟩
def TgsPost (L : List GroupM) (w : World) (e : Ending) (w' : World) : Prop := ∃ (g : Nat) (H : Nat → GH), e = .returned (.slice (some ⟨g, 0, none⟩) L.length L.length) ∧
  Below w.heap.size w w' ∧ w.heap.size ≤ g ∧ GroupS w' (some ⟨g, 0, none⟩) H L ∧ ∀ j, j < L.length → GNew (g + 1) (H j)
set_option maxRecDepth 100000 in
set_option maxHeartbeats 2000000 in
theorem toGroupS_any (A : Option Addr) (cap : Nat) (H : Nat → GH) (L : List GroupM) (w : World) (hl : L.length ≤ 1048576) (hf : ∀ k (h : k < L.length), GFit L[k]) (hs : GroupS w A H L) :
    Calls Tryz.prog 29 #[.slice A L.length cap] w (TgsPost L w) := by
  obtain ⟨C0, hsz, hmk⟩ := made (P := Tryz.prog) 31 55 _ _ _ Tryz.underlying31 infoGroup L.length (by omega) (by omega)
  have HZ := Lib.hid hsz
  have HF := Lib.hid hf
  clear hsz hf
  go_enter Tryz.func29, Tryz.ntmps29
  go_wp2
  go_loopw [4] (fun i wr => ∃ (k : Nat) (C : Array Value) (H2 : Nat → GH), k ≤ L.length ∧ i = .int .i64 k ∧ Blk wr w.heap.size 55 C ∧ C.size = L.length * 14 ∧ GPut C H2 L k ∧ GSub wr (w.heap.size + 1) H2 L k ∧ Below w.heap.size w wr) (fun i _ => L.length - (intOf i).toNat)
  case atStart => exact ⟨0, C0, H, Nat.zero_le _, rfl, Blk.new _ _ _, HZ.out, fun j _ h => by omega, fun j _ h => by omega, (Below.refl _ _).alloc (Nat.le_refl _) _⟩
  case round =>
    obtain ⟨k, C, H2, hk, rfl, hblk, hcs, hput, hsub, hb⟩ := hrel
    have HC := Lib.hid hcs
    have HP := Lib.hid hput
    have HB := Lib.hid hblk
    have HS := Lib.hid hsub
    clear hcs hput hblk hsub
    by_cases hlt : k < L.length
    · obtain ⟨b, o, rfl, hB, c0, c1, c2, c3, c4, c5, c6, c7, c8, c9, c10, c11, c12, c13⟩ := (hs.keep hb).at_ k hlt
      have hg : w.heap.size < wr.heap.size := HB.out.lt
      go_wp2_with fail
      refine (toGroup_any L[k] (H k) _ (HF.out k hlt) ((hs.loc k hlt).keep hb) ((hs.dry k hlt).keep hb) ((hs.she k hlt).keep hb)).mono ?_
      rintro e w2 ⟨h2, rfl, hb2, hn2, hi2, hd2, hs2⟩
      have hbl := HB.out.below hb2 hg
      have hCs := HC.out
      obtain ⟨v0, d0⟩ := hbl.in_ (k * 14) (by omega)
      obtain ⟨v1, d1⟩ := hbl.in_ (k * 14 + 1) (by omega)
      obtain ⟨v2, d2⟩ := hbl.in_ (k * 14 + 2) (by omega)
      obtain ⟨v3, d3⟩ := hbl.in_ (k * 14 + 3) (by omega)
      obtain ⟨v4, d4⟩ := hbl.in_ (k * 14 + 4) (by omega)
      obtain ⟨v5, d5⟩ := hbl.in_ (k * 14 + 5) (by omega)
      obtain ⟨v6, d6⟩ := hbl.in_ (k * 14 + 6) (by omega)
      obtain ⟨v7, d7⟩ := hbl.in_ (k * 14 + 7) (by omega)
      obtain ⟨v8, d8⟩ := hbl.in_ (k * 14 + 8) (by omega)
      obtain ⟨v9, d9⟩ := hbl.in_ (k * 14 + 9) (by omega)
      obtain ⟨v10, d10⟩ := hbl.in_ (k * 14 + 10) (by omega)
      obtain ⟨v11, d11⟩ := hbl.in_ (k * 14 + 11) (by omega)
      obtain ⟨v12, d12⟩ := hbl.in_ (k * 14 + 12) (by omega)
      obtain ⟨v13, d13⟩ := hbl.in_ (k * 14 + 13) (by omega)
      have f := fun i => hbl.frozen i
      clear hCs
      have HB2 := Lib.hid hbl
      clear hbl
      clear c0 c1 c2 c3 c4 c5 c6 c7 c8 c9 c10 c11 c12 c13
      go_wp2
      have hbut : But w.heap.size w2 (((((((((((((((w2.setCell ⟨w.heap.size, k * 14, none⟩ (.bool L[k].used)).setCell ⟨w.heap.size, k * 14 + 1, none⟩ (.int .i64 L[k].parent)).setCell ⟨w.heap.size, k * 14 + 2, none⟩ (.string L[k].name)).setCell ⟨w.heap.size, k * 14 + 3, none⟩ (.int .i64 L[k].weight)).setCell ⟨w.heap.size, k * 14 + 4, none⟩ (.int .i64 L[k].cpus)).setCell ⟨w.heap.size, k * 14 + 5, none⟩ (.int .i64 L[k].period)).setCell ⟨w.heap.size, k * 14 + 6, none⟩ (.int .i64 L[k].next)).setCell ⟨w.heap.size, k * 14 + 7, none⟩ (.int .i64 L[k].sum)).setCell ⟨w.heap.size, k * 14 + 8, none⟩ (.int .i64 L[k].band.quota)).setCell ⟨w.heap.size, k * 14 + 9, none⟩ (.int .i64 L[k].band.pool)).setCell ⟨w.heap.size, k * 14 + 10, none⟩ (.int .i64 L[k].band.spent)).setCell ⟨w.heap.size, k * 14 + 11, none⟩ (.slice h2.la L[k].band.locals.length h2.lc)).setCell ⟨w.heap.size, k * 14 + 12, none⟩ (.slice h2.da L[k].band.dry.length h2.dc)).setCell ⟨w.heap.size, k * 14 + 13, none⟩ (.slice h2.sa L[k].shelves.length h2.sc))) := (((((((((((((But.set_ _ _ _ _).trans (But.set_ _ _ _ _)).trans (But.set_ _ _ _ _)).trans (But.set_ _ _ _ _)).trans (But.set_ _ _ _ _)).trans (But.set_ _ _ _ _)).trans (But.set_ _ _ _ _)).trans (But.set_ _ _ _ _)).trans (But.set_ _ _ _ _)).trans (But.set_ _ _ _ _)).trans (But.set_ _ _ _ _)).trans (But.set_ _ _ _ _)).trans (But.set_ _ _ _ _)).trans (But.set_ _ _ _ _)
      have hne := hn2.ne hg
      go_roundw
      case rel => exact ⟨k + 1, _, hset H2 k h2, by omega, by go_num, (((((((((((((HB2.out.set_ _ _).set_ _ _).set_ _ _).set_ _ _).set_ _ _).set_ _ _).set_ _ _).set_ _ _).set_ _ _).set_ _ _).set_ _ _).set_ _ _).set_ _ _).set_ _ _, by simp [HC.out], GPut.step hlt HC.out HP.out, GSub.step ((HS.out.keep hb2).but hbut (by omega)) (fun _ => ⟨hn2.mono (by omega), hi2.but hbut hne.1, hd2.but hbut hne.2.1, hs2.but hbut hne.2.2⟩), ((((((((((((((hb.andThen hb2).setCell (Nat.le_refl _) _).setCell (Nat.le_refl _) _).setCell (Nat.le_refl _) _).setCell (Nat.le_refl _) _).setCell (Nat.le_refl _) _).setCell (Nat.le_refl _) _).setCell (Nat.le_refl _) _).setCell (Nat.le_refl _) _).setCell (Nat.le_refl _) _).setCell (Nat.le_refl _) _).setCell (Nat.le_refl _) _).setCell (Nat.le_refl _) _).setCell (Nat.le_refl _) _).setCell (Nat.le_refl _) _⟩
      case measure => simp [intOf]; omega
    · go_wp2
      go_ret
      have hkl : k = L.length := by omega
      rw [hkl] at HP HS
      exact ⟨_, H2, rfl, hb, Nat.le_refl _, group_put HB.out HP.out HS.out, fun j hj => (HS.out j hj hj).1⟩
def TwPost (M : WorldM) (w : World) (e : Ending) (w' : World) : Prop := ∃ h : WH, e = .returned (.agg #[.int .i64 M.now, .slice h.ca M.cpus.length h.cc, .slice h.ta M.tasks.length h.tc, .slice h.ga M.groups.length h.gc]) ∧ Below w.heap.size w w' ∧ WAt w' h M
end Go.Proofs.YtknfpigaognklaaGreatDoor
