/- The levels of a task as the program's iterator hands them out. -/
import Derived.Test.YtccjanpdgdonmaaGreatZv
import Derived.Test.YtccjanpdgdonmaaGreatT1
namespace Go.Proofs.YtccjanpdgdonmaaGreat
open Go.RowKit Go.Sort
attribute [local go_sem] Oper.semAt_some
theorem iLevels_any (p : Nat) (t : Int) (w : World) :
    Calls Tryz.prog 51 #[.pointer (some ⟨p, 0, none⟩), .int .i64 t] w fun e w' => e = .returned (.func (.func 83) #[] #[.pointer (some ⟨w.heap.size, 0, none⟩), .pointer (some ⟨w.heap.size + 1, 0, none⟩)]) ∧ w' = (w.alloc (.cells #[.pointer (some ⟨p, 0, none⟩)] 63)).alloc (.cells #[.int .i64 t] 3) := by
  go_enter Tryz.func51, Tryz.ntmps51
  go_wp2
  go_ret
  exact ⟨rfl, rfl⟩
theorem cell_al {W : World} {a : Addr} {v : Value} (o : Obj) (h : W.cell? a = some v) : (W.alloc o).cell? a = some v := cell_kept h (World.grownBy_alloc W o none) (fun r e => by cases e)
theorem own_form {w : World} {base : Nat} {e : TypeId} {size : Nat} {v : Value} {n : Nat} {xs : List Value} (h : w.ownsRow base e size v n xs) : ∃ a cap, v = .slice a n cap := by
  rcases h.2 with ⟨rfl, rfl⟩ | ⟨g, cap, cur, rfl, _⟩
  · exact ⟨none, 0, rfl⟩
  · exact ⟨_, cap, rfl⟩
/-- two rows, the one from where the other cannot lie -/
theorem own_apart {w2 w3 : World} {base base' : Nat} {e e' : TypeId} {size size' : Nat} {v v' : Value} {n n' : Nat} {xs xs' : List Value} (hw : w3.ownsRow base e size v n xs) (h' : w2.ownsRow base' e' size' v' n' xs') (hb : w3.heap.size ≤ base') : v.ownBlock = none ∨ v.ownBlock ≠ v'.ownBlock := by
  cases hv : v.ownBlock with
  | none => exact .inl rfl
  | some a =>
    refine .inr fun e => ?_
    have h1 := (hw.lt a hv).2
    have h2 := (h'.lt a e.symm).1
    omega
theorem Blk.kept_ {w w' : World} {g : Nat} {t : TypeId} {cs : Array Value} {row : Option Nat} (h : Blk w g t cs) (hg : w.grownBy w' row) (hr : some g ≠ row) : Blk w' g t cs := (hg.block g h.lt hr).trans h
theorem own_not {w : World} {base : Nat} {e : TypeId} {size : Nat} {v : Value} {n : Nat} {xs : List Value} (h : w.ownsRow base e size v n xs) {k : Nat} (hk : k < base) : some k ≠ v.ownBlock := fun e => by have := (h.lt k e.symm).1; omega
theorem mem_form (M : WorldM) (c : Nat) (m : Mem) : ∃ T X, memV M c m = .iface T X := by
  obtain ⟨g, s⟩ := m
  cases g <;> exact ⟨_, _, rfl⟩
/-- a level as it is handed out: the entry, the queue, where the others lie -/
structure LevV where
  lv : Mem × Nat
  a : Option Addr
  cap : Nat
def levVal (M : WorldM) (c : Nat) (x : LevV) : Value := .agg #[memV M c x.lv.1, .slice x.a (othM M c x.lv).length x.cap]
def levG (M : WorldM) (t c : Nat) (B : Nat) (pre : List LevV) (x : LevV) (W : World) : Prop :=
  (∃ r, levsM M t = pre.map LevV.lv ++ x.lv :: r) ∧ W.ownsRow B 84 1 (.slice x.a (othM M c x.lv).length x.cap) (othM M c x.lv).length ((othM M c x.lv).map (memV M c))
section
variable {β : Type} {B : Nat} {J : β → World → Prop}
theorem Stays.below_ (h : Stays B J) {s : β} {A C : World} (hs : J s A) (hb : Below A.heap.size A C) : J s C := h s A C none hs ⟨hb.os, hb.tape, hb.output, hb.size, fun k hk _ => hb.block k hk⟩ (by simp)
theorem Stays.alloc_ (h : Stays B J) {s : β} {A : World} (hs : J s A) (o : Obj) : J s (A.alloc o) := h s A _ none hs (World.grownBy_alloc _ _ _) (by simp)
theorem Stays.drew_ (h : Stays B J) {s : β} {A : World} (hs : J s A) : J s A.drew := h s A _ none hs ⟨rfl, rfl, rfl, Nat.le_refl _, fun _ _ _ => rfl⟩ (by simp)
end
theorem grownBy_set (W : World) (b o : Nat) (v : Value) : W.grownBy (W.setCell ⟨b, o, none⟩ v) (some b) := ⟨rfl, rfl, rfl, by simp [World.setCell], fun k _ hk => Below.heap_setCell _ _ _ k (fun e => hk (by rw [show k = b from e]))⟩
/-- while the others of a level are gathered -/
structure Inn (J : World → Prop) (o8 : Nat) (w8 : World) (vm : Value) (nm : Nat) (xm : List Value) (own : Value) (v2 : Value) (n2 : Nat) (xs : List Value) (wr : World) : Prop where
  hj : J wr
  low : Below o8 w8 wr
  sz : w8.heap.size ≤ wr.heap.size
  blk : Blk wr o8 87 #[own, v2]
  mem : wr.ownsRow (o8 + 1) 84 1 vm nm xm
  row : wr.ownsRow w8.heap.size 84 1 v2 n2 xs
section
variable {J : World → Prop} {o8 : Nat} {w8 : World} {vm : Value} {nm : Nat} {xm : List Value} {own v2 : Value} {n2 : Nat} {xs : List Value} {wr wa w4 : World} {Wsz : Nat}
theorem Inn.to (hJ : ∀ A C row, J A → A.grownBy C row → (∀ r, row = some r → Wsz ≤ r) → J C) (h8 : o8 < w8.heap.size) (h : Inn J o8 w8 vm nm xm own v2 n2 xs wr) (bel : Below wr.heap.size wr wa) : Inn J o8 w8 vm nm xm own v2 n2 xs wa :=
  ⟨hJ _ _ none h.hj ⟨bel.os, bel.tape, bel.output, bel.size, fun k hk _ => bel.block k hk⟩ (by simp), h.low.trans (bel.mono (by have := h.sz; omega)), Nat.le_trans h.sz bel.size, h.blk.below bel h.blk.lt, own_below h.mem bel, own_below h.row bel⟩
theorem Inn.blk4 (h8 : o8 < w8.heap.size) (h : Inn J o8 w8 vm nm xm own v2 n2 xs wa) {ob : Obj} (hgrow : (wa.alloc ob).grownBy w4 v2.ownBlock) : Blk w4 o8 87 #[own, v2] := (h.blk.alloc _).kept_ hgrow (own_not h.row h8)
theorem Inn.add (hJ : ∀ A C row, J A → A.grownBy C row → (∀ r, row = some r → Wsz ≤ r) → J C) (hW : Wsz ≤ o8) (h8 : o8 < w8.heap.size) (hm8 : w8.ownsRow (o8 + 1) 84 1 vm nm xm) (h : Inn J o8 w8 vm nm xm own v2 n2 xs wa) {ob : Obj} (hgrow : (wa.alloc ob).grownBy w4 v2.ownBlock) {v' : Value} {n' : Nat} {xs' : List Value} (hown' : w4.ownsRow w8.heap.size 84 1 v' n' xs') :
    Inn J o8 w8 vm nm xm own v' n' xs' (w4.setCell ⟨o8, 1, none⟩ v') := by
  have hr : ∀ r, v2.ownBlock = some r → w8.heap.size ≤ r := fun r e => (h.row.lt r e).1
  have hsz := h.sz
  have hgs := hgrow.size
  simp at hgs
  refine ⟨hJ _ _ _ (hJ _ _ _ (hJ _ _ none h.hj (World.grownBy_alloc _ _ _) (by simp)) hgrow (fun r e => by have := hr r e; omega)) (grownBy_set w4 o8 1 v') (fun r e => by injection e with e; omega), ?_, by simp [World.setCell]; omega, ?_, ?_, ownsRow_setCell_below hown' h8 _⟩
  · exact ((h.low.alloc (by omega) _).grown hgrow (by simp; omega) (fun r e => by have := hr r e; omega)).setCell (p := ⟨o8, 1, none⟩) (Nat.le_refl _) _
  · have := (h.blk4 h8 hgrow).set_ 1 v'
    exact this
  · exact ownsRow_setCell_below ((h.mem.alloc _).kept hgrow (own_apart hm8 h.row (Nat.le_refl _))) (by simp) _
end
set_option maxRecDepth 100000 in
set_option maxHeartbeats 4000000 in
theorem levels_runs (p : Nat) (ca : Option Addr) (cc : Nat) (ta : Option Addr) (tc : Nat) (ga : Option Addr) (gc : Nat) (gh : Nat → GH) (M : WorldM) (w0 w : World) (hs : PA w0 p ca cc ta tc ga gc gh M) (hb0 : Below w0.heap.size w0 w)
    (t g c : Nat) (L : Lv M t c) (htl : t < M.tasks.length) (hgr : (tsk M t).gr = g) (hcu : (tsk M t).cpu = c) (hg : g < 8) (hu : (grp M g).used = true) (b1 b2 : Nat) (S : Nat → Prop) (hS : ∀ k, S k → w0.heap.size ≤ k ∧ k ≠ b1 ∧ k ≠ b2 ∧ k < w.heap.size)
    (h1 : w.cell? ⟨b1, 0, none⟩ = some (.pointer (some ⟨p, 0, none⟩))) (h2 : w.cell? ⟨b2, 0, none⟩ = some (.int .i64 t)) :
    Runs Tryz.prog 83 #[.pointer (some ⟨b1, 0, none⟩), .pointer (some ⟨b2, 0, none⟩)] (levVal M c) (levG M t c) S (fun ys => ys.map LevV.lv = levsM M t) (fun _ => True) w := by
  intro l J Jx W hl0 hl hW hJ hY hJ0
  have hb1 : b1 < w.heap.size := World.block_lt_of_cell? w ⟨b1, 0, none⟩ h1
  have hb2 : b2 < w.heap.size := World.block_lt_of_cell? w ⟨b2, 0, none⟩ h2
  have F := Lib.hid (facts_of L.wb)
  obtain ⟨i0, hi, hz0, hz1, hz2⟩ := info_parts infoMem
  have mk1 := tm_key
  have mk2 := gm_key
  refine (callsIn_wide (n := 3)).1 ?_
  refine callsIn_of_wp Tryz.func83 rfl trivial ?_ rfl
  simp only [Tryz.ntmps83, List.size_toArray, List.length_cons, List.length_nil, Nat.reduceAdd, Nat.reduceSub, Array.replicate_succ, Array.replicate_zero, List.push_toArray, List.append_toArray, List.nil_append, List.cons_append]
  have hbW : Below w0.heap.size w0 W := hb0.trans (hW.mono hb0.size)
  have pw := hs.keep hbW
  have z1 := (hW.cell (p := ⟨b1, 0, none⟩) hb1).trans h1
  have z2 := (hW.cell (p := ⟨b2, 0, none⟩) hb2).trans h2
  gi_wp2
  have PW := Lib.hid pw
  obtain ⟨p0, p1, p2, p3, p4, p5⟩ := pw
  obtain ⟨bt, ot, rfl, hB, c0, c1, c2, c3, c4, c5, c6, c7, c8⟩ := p5.task_ htl
  rw [hgr] at c1
  rw [hcu] at c2
  have HGR := Lib.hid hgr
  have HCU := Lib.hid hcu
  clear hgr hcu
  have hi0 : (0 : Int) ≤ (t : Int) := by omega
  have hi1 : (t : Int) < (M.tasks.length : Int) := by omega
  have bd : Below W.heap.size W W.drew := ⟨rfl, rfl, rfl, Nat.le_refl _, fun _ _ => rfl⟩
  refine wpIn_wide.2 ?_
  have q0 := fun d os => cell_regrown z1 d os
  have q1 := fun d os => cell_regrown z2 d os
  have q2 := fun d os => cell_regrown p3 d os
  have q3 := fun d os => cell_regrown c0 d os
  have q4 := fun d os => cell_regrown c1 d os
  have q5 := fun d os => cell_regrown c2 d os
  have q6 := fun d os => cell_regrown c3 d os
  have q7 := fun d os => cell_regrown c4 d os
  have q8 := fun d os => cell_regrown c5 d os
  have q9 := fun d os => cell_regrown c6 d os
  have q10 := fun d os => cell_regrown c7 d os
  have q11 := fun d os => cell_regrown c8 d os
  clear p0 p1 p2 p3 p4 p5 c0 c1 c2 c3 c4 c5 c6 c7 c8
  refine region_by [false, false, false, false, false, false, false, true, true] (by kernel_rfl) (by kernel_rfl) (by kernel_rfl) ?_
  repeat (first | (refine wpR_skip (by rfl) ?_; simp only [Act.put, List.setIfInBounds_toArray, List.set_cons_zero, List.set_cons_succ]) | (refine wpR_det (by rfl) (fun K hK => ?_); go_big_quiet_op; refine hK _ ?_; clear hK K))
  refine wpR_bar (by rfl) (fun K hK => ?_)
  go_big_op
  refine hK _ _ (regrown_of_below (bd.andThen ((Below.refl _ _).alloc (Nat.le_refl _) _))) ?_
  clear hK K
  refine wpR_bar (by rfl) (fun K hK => ?_)
  go_big_op
  refine hK _ _ (regrown_of_below (((Below.refl _ _).alloc (Nat.le_refl _) _).drew)) ?_
  clear hK K
  refine wpR_nil ?_
  refine gen1d (p := fun X => Exit.then _ _ _ _ X) ?_
  intro W5 b5 s5 kx
  have k0 := kx.cell 0
  have k1 := kx.cell 1
  have k2 := kx.cell 2
  have k3 := kx.cell 3
  have k4 := kx.cell 4
  have k5 := kx.cell 5
  have k6 := kx.cell 6
  have k7 := kx.cell 7
  have k8 := kx.cell 8
  simp at k0 k1 k2 k3 k4 k5 k6 k7 k8
  have hkl := kx.lt
  have hp1 : b1 < W.heap.size := Nat.lt_of_lt_of_le hb1 hW.size
  have hp2 : b2 < W.heap.size := Nat.lt_of_lt_of_le hb2 hW.size
  have z1 := (b5.cell (p := ⟨b1, 0, none⟩) hp1).trans z1
  have z2 := (b5.cell (p := ⟨b2, 0, none⟩) hp2).trans z2
  have hJ5 := hJ.below_ hJ0 b5
  clear q0 q1 q2 q3 q4 q5 q6 q7 q8 q9 q10 q11 bd
  gi_wp2_with (refine ⟨trivial, ?_⟩; gi_at_call 37; refine (callsIn_wide.2 (iLane_any _ _ _)).mono ?_; rintro e w3 ⟨rfl, hb3⟩; have k0 := (hb3.cell (p := ⟨W.heap.size, 0, none⟩) hkl).trans k0; have k1 := (hb3.cell (p := ⟨W.heap.size, 1, none⟩) hkl).trans k1; have k2 := (hb3.cell (p := ⟨W.heap.size, 2, none⟩) hkl).trans k2; have k3 := (hb3.cell (p := ⟨W.heap.size, 3, none⟩) hkl).trans k3; have k4 := (hb3.cell (p := ⟨W.heap.size, 4, none⟩) hkl).trans k4; have k5 := (hb3.cell (p := ⟨W.heap.size, 5, none⟩) hkl).trans k5; have k6 := (hb3.cell (p := ⟨W.heap.size, 6, none⟩) hkl).trans k6; have k7 := (hb3.cell (p := ⟨W.heap.size, 7, none⟩) hkl).trans k7; have k8 := (hb3.cell (p := ⟨W.heap.size, 8, none⟩) hkl).trans k8; have z1 := (hb3.cell (p := ⟨b1, 0, none⟩) (Nat.lt_of_lt_of_le hp1 b5.size)).trans z1; have z2 := (hb3.cell (p := ⟨b2, 0, none⟩) (Nat.lt_of_lt_of_le hp2 b5.size)).trans z2; have ak0 := fun o => cell_al o k0; have ak1 := fun o => cell_al o k1; have ak2 := fun o => cell_al o k2; have ak3 := fun o => cell_al o k3; have ak4 := fun o => cell_al o k4; have ak5 := fun o => cell_al o k5; have ak6 := fun o => cell_al o k6; have ak7 := fun o => cell_al o k7; have ak8 := fun o => cell_al o k8; have az1 := fun o => cell_al o z1; have az2 := fun o => cell_al o z2)
  refine gen1 (p := fun X => Code.wpIn _ _ _ _ _ _ X) ?_
  intro W6 b6 s6 kl
  have l0 := kl.cell 0
  have l1 := kl.cell 1
  simp at l0 l1
  have hLB := kl.lt
  have hJ6 := hJ.below_ (hJ.below_ hJ5 hb3) b6
  have bW6 : Below W.heap.size W W6 := (b5.andThen hb3).andThen b6
  have z1 := (b6.cell (p := ⟨b1, 0, none⟩) (Nat.lt_of_lt_of_le (Nat.lt_of_lt_of_le hp1 b5.size) hb3.size)).trans z1
  have hWl : W.heap.size ≤ w3.heap.size := Nat.le_trans b5.size hb3.size
  have hb06 := hbW.trans (bW6.mono hbW.size)
  have HM := Lib.hid (show memV M c ⟨false, t⟩ = .iface 113 (.agg #[.int .i64 t, .int .i64 (tsk M t).st, .int .i64 g, .int .i64 c, .int .i64 (tsk M t).nice, .int .i64 (tsk M t).mask, .int .i64 (tsk M t).v, .int .i64 (tsk M t).sum, .int .i64 (tsk M t).used, .int .i64 (tsk M t).load]) by rw [memV, tmV, HGR.out, HCU.out])
  have HLV := Lib.hid (show levsM M t = levL ⟨false, t⟩ (ch M g) by rw [levsM, HGR.out, Int.toNat_natCast])
  generalize hLBe : w3.heap.size = LB at *
  rw [← HM.out]
  clear k0 k1 k2 k3 k4 k5 k6 k7 k8 ak0 ak1 ak2 ak3 ak4 ak5 ak6 ak7 ak8 az1 az2 z2 kl kx hJ5 hb3 b6 b5 hkl
  have HU := Lib.hid hu
  clear hu
  gi_loopw [6, 7] (fun own gv wr => (∃ ys : List LevV, J ys wr ∧ Below w0.heap.size w0 wr ∧ wr.cell? ⟨b1, 0, none⟩ = some (.pointer (some ⟨p, 0, none⟩)) ∧ wr.cell? ⟨LB, 0, none⟩ = some (.pointer (some ⟨p, 0, none⟩)) ∧ wr.cell? ⟨LB, 1, none⟩ = some (.int .i64 c) ∧ W6.heap.size ≤ wr.heap.size ∧
      ((∃ (k : Nat) (m : Mem), k < 8 ∧ (grp M k).used = true ∧ levsM M t = ys.map LevV.lv ++ levL m (ch M k) ∧ own = memV M c m ∧ gv = .int .i64 k) ∨ (levsM M t = ys.map LevV.lv ∧ gv = .int .i64 (-1))))) (fun _ gv _ => if intOf gv = -1 then 0 else dp M (intOf gv).toNat + 1)
  case atStart => exact ⟨[], hJ6, hb06, z1, l0, l1, Nat.le_refl _, .inl ⟨g, ⟨false, t⟩, hg, HU.out, by rw [HLV.out]; rfl, rfl, rfl⟩⟩
  case round =>
    obtain ⟨ys, hJy, hbr, y1, m0, m1, hsz, hcase⟩ := hrel
    rcases hcase with ⟨k, m, hk, huk, hlv, rfl, rfl⟩ | ⟨hlv, rfl⟩
    · have HLK := Lib.hid hlv
      have HUK := Lib.hid huk
      clear hlv huk
      have hmk := L.ok (m, k) (by rw [HLK.out, ch_cons]; simp [levL])
      have hsplit := Lib.hid (show levsM M t = ys.map LevV.lv ++ (m, k) :: levL ⟨true, k⟩ (ch M k).tail by rw [HLK.out, ch_cons M k]; rfl)
      have hne1 : ((k : Int) != -1) = true := by simp
      obtain ⟨mT, mX, hmX⟩ := mem_form M c m
      have HMX := Lib.hid hmX
      rw [hmX]
      clear hmX
      have PWr := Lib.hid (hs.keep hbr)
      have hlg : k < M.groups.length := by have := F.out.tree.len; omega
      have hcs : c < (grp M k).shelves.length := by rw [F.out.gok.she k hk HUK.out]; exact L.hc
      have am0 := fun o => cell_al o m0
      have am1 := fun o => cell_al o m1
      have hLBr : LB < wr.heap.size := Nat.lt_of_lt_of_le hLB hsz
      have bw1 := Lib.hid (((Below.refl wr.heap.size wr).alloc (Nat.le_refl _) (.cells #[.iface mT mX, .slice none 0 0] 87)))
      gi_wp2_with (refine ⟨trivial, ?_⟩; gi_at_call 84; refine (callsIn_wide.2 (iMembers_any p ca cc _ tc ga gc gh M _ (PWr.out.keep bw1.out) (fun k h1 h2 => F.out.gok.she k (by have := F.out.tree.len; omega) h2) (by have := F.out.t12; omega) (by have := F.out.tree.len; omega) k c L.hc)).mono ?_; rintro e w8 ⟨v, rfl, hmem, hb8⟩; obtain ⟨am, capm, rfl⟩ := own_form hmem)
      have BLK0 := Lib.hid (Blk.below (Blk.new wr 87 #[.iface mT mX, .slice none 0 0]) hb8 (by simp))
      have hnb : wr.heap.size + 1 ≤ w8.heap.size := by have := hb8.size; simpa using this
      have hb8s := Lib.hid (show wr.heap.size < w8.heap.size by omega)
      have hWo := Lib.hid (show W.heap.size ≤ wr.heap.size by omega)
      have hJ8 := hJ.below_ (hJ.alloc_ hJy (.cells #[.iface mT mX, .slice none 0 0] 87)) hb8
      have bw8 : Below wr.heap.size wr w8 := bw1.out.trans (hb8.mono (by simp))
      have hmem8' := Lib.hid (show w8.ownsRow (wr.heap.size + 1) 84 1 (.slice am (memsM M k c).length capm) (memsM M k c).length ((memsM M k c).map (memV M c)) by simpa using hmem)
      have hlen := memsM_len F.out k c
      obtain ⟨ms, hmse⟩ : ∃ ms, memsM M k c = ms := ⟨_, rfl⟩
      rw [hmse] at hmem8' hlen ⊢
      have hmem8 := hmem8'
      have HMSE := Lib.hid hmse
      clear hmse am0 am1 hb8 hmem hmem8'
      obtain ⟨wo, hwo⟩ : ∃ wo : World, wo = wr := ⟨_, rfl⟩
      subst hwo
      gi_loopw [44] (fun i wr => ∃ (j : Nat) (v2 : Value), j ≤ ms.length ∧ i = .int .i64 j ∧ Inn (J ys) wo.heap.size w8 (.slice am ms.length capm) ms.length (ms.map (memV M c)) (.iface mT mX) v2 ((ms.take j).filter (fun x => x ≠ m)).length (((ms.take j).filter (fun x => x ≠ m)).map (memV M c)) wr) (fun i _ => ms.length - (intOf i).toNat)
      case atStart => exact ⟨0, .slice none 0 0, by omega, rfl, hJ8, Below.refl _ _, Nat.le_refl _, BLK0.out, hmem8.out, by simpa using World.ownsRow_nil w8 w8.heap.size 84 1⟩
      case round =>
        obtain ⟨j, v2, hj, rfl, hinn⟩ := hrel
        obtain ⟨fl, hfl⟩ : ∃ fl, (ms.take j).filter (fun x => x ≠ m) = fl := ⟨_, rfl⟩
        rw [hfl] at hinn
        obtain ⟨a2, cap2, rfl⟩ := own_form hinn.row
        have r0o := hinn.blk.cell 0
        have r1o := hinn.blk.cell 1
        simp at r0o r1o
        have hNB2 := hinn.blk.lt
        have INN := Lib.hid hinn
        have hl2 : fl.length ≤ j := by rw [← hfl]; exact Nat.le_trans (List.length_filter_le _ _) (by simp; omega)
        have HFL := Lib.hid hfl
        clear hfl hinn
        by_cases hlt : j < ms.length
        · obtain ⟨gm0, rfl⟩ := own_addr INN.out.mem (by omega)
          have hcl : wr.cell? ⟨gm0, j, none⟩ = some (memV M c ms[j]) := by have := INN.out.mem.cells (g := gm0) rfl j (memV M c ms[j]) (by rw [List.getElem?_map, List.getElem?_eq_getElem hlt]; rfl); rwa [addr_add] at this
          have hj0 : (0 : Int) ≤ (j : Int) := by omega
          have hj1 : (j : Int) < (ms.length : Int) := by omega
          have bel := Below.refl wr.heap.size wr
          rcases he : ms[j] with ⟨gj, sj⟩
          rcases m with ⟨gm, sm⟩
          rw [he] at hcl
          cases gm <;> cases gj
          · have hVm : memV M c ⟨false, sm⟩ = .iface 113 (tmV sm (tsk M sm)) := rfl
            have hVj : memV M c ⟨false, sj⟩ = .iface 113 (tmV sj (tsk M sj)) := rfl
            have hVe := hVm.symm.trans HMX.out
            injection hVe with hVe1 hVe2
            subst hVe1
            subst hVe2
            rw [hVj] at hcl
            clear hVm hVj
            by_cases hss : sj = sm
            · subst hss
              have hq1 : ((sj : Int) == (sj : Int)) = true := by simp
              have HF := Lib.hid (show (ms.take (j + 1)).filter (fun x => x ≠ ⟨false, sj⟩) = fl by rw [List.take_succ_eq_append_getElem hlt, List.filter_append, he, HFL.out]; simp)
              gi_wp2_with ((refine ⟨trivial, ?_⟩; gi_at_call 166; refine (callsIn_wide.2 (iTmKey_any _ _ _)).mono ?_; rintro e wa ⟨rfl, hba⟩; have bel := bel.andThen hba; clear hba; have r1 := (bel.cell (p := ⟨wo.heap.size, 1, none⟩) hNB2).trans r1o))
              go_roundw
              case rel => exact ⟨j + 1, .slice a2 _ cap2, by omega, by go_num, by rw [HF.out]; exact INN.out.to (hJ ys) hb8s.out bel⟩
              case measure => simp [intOf]; omega
            · have hss1 : ((sj : Int) == (sm : Int)) = false := by simpa [Int.ofNat_inj] using hss
              have HF := Lib.hid (show (ms.take (j + 1)).filter (fun x => x ≠ ⟨false, sm⟩) = fl ++ [⟨false, sj⟩] by rw [List.take_succ_eq_append_getElem hlt, List.filter_append, he, HFL.out]; simp [hss])
              gi_wp2_with (first | (refine ⟨trivial, ?_⟩; gi_at_call 166; refine (callsIn_wide.2 (iTmKey_any _ _ _)).mono ?_; rintro e wa ⟨rfl, hba⟩; have bel := bel.andThen hba; clear hba; have r1 := (bel.cell (p := ⟨wo.heap.size, 1, none⟩) hNB2).trans r1o) | (gi_at_builtin; have IA := INN.out.to (hJ ys) hb8s.out bel; have hzb := IA.sz; have hza := bel.size; refine wpListIn_append_own _ rfl _ _ 85 rfl w8.heap.size 84 i0 .nilIface 1 16 Tryz.underlying85 hi hz0 hz1 hz2 rfl (by decide) _ _ _ rfl (IA.row.alloc _) ⟨wa.heap.size, 0, none⟩ 1 1 [.iface 113 (tmV sj (tsk M sj))] rfl rfl (cell_one_new _ _ _) (by intro u hu; simp at hu; subst hu; rfl) (by unfold maxLen; omega) (by omega) (by simp; omega) ?_; intro v' w4 hown' hgrow _; obtain ⟨a3, cap3, rfl⟩ := own_form hown'; have hN4 := IA.blk4 hb8s.out hgrow; have r1w := hN4.cell 1; have fz := hN4.frozen 1; simp at r1w))
              go_roundw
              case rel => exact ⟨j + 1, .slice a3 _ cap3, by omega, by go_num, by rw [HF.out, List.map_append, List.length_append]; exact IA.add (hJ ys) hWo.out hb8s.out hmem8.out hgrow hown'⟩
              case measure => simp [intOf]; omega
          · have hVm : memV M c ⟨false, sm⟩ = .iface 113 (tmV sm (tsk M sm)) := rfl
            have hVj : memV M c ⟨true, sj⟩ = .iface 119 (gmV sj (she M sj c)) := rfl
            have hVe := hVm.symm.trans HMX.out
            injection hVe with hVe1 hVe2
            subst hVe1
            subst hVe2
            rw [hVj] at hcl
            clear hVm hVj
            have HF := Lib.hid (show (ms.take (j + 1)).filter (fun x => x ≠ ⟨false, sm⟩) = fl ++ [⟨true, sj⟩] by rw [List.take_succ_eq_append_getElem hlt, List.filter_append, he, HFL.out]; simp)
            gi_wp2_with (first | (refine ⟨trivial, ?_⟩; gi_at_call 169; refine (callsIn_wide.2 (iGmKey_any _ _ _)).mono ?_; rintro e wa ⟨rfl, hba⟩; have bel := bel.andThen hba; clear hba; have r1 := (bel.cell (p := ⟨wo.heap.size, 1, none⟩) hNB2).trans r1o) | (refine ⟨trivial, ?_⟩; gi_at_call 166; refine (callsIn_wide.2 (iTmKey_any _ _ _)).mono ?_; rintro e wa ⟨rfl, hba⟩; have bel := bel.andThen hba; clear hba; have r1 := (bel.cell (p := ⟨wo.heap.size, 1, none⟩) hNB2).trans r1o) | (gi_at_builtin; have IA := INN.out.to (hJ ys) hb8s.out bel; have hzb := IA.sz; have hza := bel.size; refine wpListIn_append_own _ rfl _ _ 85 rfl w8.heap.size 84 i0 .nilIface 1 16 Tryz.underlying85 hi hz0 hz1 hz2 rfl (by decide) _ _ _ rfl (IA.row.alloc _) ⟨wa.heap.size, 0, none⟩ 1 1 [.iface 119 (gmV sj (she M sj c))] rfl rfl (cell_one_new _ _ _) (by intro u hu; simp at hu; subst hu; rfl) (by unfold maxLen; omega) (by omega) (by simp; omega) ?_; intro v' w4 hown' hgrow _; obtain ⟨a3, cap3, rfl⟩ := own_form hown'; have hN4 := IA.blk4 hb8s.out hgrow; have r1w := hN4.cell 1; have fz := hN4.frozen 1; simp at r1w))
            go_roundw
            case rel => exact ⟨j + 1, .slice a3 _ cap3, by omega, by go_num, by rw [HF.out, List.map_append, List.length_append]; exact IA.add (hJ ys) hWo.out hb8s.out hmem8.out hgrow hown'⟩
            case measure => simp [intOf]; omega
          · have hVm : memV M c ⟨true, sm⟩ = .iface 119 (gmV sm (she M sm c)) := rfl
            have hVj : memV M c ⟨false, sj⟩ = .iface 113 (tmV sj (tsk M sj)) := rfl
            have hVe := hVm.symm.trans HMX.out
            injection hVe with hVe1 hVe2
            subst hVe1
            subst hVe2
            rw [hVj] at hcl
            clear hVm hVj
            have HF := Lib.hid (show (ms.take (j + 1)).filter (fun x => x ≠ ⟨true, sm⟩) = fl ++ [⟨false, sj⟩] by rw [List.take_succ_eq_append_getElem hlt, List.filter_append, he, HFL.out]; simp)
            gi_wp2_with (first | (refine ⟨trivial, ?_⟩; gi_at_call 166; refine (callsIn_wide.2 (iTmKey_any _ _ _)).mono ?_; rintro e wa ⟨rfl, hba⟩; have bel := bel.andThen hba; clear hba; have r1 := (bel.cell (p := ⟨wo.heap.size, 1, none⟩) hNB2).trans r1o) | (refine ⟨trivial, ?_⟩; gi_at_call 169; refine (callsIn_wide.2 (iGmKey_any _ _ _)).mono ?_; rintro e wa ⟨rfl, hba⟩; have bel := bel.andThen hba; clear hba; have r1 := (bel.cell (p := ⟨wo.heap.size, 1, none⟩) hNB2).trans r1o) | (gi_at_builtin; have IA := INN.out.to (hJ ys) hb8s.out bel; have hzb := IA.sz; have hza := bel.size; refine wpListIn_append_own _ rfl _ _ 85 rfl w8.heap.size 84 i0 .nilIface 1 16 Tryz.underlying85 hi hz0 hz1 hz2 rfl (by decide) _ _ _ rfl (IA.row.alloc _) ⟨wa.heap.size, 0, none⟩ 1 1 [.iface 113 (tmV sj (tsk M sj))] rfl rfl (cell_one_new _ _ _) (by intro u hu; simp at hu; subst hu; rfl) (by unfold maxLen; omega) (by omega) (by simp; omega) ?_; intro v' w4 hown' hgrow _; obtain ⟨a3, cap3, rfl⟩ := own_form hown'; have hN4 := IA.blk4 hb8s.out hgrow; have r1w := hN4.cell 1; have fz := hN4.frozen 1; simp at r1w))
            go_roundw
            case rel => exact ⟨j + 1, .slice a3 _ cap3, by omega, by go_num, by rw [HF.out, List.map_append, List.length_append]; exact IA.add (hJ ys) hWo.out hb8s.out hmem8.out hgrow hown'⟩
            case measure => simp [intOf]; omega
          · have hVm : memV M c ⟨true, sm⟩ = .iface 119 (gmV sm (she M sm c)) := rfl
            have hVj : memV M c ⟨true, sj⟩ = .iface 119 (gmV sj (she M sj c)) := rfl
            have hVe := hVm.symm.trans HMX.out
            injection hVe with hVe1 hVe2
            subst hVe1
            subst hVe2
            rw [hVj] at hcl
            clear hVm hVj
            by_cases hss : sj = sm
            · subst hss
              have hq1 : ((sj : Int) == (sj : Int)) = true := by simp
              have HF := Lib.hid (show (ms.take (j + 1)).filter (fun x => x ≠ ⟨true, sj⟩) = fl by rw [List.take_succ_eq_append_getElem hlt, List.filter_append, he, HFL.out]; simp)
              gi_wp2_with ((refine ⟨trivial, ?_⟩; gi_at_call 169; refine (callsIn_wide.2 (iGmKey_any _ _ _)).mono ?_; rintro e wa ⟨rfl, hba⟩; have bel := bel.andThen hba; clear hba; have r1 := (bel.cell (p := ⟨wo.heap.size, 1, none⟩) hNB2).trans r1o))
              go_roundw
              case rel => exact ⟨j + 1, .slice a2 _ cap2, by omega, by go_num, by rw [HF.out]; exact INN.out.to (hJ ys) hb8s.out bel⟩
              case measure => simp [intOf]; omega
            · have hss1 : ((sj : Int) == (sm : Int)) = false := by simpa [Int.ofNat_inj] using hss
              have HF := Lib.hid (show (ms.take (j + 1)).filter (fun x => x ≠ ⟨true, sm⟩) = fl ++ [⟨true, sj⟩] by rw [List.take_succ_eq_append_getElem hlt, List.filter_append, he, HFL.out]; simp [hss])
              gi_wp2_with (first | (refine ⟨trivial, ?_⟩; gi_at_call 169; refine (callsIn_wide.2 (iGmKey_any _ _ _)).mono ?_; rintro e wa ⟨rfl, hba⟩; have bel := bel.andThen hba; clear hba; have r1 := (bel.cell (p := ⟨wo.heap.size, 1, none⟩) hNB2).trans r1o) | (gi_at_builtin; have IA := INN.out.to (hJ ys) hb8s.out bel; have hzb := IA.sz; have hza := bel.size; refine wpListIn_append_own _ rfl _ _ 85 rfl w8.heap.size 84 i0 .nilIface 1 16 Tryz.underlying85 hi hz0 hz1 hz2 rfl (by decide) _ _ _ rfl (IA.row.alloc _) ⟨wa.heap.size, 0, none⟩ 1 1 [.iface 119 (gmV sj (she M sj c))] rfl rfl (cell_one_new _ _ _) (by intro u hu; simp at hu; subst hu; rfl) (by unfold maxLen; omega) (by omega) (by simp; omega) ?_; intro v' w4 hown' hgrow _; obtain ⟨a3, cap3, rfl⟩ := own_form hown'; have hN4 := IA.blk4 hb8s.out hgrow; have r1w := hN4.cell 1; have fz := hN4.frozen 1; simp at r1w))
              go_roundw
              case rel => exact ⟨j + 1, .slice a3 _ cap3, by omega, by go_num, by rw [HF.out, List.map_append, List.length_append]; exact IA.add (hJ ys) hWo.out hb8s.out hmem8.out hgrow hown'⟩
              case measure => simp [intOf]; omega
        · have hje : j = ms.length := by omega
          have HO := Lib.hid (show fl = othM M c (m, k) by rw [← HFL.out, hje, List.take_length, ← HMSE.out]; rfl)
          have bwr : Below wo.heap.size wo wr := bw8.trans INN.out.low
          have hszw : W.heap.size ≤ wr.heap.size := by have := INN.out.sz; have := hWo.out; omega
          have hG : levG M t c W.heap.size ys ⟨(m, k), a2, cap2⟩ wr := ⟨⟨_, hsplit.out⟩, by
            show wr.ownsRow _ _ 1 (.slice a2 (othM M c (m, k)).length cap2) _ _
            rw [← HO.out]; exact own_mono INN.out.row (by have := hb8s.out; have := hWo.out; omega)⟩
          obtain ⟨fn, tmps, assign, body, hy, hR⟩ := hY ys ⟨(m, k), a2, cap2⟩ wr INN.out.hj hszw hG
          have hle : levVal M c ⟨(m, k), a2, cap2⟩ = .agg #[.iface mT mX, .slice a2 fl.length cap2] := by rw [levVal, HMX.out, ← HO.out]
          rw [hle] at hy
          have hLBw : LB < wr.heap.size := by have := bwr.size; omega
          have hB1w : b1 < wr.heap.size := by omega
          have n0 := (bwr.cell (p := ⟨LB, 0, none⟩) hLBr).trans m0
          have n1 := (bwr.cell (p := ⟨LB, 1, none⟩) hLBr).trans m1
          have ny := (bwr.cell (p := ⟨b1, 0, none⟩) (by show b1 < _; have := hWo.out; omega)).trans y1
          clear hle hG
          gi_wp2
          refine hR.mono ?_
          rintro e W9 (⟨rfl, hJ', hk'⟩ | ⟨rfl, hJx'⟩)
          · have n0 := (World.cell?_of_block (a := ⟨LB, 0, none⟩) (hk'.block LB hLBw (fun e => e.elim (fun e => by have := hS _ e; have := hW.size; omega) (fun e => by omega)))).trans n0
            have n1 := (World.cell?_of_block (a := ⟨LB, 1, none⟩) (hk'.block LB hLBw (fun e => e.elim (fun e => by have := hS _ e; have := hW.size; omega) (fun e => by omega)))).trans n1
            have ny := (World.cell?_of_block (a := ⟨b1, 0, none⟩) (hk'.block b1 hB1w (fun e => e.elim (fun e => by have := hS _ e; omega) (fun e => by omega)))).trans ny
            have hb09 : Below w0.heap.size w0 W9 := (hbr.trans (bwr.mono hbr.size)).trans (hk'.below (by have := hbr.size; have := bwr.size; omega) (fun q e => e.elim (fun e => (hS _ e).1) (fun e => by have := hb0.size; omega)))
            have pw9 := hs.keep hb09
            have PW9 := Lib.hid pw9
            obtain ⟨p0, p1, p2, p3, p4, p5⟩ := pw9
            obtain ⟨bg, og, rfl, hBg, g0, g1, g2, g3, g4, g5, g6, g7, g8, g9, g10, g11, g12, g13⟩ := p5.group_ hlg
            obtain ⟨bs, os, es, hBs, f0, f1, f2, f3, f4⟩ := p5.shelf_ hlg hcs
            have ES := Lib.hid es
            have HW9 := hk'.size
            have hsz9 : W6.heap.size ≤ W9.heap.size := by have := bwr.size; omega
            clear es g0 g2 g3 g4 g5 g6 g7 g8 g9 g10 g11 g12 g13
            skip
            gi_wp2
            refine ⟨trivial, ?_⟩
            refine (callsIn_wide.2 (iShelf_any p ca cc _ tc _ gc gh M _ PW9.out k c bs os ES.out hlg hcs)).mono ?_
            rintro e wz ⟨rfl, hbz⟩
            have f0 := (hbz.cell (p := ⟨bs, os + c * 5, none⟩) hBs).trans f0
            have f1 := (hbz.cell (p := ⟨bs, os + c * 5 + 1, none⟩) hBs).trans f1
            have f2 := (hbz.cell (p := ⟨bs, os + c * 5 + 2, none⟩) hBs).trans f2
            have f3 := (hbz.cell (p := ⟨bs, os + c * 5 + 3, none⟩) hBs).trans f3
            have f4 := (hbz.cell (p := ⟨bs, os + c * 5 + 4, none⟩) hBs).trans f4
            have hb1z : b1 < W9.heap.size := by omega
            have ny := (hbz.cell (p := ⟨b1, 0, none⟩) hb1z).trans ny
            have p4 := (hbz.cell (p := ⟨p, 3, none⟩) p0).trans p4
            have g1 := (hbz.cell (p := ⟨bg, og + k * 14 + 1, none⟩) hBg).trans g1
            have sz9 := Lib.hid hbz.size
            gi_wp2
            have hJz := hJ.below_ hJ' hbz
            have n0z := (hbz.cell (p := ⟨LB, 0, none⟩) (Nat.lt_of_lt_of_le hLBw HW9)).trans n0
            have n1z := (hbz.cell (p := ⟨LB, 1, none⟩) (Nat.lt_of_lt_of_le hLBw HW9)).trans n1
            have hb0z := hb09.trans (hbz.mono hb09.size)
            have hszz : W6.heap.size ≤ wz.heap.size := Nat.le_trans hsz9 hbz.size
            by_cases h0 : k = 0
            · have hpar : (grp M k).parent = -1 := by rw [h0]; exact F.out.tree.rpar
              rw [hpar]
              go_roundw
              case rel => exact ⟨ys ++ [⟨(m, k), a2, cap2⟩], hJz, hb0z, ny, n0z, n1z, hszz, .inr ⟨by rw [hsplit.out, h0, ch_zero, List.map_append]; rfl, rfl⟩⟩
              case measure => simp [intOf]
            · obtain ⟨hp1, hp2, hp3, hp4⟩ := F.out.tree.up k hk HUK.out h0
              rw [hp1]
              go_roundw
              case rel => exact ⟨ys ++ [⟨(m, k), a2, cap2⟩], hJz, hb0z, ny, n0z, n1z, hszz, .inl ⟨par M k, ⟨true, k⟩, hp2, hp3, by rw [HLK.out, F.out.tree.ch_step hk HUK.out h0, List.map_append]; simp [levL], rfl, rfl⟩⟩
              case measure => simp [intOf]; omega
          · gi_wp2
            refine bodyPost_ret (results_none rfl _ _ _) rfl ?_
            exact ⟨⟨_, rfl⟩, .inr ⟨_, trivial, hJx'⟩⟩
    · gi_wp2
      go_end0
      exact ⟨⟨_, rfl⟩, .inl ⟨ys, hlv.symm, hJy⟩⟩
end Go.Proofs.YtccjanpdgdonmaaGreat
