/- Calls through the interface, as laws of one operation; the greatest divisor; a range over the levels: how a function leaves. What a task gets, and how far that may be off: the program. How far what a task gets may be off: the program. -/
import Derived.Test.YtccjanpdgdonmaaGreatZw
import Derived.Test.YtccjanpdgdonmaaGreatZr
import Derived.Test.YtccjanpdgdonmaaGreatZu
import Derived.Test.YtccjanpdgdonmaaGreatZm
namespace Go.Proofs.YtccjanpdgdonmaaGreat
open Go.RowKit Go.Sort
set_option maxRecDepth 100000 in
theorem inv_weight {o : Oper} {i : Operand} {a : Act} {w : World} {M : WorldM} {c : Nat} {m : Mem} {K : Act → World → Prop} {Q : Exit → Act → World → Prop}
    (hop : o.op = .call { callee := .invoke i "loop.example/stint/impl.weight", args := #[], argTypes := #[] }) (hv : a.eval i = memV M c m)
    (hK : ∀ w', Below w.heap.size w w' → K (a.put o.dst (.int .i64 (memW M c m))) w') : o.wp Tryz.prog a w K Q := by
  obtain ⟨g, s⟩ := m
  cases g with
  | false =>
    have hv2 : a.eval i = .iface 113 (tmV s (tsk M s)) := hv
    have q := tm_weight
    have e := enters_of Tryz.func168 (by kernel_rfl) rfl
    unfold Oper.wp
    simp only [execOp, hop, resolve, hv2, Sem.run_bind, Sem.run_pure, Result.andThen_ok, invoke, List.map_toArray, List.map_nil, Array.append_empty]
    simp [Sem.run_bind, run_program, go_sem]
    rw [q]
    show Oper.upon Tryz.prog o a K Q ((callFunc 168 #[tmV s (tsk M s)]).run Tryz.prog w)
    rw [e, Oper.upon_enter]
    refine (iTmWeight_any _ _ _).mono ?_
    rintro e w' ⟨rfl, hb⟩
    exact hK w' hb
  | true =>
    have hv2 : a.eval i = .iface 119 (gmV s (she M s c)) := hv
    have q := gm_weight
    have e := enters_of Tryz.func171 (by kernel_rfl) rfl
    unfold Oper.wp
    simp only [execOp, hop, resolve, hv2, Sem.run_bind, Sem.run_pure, Result.andThen_ok, invoke, List.map_toArray, List.map_nil, Array.append_empty]
    simp [Sem.run_bind, run_program, go_sem]
    rw [q]
    show Oper.upon Tryz.prog o a K Q ((callFunc 171 #[gmV s (she M s c)]).run Tryz.prog w)
    rw [e, Oper.upon_enter]
    refine (iGmWeight_any _ _ _).mono ?_
    rintro e w' ⟨rfl, hb⟩
    exact hK w' hb
set_option maxRecDepth 100000 in
theorem inv_time {o : Oper} {i : Operand} {a : Act} {w : World} {M : WorldM} {c : Nat} {m : Mem} {K : Act → World → Prop} {Q : Exit → Act → World → Prop}
    (hop : o.op = .call { callee := .invoke i "loop.example/stint/impl.time", args := #[], argTypes := #[] }) (hv : a.eval i = memV M c m)
    (hK : ∀ w', Below w.heap.size w w' → K (a.put o.dst (.int .i64 (memT M c m))) w') : o.wp Tryz.prog a w K Q := by
  obtain ⟨g, s⟩ := m
  cases g with
  | false =>
    have hv2 : a.eval i = .iface 113 (tmV s (tsk M s)) := hv
    have q := tm_time
    have e := enters_of Tryz.func167 (by kernel_rfl) rfl
    unfold Oper.wp
    simp only [execOp, hop, resolve, hv2, Sem.run_bind, Sem.run_pure, Result.andThen_ok, invoke, List.map_toArray, List.map_nil, Array.append_empty]
    simp [Sem.run_bind, run_program, go_sem]
    rw [q]
    show Oper.upon Tryz.prog o a K Q ((callFunc 167 #[tmV s (tsk M s)]).run Tryz.prog w)
    rw [e, Oper.upon_enter]
    refine (iTmTime_any _ _ _).mono ?_
    rintro e w' ⟨rfl, hb⟩
    exact hK w' hb
  | true =>
    have hv2 : a.eval i = .iface 119 (gmV s (she M s c)) := hv
    have q := gm_time
    have e := enters_of Tryz.func170 (by kernel_rfl) rfl
    unfold Oper.wp
    simp only [execOp, hop, resolve, hv2, Sem.run_bind, Sem.run_pure, Result.andThen_ok, invoke, List.map_toArray, List.map_nil, Array.append_empty]
    simp [Sem.run_bind, run_program, go_sem]
    rw [q]
    show Oper.upon Tryz.prog o a K Q ((callFunc 170 #[gmV s (she M s c)]).run Tryz.prog w)
    rw [e, Oper.upon_enter]
    refine (iGmTime_any _ _ _).mono ?_
    rintro e w' ⟨rfl, hb⟩
    exact hK w' hb
/-! ### the way out of a function -/
section
variable {n : Nat} {P : Program} {fn : Func} {R : Ending → World → Prop} {a : Act} {w : World} {v : Value}
theorem postM_ret (hr : (results fn a.tmps).run P w = .ok v w) (hd : a.defers = []) (h : R (.returned v) w) : bodyPostM Fence.wide n P fn R .ret a w := by
  show LeavesInM Fence.wide n P fn a.tmps R a.defers .returning w
  rw [hd]
  exact ⟨v, hr, h⟩
theorem postM_retD {D : Nat} {args : Array Value} (hK : w.heap[D]? = some (.deferred (some []))) (hd : a.defers = [{ target := .collected D, args := args }])
    (hr : (results fn a.tmps).run P (w.putObj D (.deferred none)) = .ok v (w.putObj D (.deferred none))) (h : R (.returned v) (w.putObj D (.deferred none))) : bodyPostM Fence.wide n P fn R .ret a w := by
  show LeavesInM Fence.wide n P fn a.tmps R a.defers .returning w
  rw [hd]
  exact ⟨by simp, .inl ⟨_, _, rfl, run_takeDeferred hK, v, hr, h⟩⟩
end
set_option maxRecDepth 100000 in
set_option maxHeartbeats 1000000 in
theorem iGcd_any (a b : Int) (w : World) (ha : 0 ≤ a) (hb : 0 ≤ b) (ha2 : a ≤ 1000000000000000) (hb2 : b ≤ 1000000000000000) :
    Calls Tryz.prog 53 #[.int .i64 a, .int .i64 b] w fun e w' => e = .returned (.int .i64 (gcdM a b)) ∧ Below w.heap.size w w' := by
  go_enter Tryz.func53, Tryz.ntmps53
  go_wp2
  go_loopw [0, 1] (fun x y wr => ∃ p q : Int, x = .int .i64 p ∧ y = .int .i64 q ∧ 0 ≤ p ∧ 0 ≤ q ∧ p ≤ 1000000000000000 ∧ q ≤ 1000000000000000 ∧ gcdM p q = gcdM a b ∧ Below w.heap.size w wr) (fun _ y _ => (intOf y).toNat)
  case atStart => exact ⟨a, b, rfl, rfl, ha, hb, ha2, hb2, rfl, Below.refl _ _⟩
  case round =>
    obtain ⟨p, q, rfl, rfl, hp, hq, hp2, hq2, hg, hbel⟩ := hrel
    have HG := Lib.hid hg
    clear hg
    by_cases h0 : q = 0
    · have hq0 : ((q : Int) != 0) = false := by simp [h0]
      go_wp2
      go_ret
      exact ⟨ret_int (by rw [← HG.out, h0, gcdM_zero hp]), hbel⟩
    · have h1 : 0 < q := by omega
      have hq0 : ((q : Int) != 0) = true := by simp [h0]
      have hm0 := Int.emod_nonneg p (show q ≠ 0 by omega)
      have hm1 := Int.emod_lt_of_pos p h1
      have htm : p.tmod q = p % q := Int.tmod_eq_emod_of_nonneg hp
      go_upto_region 2 with (fail)
      go_quiet (fail)
      go_wp2
      go_roundw
      case rel => exact ⟨q, p % q, rfl, by go_num, hq, hm0, hq2, by omega, by rw [← gcdM_step hp h1]; exact HG.out, hbel.drewN _⟩
      case measure => simp [intOf]; omega
end Go.Proofs.YtccjanpdgdonmaaGreat
namespace Go.Proofs.YtccjanpdgdonmaaGreat
open Go.RowKit Go.Sort
attribute [local go_sem] Oper.semAt_some
/-- two boxes, a level in its box, the others: what a round keeps -/
structure Rb (T1 T2 N8 B : Nat) (S : Nat → Prop) (W0 : World) (cs : Array Value) (ov : Value) (on : Nat) (os : List Value) (v1 v2 : Value) (X : World) : Prop where
  t1 : Boxed X T1 3 v1
  t2 : Boxed X T2 3 v2
  b8 : Blk X N8 87 cs
  row : X.ownsRow B 84 1 ov on os
  kept : Kept S W0 X
section
variable {T1 T2 N8 B : Nat} {S : Nat → Prop} {W0 : World} {cs : Array Value} {ov : Value} {on : Nat} {os : List Value} {v1 v2 : Value} {X Y : World}
theorem Rb.below (h : Rb T1 T2 N8 B S W0 cs ov on os v1 v2 X) (hb : Below X.heap.size X Y) : Rb T1 T2 N8 B S W0 cs ov on os v1 v2 Y :=
  ⟨(hb.block T1 h.t1.lt).trans h.t1, (hb.block T2 h.t2.lt).trans h.t2, h.b8.below hb h.b8.lt, own_below h.row hb, h.kept.trans (Kept.of_below hb)⟩
theorem Rb.set1 (h : Rb T1 T2 N8 B S W0 cs ov on os v1 v2 X) (h12 : T1 ≠ T2) (h18 : T1 ≠ N8) (hB : T1 < B) (hS : S T1) (v : Value) : Rb T1 T2 N8 B S W0 cs ov on os v v2 (X.setCell ⟨T1, 0, none⟩ v) :=
  ⟨h.t1.set v, h.t2.other (Ne.symm h12) v, h.b8.far (p := ⟨T1, 0, none⟩) (Ne.symm h18) v, ownsRow_setCell_below h.row hB v, h.kept.trans (Kept.set hS v 0)⟩
theorem Rb.set2 (h : Rb T1 T2 N8 B S W0 cs ov on os v1 v2 X) (h12 : T1 ≠ T2) (h28 : T2 ≠ N8) (hB : T2 < B) (hS : S T2) (v : Value) : Rb T1 T2 N8 B S W0 cs ov on os v1 v (X.setCell ⟨T2, 0, none⟩ v) :=
  ⟨h.t1.other h12 v, h.t2.set v, h.b8.far (p := ⟨T2, 0, none⟩) (Ne.symm h28) v, ownsRow_setCell_below h.row hB v, h.kept.trans (Kept.set hS v 0)⟩
end
set_option maxRecDepth 100000 in
set_option maxHeartbeats 4000000 in
theorem iTaskShare_any (ca : Option Addr) (cc : Nat) (ta : Option Addr) (tc : Nat) (ga : Option Addr) (gc : Nat) (gh : Nat → GH) (M : WorldM) (w : World) (hs : WA w ca ta ga gh M) (hF : FitG M) (hx : NextOk M) (t : Int) :
    Calls Tryz.prog 19 #[.agg #[.int .i64 M.now, .slice ca M.cpus.length cc, .slice ta M.tasks.length tc, .slice ga M.groups.length gc], .int .i64 t] w fun e w' => e = .returned (.tuple #[.int .i64 (shareM M t).1, .int .i64 (shareM M t).2]) ∧ Below w.heap.size w w' := by
  have HX := Lib.hid hx
  clear hx
  refine (callsIn_wide (n := 4)).1 ?_
  refine callsIn_of_wp_marks Tryz.func19 rfl trivial ?_ rfl
  simp only [Tryz.ntmps19, List.size_toArray, List.length_cons, List.length_nil, Nat.reduceAdd, Nat.reduceSub, Array.replicate_succ, Array.replicate_zero, List.push_toArray, List.append_toArray, List.nil_append, List.cons_append]
  refine wpIn_wide.2 ?_
  go_upto_region 1 with (fail)
  refine PA.gen (P := fun W => Code.wp _ _ _ _ W) hs ?_
  intro W b1 s1 pw
  have hcm := hF.cpu
  have htm := hF.task
  have hgm := hF.group
  have PW0 := Lib.hid pw
  obtain ⟨q0, q1, q2, q3, q4, q5⟩ := pw
  clear s1
  by_cases fL : lineOk M t = true
  · have FL := Lib.hid fL
    clear fL
    have hin := FL.out
    simp only [lineOk, taskIn, Bool.and_eq_true, inR_iff, Bool.not_eq_true', beq_eq_false_iff_ne] at hin
    obtain ⟨tn, htn⟩ : ∃ tn : Nat, t = tn := ⟨t.toNat, by omega⟩
    subst htn
    rw [Int.toNat_natCast] at hin
    have htl : tn < M.tasks.length := by omega
    obtain ⟨F1', ⟨_, hst0⟩, hli⟩ := hin
    have FA := Lib.hid (facts_of F1')
    obtain ⟨gn, cn, hgr, hg8, hgu, hcu, hcl⟩ := FA.out.tk tn (by have := FA.out.t12; omega) hst0
    have L := Lib.hid (lv_of F1' htl hli hgr hg8 hgu hcu hcl)
    have HGR := Lib.hid hgr
    have HCU := Lib.hid hcu
    have HGU := Lib.hid hgu
    clear hst0 hgr hgu hcu hli F1'
    have LN := Lib.hid (show shareM M tn = shareF M tn cn by rw [shareM, if_pos FL.out, Int.toNat_natCast, HCU.out, Int.toNat_natCast])
    go_upto_region 3 with (go_at_call 50; refine (iLine_any ca cc ta tc ga gc gh M _ q5 hF HX.out _).mono ?_; rintro e w2 ⟨rfl, hb2⟩; rw [FL.out]; have r1 := (hb2.cell (p := ⟨w.heap.size, 0, none⟩) q0).trans q1; have r2 := (hb2.cell (p := ⟨w.heap.size, 1, none⟩) q0).trans q2; have r3 := (hb2.cell (p := ⟨w.heap.size, 2, none⟩) q0).trans q3; have r4 := (hb2.cell (p := ⟨w.heap.size, 3, none⟩) q0).trans q4; have r0 := Nat.lt_of_lt_of_le q0 hb2.size)
    go_upto_region 4 with (fail)
    refine gen2 (p := fun W => Code.wp _ _ _ _ W) ?_
    intro W3 b3 s3 kt kb
    have bel3 := Lib.hid (b1.andThen (hb2.andThen b3))
    have pw3 := PW0.out.keep (hb2.andThen b3)
    skip
    go_wp2_with (go_at_call 51; refine (iLevels_any _ _ _).mono ?_; rintro e w' ⟨rfl, rfl⟩)
    refine gen2 (p := fun W => Code.wp _ _ _ _ W) ?_
    intro W5 b5 s5 kw kt2
    rw [s3] at kw kt2
    have w1 := kw.cell 0
    have w2' := kt2.cell 0
    simp at w1 w2'
    have bel5 := Lib.hid (bel3.out.andThen b5)
    have hT2 : w2.heap.size + 1 < W3.heap.size := by omega
    have bt1 : Boxed W5 w2.heap.size 3 (.int .i64 1) := (b5.block _ (by omega)).trans kt
    have bt2 : Boxed W5 (w2.heap.size + 1) 3 (.int .i64 1) := (b5.block _ (by omega)).trans kb
    have hw2 : w.heap.size ≤ w2.heap.size := by have := b1.size; have := hb2.size; omega
    have hrun := levels_runs w.heap.size ca cc ta tc ga gc gh M w2 W5 (PW0.out.keep hb2) ((b3.andThen b5).mono (Nat.le_refl _)) tn gn cn L.out htl HGR.out HCU.out hg8 HGU.out (w2.heap.size + 2) (w2.heap.size + 2 + 1) (fun k => k = w2.heap.size ∨ k = w2.heap.size + 1) (fun k e => by rcases e with rfl | rfl <;> omega) w1 w2'
    generalize hT1e : w2.heap.size = T1 at *
    refine (wpIn_wide (n := 4)).1 ?_
    refine wp_runs (gf := 83) (lb := #[.pointer (some ⟨T1 + 2, 0, none⟩), .pointer (some ⟨T1 + 2 + 1, 0, none⟩)]) rfl (enters_of Tryz.func83 (by kernel_rfl) rfl) hrun (Below.refl _ _) (fun k e => by rcases e with rfl | rfl <;> omega)
      (fun pre X => Boxed X T1 3 (.int .i64 (nrmT M cn (pre.map LevV.lv))) ∧ Boxed X (T1 + 1) 3 (.int .i64 (nrmB M cn (pre.map LevV.lv))) ∧ Below w.heap.size w X)
      (fun _ _ _ => False) ?hI (fun _ _ _ _ _ h _ _ => h) ?h0 ?round ?done (fun _ _ _ _ _ _ h _ => h.elim)
    case hI =>
      intro s A C row hA hg hr
      exact ⟨hA.1.kept hg (fun e => by have := hr _ e.symm; omega), hA.2.1.kept hg (fun e => by have := hr _ e.symm; omega), hA.2.2.grown hg (by have := hA.2.2.size; omega) (fun k e => by have := hr k e; have := bel5.out.size; omega)⟩
    case h0 => exact ⟨by rw [show nrmT M cn (List.map LevV.lv []) = 1 from (nrm_nil M cn).1]; exact bt1, by rw [show nrmB M cn (List.map LevV.lv []) = 1 from (nrm_nil M cn).2]; exact bt2, bel5.out⟩
    case done =>
      intro D xs X hD hxs hI hK
      rw [hxs] at hI
      obtain ⟨i1, i2, i3⟩ := hI
      have z1 := i1.cell
      have z2 := i2.cell
      have SH := Lib.hid (share_nrm M tn cn)
      clear i1 i2
      go_upto_region 10 with (fail)
      go_quiet (fail)
      go_wp2
      refine postM_retD (D := D) hK rfl (results_tmp2 rfl _ _ _) ?_
      exact ⟨by rw [LN.out, SH.out]; rfl, (i3.drewN _).grown (grownBy_putObj' _ D _) (by have := i3.size; simpa using this) (fun k e => by cases e; have := bel5.out.size; omega)⟩
    case round =>
      intro l pre x W1 hl1 hl2 hI hG
      obtain ⟨i1, i2, i3⟩ := hI
      obtain ⟨⟨r, hr⟩, hrow⟩ := hG
      have HR := Lib.hid hr
      obtain ⟨mT, mX, hmX⟩ := mem_form M cn x.lv.1
      have HMX := Lib.hid hmX
      have hle : levVal M cn x = .agg #[.iface mT mX, .slice x.a (othM M cn x.lv).length x.cap] := by rw [levVal, hmX]
      rw [hle]
      clear hle hmX hr
      gi_wp2
      refine ⟨World.grownBy_alloc _ _ _, fun ob => ?_⟩
      have bb8 : Blk ((W1.alloc (.cells #[.iface mT mX, .slice x.a (othM M cn x.lv).length x.cap] 87)).putObj l ob) W1.heap.size 87 #[.iface mT mX, .slice x.a (othM M cn x.lv).length x.cap] := (World.putObj_heap_other (by omega)).trans (Blk.new _ _ _)
      have bx1 : Boxed ((W1.alloc (.cells #[.iface mT mX, .slice x.a (othM M cn x.lv).length x.cap] 87)).putObj l ob) T1 3 (.int .i64 (nrmT M cn (pre.map LevV.lv))) := (World.putObj_heap_other (by omega)).trans (i1.alloc _)
      have bx2 : Boxed ((W1.alloc (.cells #[.iface mT mX, .slice x.a (othM M cn x.lv).length x.cap] 87)).putObj l ob) (T1 + 1) 3 (.int .i64 (nrmB M cn (pre.map LevV.lv))) := (World.putObj_heap_other (by omega)).trans (i2.alloc _)
      have brow := (hrow.alloc (.cells #[.iface mT mX, .slice x.a (othM M cn x.lv).length x.cap] 87)).kept (grownBy_putObj' _ l ob) (.inr (fun e => by have := (hrow.lt l e).1; omega))
      have bbel : Below w.heap.size w ((W1.alloc (.cells #[.iface mT mX, .slice x.a (othM M cn x.lv).length x.cap] 87)).putObj l ob) := (i3.alloc (by have := i3.size; omega) _).grown (grownBy_putObj' _ l ob) (by have := i3.size; simp; omega) (fun k e => by cases e; have := bel5.out.size; omega)
      have hN1 := i1.lt
      have hN2 := i2.lt
      generalize (W1.alloc (.cells #[.iface mT mX, .slice x.a (othM M cn x.lv).length x.cap] 87)).putObj l ob = W2 at *
      have R0 : Rb T1 (T1 + 1) W1.heap.size (W5.heap.size + 2) (fun k => k = T1 ∨ k = T1 + 1) W2 #[.iface mT mX, .slice x.a (othM M cn x.lv).length x.cap] (.slice x.a (othM M cn x.lv).length x.cap) (othM M cn x.lv).length ((othM M cn x.lv).map (memV M cn)) (.int .i64 (nrmT M cn (pre.map LevV.lv))) (.int .i64 (nrmB M cn (pre.map LevV.lv))) W2 := ⟨bx1, bx2, bb8, brow, Kept.refl _ _⟩
      clear bx1 bx2 bb8 brow hrow i1 i2 i3
      gi_wp2
      have hlm : x.lv ∈ levsM M tn := by rw [HR.out]; simp
      obtain ⟨wl1, wl2⟩ := L.out.w hlm
      obtain ⟨al1, al2⟩ := L.out.a hlm
      obtain ⟨n1, n2, n3, n4⟩ := L.out.nrm HR.out
      have HS := Lib.hid (L.out.sum hlm)
      have HO := Lib.hid (L.out.oth x.lv)
      have ho20 : (othM M cn x.lv).length ≤ 20 := by have := L.out.cnt hlm; have := L.out.n hlm; omega
      have HST := Lib.hid (L.out.step HR.out)
      obtain ⟨u1, u2⟩ := nrm_mul_bd n1 n2 wl1 wl2 (by omega)
      obtain ⟨u3, u4⟩ := nrm_mul_bd n3 n4 al1 al2 (by omega)
      have HW := Lib.hid (show wF M cn x.lv = memW M cn x.lv.1 from rfl)
      rw [HW.out] at u1 u2 wl1 wl2
      have hne1 : T1 ≠ T1 + 1 := by omega
      have hn18 : T1 ≠ W1.heap.size := by omega
      have hn28 : T1 + 1 ≠ W1.heap.size := by omega
      have RB0 := Lib.hid R0
      clear R0
      have bd0 : Below W2.heap.size W2 W2.drew := ⟨rfl, rfl, rfl, Nat.le_refl _, fun _ _ => rfl⟩
      have z1 := RB0.out.t1.cell
      have z8 := RB0.out.b8.cell 0
      simp at z8
      have q1 := fun d os => cell_regrown z1 d os
      have q8 := fun d os => cell_regrown z8 d os
      refine region_SR 5 [0, 0, 0, 1, 0, 2] [0, 1, 2, 3, 4, 5] (by kernel_rfl) (by kernel_rfl) (by kernel_rfl) (by kernel_rfl) rfl (by kernel_rfl) (by kernel_rfl) ?_
      simp only [permL, List.getElem?_cons_zero, List.getElem?_cons_succ, Option.toList_some, List.cons_append, List.nil_append]
      repeat (first | (refine wpS_skip (by rfl) ?_; simp only [Act.put, List.setIfInBounds_toArray, List.set_cons_zero, List.set_cons_succ]) | (refine wpS_det (by rfl) (fun K hK => ?_); go_big_quiet_op; refine hK _ ?_; clear hK K))
      refine wpS_bar (by rfl) (fun K hK => ?_)
      refine inv_weight rfl HMX.out.symm ?_
      intro wA hbA
      have RA := RB0.out.below (bd0.andThen hbA)
      have y1 := RA.t1.cell
      have f1 := RA.t1.frozen
      refine hK _ _ (regrown_of_below (bd0.andThen hbA)) ?_
      clear hK K
      simp only [Act.put, List.setIfInBounds_toArray, List.set_cons_zero, List.set_cons_succ]
      repeat (first | (refine wpS_skip (by rfl) ?_; simp only [Act.put, List.setIfInBounds_toArray, List.set_cons_zero, List.set_cons_succ]) | (refine wpS_det (by rfl) (fun K hK => ?_); go_big_quiet_op; refine hK _ ?_; clear hK K))
      refine wpS_end (by rfl) (fun K hK => ?_)
      go_big_op
      refine hK _ _ ?_
      clear hK K
      refine wpS_nil ?_
      have RB1 := Lib.hid (RA.set1 hne1 hn18 (by omega) (.inl rfl) (.int .i64 (nrmT M cn (pre.map LevV.lv) * memW M cn x.lv.1)))
      have bA := Lib.hid (bbel.andThen (bd0.andThen hbA) |>.setCell (p := ⟨T1, 0, none⟩) hw2 (.int .i64 (nrmT M cn (pre.map LevV.lv) * memW M cn x.lv.1)))
      generalize wA.setCell ⟨T1, 0, none⟩ (.int .i64 (nrmT M cn (pre.map LevV.lv) * memW M cn x.lv.1)) = wB at *
      clear z1 z8 q1 q8 RA y1 f1 hbA bd0
      gi_wp2
      have bd1 : Below wB.heap.size wB wB.drew := ⟨rfl, rfl, rfl, Nat.le_refl _, fun _ _ => rfl⟩
      have z2 := RB1.out.t2.cell
      have z8 := RB1.out.b8.cell 0
      have z9 := RB1.out.b8.cell 1
      simp at z8 z9
      have q2 := fun d os => cell_regrown z2 d os
      have q8 := fun d os => cell_regrown z8 d os
      have q9 := fun d os => cell_regrown z9 d os
      have hs2 : memW M cn x.lv.1 + sumI (memW M cn) (othM M cn x.lv) = aF M cn x.lv := HS.out
      have WC := fun (X : World) (h : X.ownsRow (W5.heap.size + 2) 84 1 (.slice x.a (othM M cn x.lv).length x.cap) (othM M cn x.lv).length ((othM M cn x.lv).map (memV M cn))) => iWeights_any M cn x.lv.1 x.a x.cap (othM M cn x.lv) (W5.heap.size + 2) X h ⟨wl1, wl2⟩ HO.out ho20
      simp only [HMX.out, hs2] at WC
      clear hs2
      refine region_SR 4 [0, 0, 1, 0, 2] [0, 1, 2, 3, 4] (by kernel_rfl) (by kernel_rfl) (by kernel_rfl) (by kernel_rfl) rfl (by kernel_rfl) (by kernel_rfl) ?_
      simp only [permL, List.getElem?_cons_zero, List.getElem?_cons_succ, Option.toList_some, List.cons_append, List.nil_append]
      repeat (first | (refine wpS_skip (by rfl) ?_; simp only [Act.put, List.setIfInBounds_toArray, List.set_cons_zero, List.set_cons_succ]) | (refine wpS_det (by rfl) (fun K hK => ?_); go_big_quiet_op; refine hK _ ?_; clear hK K))
      refine wpS_bar (by rfl) (fun K hK => ?_)
      go_big_op
      go_at_call 52
      refine (WC _ (own_below RB1.out.row bd1)).mono ?_
      rintro e wC ⟨rfl, hbC⟩
      have RC := RB1.out.below (bd1.andThen hbC)
      have y2 := RC.t2.cell
      have f2 := RC.t2.frozen
      refine hK _ _ (regrown_of_below (bd1.andThen hbC)) ?_
      clear hK K
      repeat (first | (refine wpS_skip (by rfl) ?_; simp only [Act.put, List.setIfInBounds_toArray, List.set_cons_zero, List.set_cons_succ]) | (refine wpS_det (by rfl) (fun K hK => ?_); go_big_quiet_op; refine hK _ ?_; clear hK K))
      refine wpS_end (by rfl) (fun K hK => ?_)
      go_big_op
      refine hK _ _ ?_
      clear hK K
      refine wpS_nil ?_
      have RB2 := Lib.hid (RC.set2 hne1 hn28 (by omega) (.inr rfl) (.int .i64 (nrmB M cn (pre.map LevV.lv) * aF M cn x.lv)))
      have bB := Lib.hid (bA.out.andThen (bd1.andThen hbC) |>.setCell (p := ⟨T1 + 1, 0, none⟩) (by show w.heap.size ≤ T1 + 1; omega) (.int .i64 (nrmB M cn (pre.map LevV.lv) * aF M cn x.lv)))
      generalize wC.setCell ⟨T1 + 1, 0, none⟩ (.int .i64 (nrmB M cn (pre.map LevV.lv) * aF M cn x.lv)) = wD at *
      clear z2 z8 z9 q2 q8 q9 RC y2 f2 hbC bd1 WC
      have z1 := RB2.out.t1.cell
      have z2 := RB2.out.t2.cell
      have hgp := gcdM_pos (b := nrmB M cn (pre.map LevV.lv) * aF M cn x.lv) u1
      have HE := Lib.hid (show levsM M tn = (pre.map LevV.lv ++ [x.lv]) ++ r by rw [HR.out]; simp)
      obtain ⟨v1, v2, v3, v4⟩ := L.out.nrm HE.out
      have d1 : (nrmT M cn (pre.map LevV.lv) * memW M cn x.lv.1).tdiv (gcdM (nrmT M cn (pre.map LevV.lv) * memW M cn x.lv.1) (nrmB M cn (pre.map LevV.lv) * aF M cn x.lv)) = nrmT M cn (pre.map LevV.lv ++ [x.lv]) := by rw [Int.tdiv_eq_ediv_of_nonneg (by omega)]; exact HST.out.1
      have d2 : (nrmB M cn (pre.map LevV.lv) * aF M cn x.lv).tdiv (gcdM (nrmT M cn (pre.map LevV.lv) * memW M cn x.lv.1) (nrmB M cn (pre.map LevV.lv) * aF M cn x.lv)) = nrmB M cn (pre.map LevV.lv ++ [x.lv]) := by rw [Int.tdiv_eq_ediv_of_nonneg (by omega)]; exact HST.out.2
      gi_wp2_with (refine ⟨trivial, ?_⟩; gi_at_call 53; refine (CallsIn.inRound l (callsIn_wide.2 (iGcd_any _ _ _ (by omega) (by omega) (by omega) (by omega)))).mono ?_; rintro e wE ⟨rfl, hbE⟩)
      have RB3 := Lib.hid (RB2.out.below hbE)
      have bC := Lib.hid (bB.out.andThen hbE)
      generalize gcdM (nrmT M cn (pre.map LevV.lv) * memW M cn x.lv.1) (nrmB M cn (pre.map LevV.lv) * aF M cn x.lv) = GD at *
      clear z1 z2 hbE
      have z1 := RB3.out.t1.cell
      have z2 := RB3.out.t2.cell
      have f1 := RB3.out.t1.frozen
      have f2 := RB3.out.t2.frozen
      obtain ⟨F, hFt, hFf⟩ : ∃ F : Bool → World, F true = wE ∧ F false = wE.setCell ⟨T1, 0, none⟩ (.int .i64 (nrmT M cn (pre.map LevV.lv ++ [x.lv]))) := ⟨fun b => if b then wE else wE.setCell ⟨T1, 0, none⟩ (.int .i64 (nrmT M cn (pre.map LevV.lv ++ [x.lv]))), rfl, rfl⟩
      have hF2 : ∀ b, (F b).cell? ⟨T1 + 1, 0, none⟩ = some (.int .i64 (nrmB M cn (pre.map LevV.lv) * aF M cn x.lv)) := fun b => match b with | true => by rw [hFt]; exact z2 | false => by rw [hFf]; exact (RB3.out.t2.other (Ne.symm hne1) _).cell
      have q2 := fun b d os => cell_regrown (hF2 b) d os
      have HFt := Lib.hid hFt
      have HFf := Lib.hid hFf
      clear hFt hFf hF2
      refine region_SRC (twoC F) (twoC_drew true HFt.out) 7 [0, 0, 0, 0, 1, 1, 1, 2] [3, 4, 5, 1, 0, 2, 6, 7] (by kernel_rfl) (by kernel_rfl) (by kernel_rfl) (by kernel_rfl) rfl (by kernel_rfl) (by kernel_rfl) ?_
      simp only [permL, List.getElem?_cons_zero, List.getElem?_cons_succ, Option.toList_some, List.cons_append, List.nil_append]
      unfold twoC
      repeat (first | (refine wpS_skip (by rfl) ?_; simp only [Act.put, List.setIfInBounds_toArray, List.set_cons_zero, List.set_cons_succ]) | (refine wpS_det (by rfl) (fun K hK => ?_); go_big_quiet_op; refine hK _ ?_; clear hK K))
      refine wpS_bar (by rfl) (fun K hK => ?_)
      go_big_op
      refine hK _ _ (twoC_drew true HFt.out) ?_
      clear hK K
      refine wpS_bar (by rfl) (fun K hK => ?_)
      go_big_op
      refine hK _ _ (twoC_drew true HFt.out) ?_
      clear hK K
      refine wpS_bar (by rfl) (fun K hK => ?_)
      go_big_op
      refine hK _ _ (twoC_drew false HFf.out) ?_
      clear hK K
      refine wpS_end (by rfl) (fun K hK => ?_)
      go_big_op
      refine hK _ _ ?_
      clear hK K
      refine wpS_nil ?_
      have RD := RB3.out.set1 hne1 hn18 (by omega) (.inl rfl) (.int .i64 (nrmT M cn (pre.map LevV.lv ++ [x.lv])))
      have RE := RD.set2 hne1 hn28 (by omega) (.inr rfl) (.int .i64 (nrmB M cn (pre.map LevV.lv ++ [x.lv])))
      have RF := RE.below (Below.refl _ _).drew
      gi_wp2
      refine ⟨RF.kept, ?_, ?_, ?_⟩
      · rw [List.map_append]; exact RF.t1
      · rw [List.map_append]; exact RF.t2
      · exact bbel.trans (RF.kept.below (by have := bbel.size; omega) (fun k e => by rcases e with rfl | rfl <;> omega))
  · have FL := Lib.hid (show lineOk M t = false by simpa only [Bool.not_eq_true] using fL)
    clear fL
    have LN := Lib.hid (show shareM M t = (0, 0) by rw [shareM, if_neg (by rw [FL.out]; simp)])
    go_wp2_with (go_at_call 50; refine (iLine_any ca cc ta tc ga gc gh M _ q5 hF HX.out _).mono ?_; rintro e w2 ⟨rfl, hb2⟩; rw [FL.out]; have r1 := (hb2.cell (p := ⟨w.heap.size, 0, none⟩) q0).trans q1; have r2 := (hb2.cell (p := ⟨w.heap.size, 1, none⟩) q0).trans q2; have r3 := (hb2.cell (p := ⟨w.heap.size, 2, none⟩) q0).trans q3; have r4 := (hb2.cell (p := ⟨w.heap.size, 3, none⟩) q0).trans q4; have r0 := Nat.lt_of_lt_of_le q0 hb2.size)
    refine postM_ret (results_tmp2 rfl _ _ _) rfl ?_
    exact ⟨by rw [LN.out]; rfl, b1.andThen hb2⟩
end Go.Proofs.YtccjanpdgdonmaaGreat
namespace Go.Proofs.YtccjanpdgdonmaaGreat
open Go.RowKit Go.Sort
attribute [local go_sem] Oper.semAt_some
/-- a box, a level in its box, the others: what a round keeps -/
structure Ra (T1 N8 B : Nat) (S : Nat → Prop) (W0 : World) (cs : Array Value) (ov : Value) (on : Nat) (os : List Value) (v1 : Value) (X : World) : Prop where
  t1 : Boxed X T1 3 v1
  b8 : Blk X N8 87 cs
  row : X.ownsRow B 84 1 ov on os
  kept : Kept S W0 X
section
variable {T1 N8 B : Nat} {S : Nat → Prop} {W0 : World} {cs : Array Value} {ov : Value} {on : Nat} {os : List Value} {v1 : Value} {X Y : World}
theorem Ra.below (h : Ra T1 N8 B S W0 cs ov on os v1 X) (hb : Below X.heap.size X Y) : Ra T1 N8 B S W0 cs ov on os v1 Y :=
  ⟨(hb.block T1 h.t1.lt).trans h.t1, h.b8.below hb h.b8.lt, own_below h.row hb, h.kept.trans (Kept.of_below hb)⟩
theorem Ra.set1 (h : Ra T1 N8 B S W0 cs ov on os v1 X) (h18 : T1 ≠ N8) (hB : T1 < B) (hS : S T1) (v : Value) : Ra T1 N8 B S W0 cs ov on os v (X.setCell ⟨T1, 0, none⟩ v) :=
  ⟨h.t1.set v, h.b8.far (p := ⟨T1, 0, none⟩) (Ne.symm h18) v, ownsRow_setCell_below h.row hB v, h.kept.trans (Kept.set hS v 0)⟩
end
/-- a call through the interface in a round, by a law of one operation -/
theorem wpListIn_inv_weight {l n : Nat} {ops : Array Oper} {rest : List Oper} {o : Oper} {i : Operand} {a : Act} {w : World} {M : WorldM} {c : Nat} {m : Mem} {Q : Exit → Act → World → Prop}
    (hg : o.guard = none) (hop : o.op = .call { callee := .invoke i "loop.example/stint/impl.weight", args := #[], argTypes := #[] }) (hv : a.eval i = memV M c m)
    (hK : ∀ w', Below w.heap.size w w' → wpListIn (Fence.wide.inRound l) n Tryz.prog ops Q rest (a.put o.dst (.int .i64 (memW M c m))) w') : wpListIn (Fence.wide.inRound l) n Tryz.prog ops Q (o :: rest) a w := by
  refine wpListIn_plain hg fun K hK' => op_in (fun c e => ?_) (inv_weight hop hv fun w' hb => hK' _ _ (hK w' hb))
  rw [hop] at e
  cases e
set_option maxRecDepth 100000 in
set_option maxHeartbeats 4000000 in
theorem iTaskApart_any (ca : Option Addr) (cc : Nat) (ta : Option Addr) (tc : Nat) (ga : Option Addr) (gc : Nat) (gh : Nat → GH) (M : WorldM) (w : World) (hs : WA w ca ta ga gh M) (hF : FitG M) (hx : NextOk M) (t : Int) :
    Calls Tryz.prog 21 #[.agg #[.int .i64 M.now, .slice ca M.cpus.length cc, .slice ta M.tasks.length tc, .slice ga M.groups.length gc], .int .i64 t] w fun e w' => e = .returned (.int .i64 (apartM M t)) ∧ Below w.heap.size w w' := by
  have HX := Lib.hid hx
  clear hx
  refine (callsIn_wide (n := 4)).1 ?_
  refine callsIn_of_wp_marks Tryz.func21 rfl trivial ?_ rfl
  simp only [Tryz.ntmps21, List.size_toArray, List.length_cons, List.length_nil, Nat.reduceAdd, Nat.reduceSub, Array.replicate_succ, Array.replicate_zero, List.push_toArray, List.append_toArray, List.nil_append, List.cons_append]
  refine wpIn_wide.2 ?_
  go_upto_region 1 with (fail)
  refine PA.gen (P := fun W => Code.wp _ _ _ _ W) hs ?_
  intro W b1 s1 pw
  have hcm := hF.cpu
  have htm := hF.task
  have hgm := hF.group
  have PW0 := Lib.hid pw
  obtain ⟨q0, q1, q2, q3, q4, q5⟩ := pw
  clear s1
  by_cases fL : lineOk M t = true
  · have FL := Lib.hid fL
    clear fL
    have hin := FL.out
    simp only [lineOk, taskIn, Bool.and_eq_true, inR_iff, Bool.not_eq_true', beq_eq_false_iff_ne] at hin
    obtain ⟨tn, htn⟩ : ∃ tn : Nat, t = tn := ⟨t.toNat, by omega⟩
    subst htn
    rw [Int.toNat_natCast] at hin
    have htl : tn < M.tasks.length := by omega
    obtain ⟨F1', ⟨_, hst0⟩, hli⟩ := hin
    have FA := Lib.hid (facts_of F1')
    obtain ⟨gn, cn, hgr, hg8, hgu, hcu, hcl⟩ := FA.out.tk tn (by have := FA.out.t12; omega) hst0
    have L := Lib.hid (lv_of F1' htl hli hgr hg8 hgu hcu hcl)
    have HGR := Lib.hid hgr
    have HCU := Lib.hid hcu
    have HGU := Lib.hid hgu
    clear hst0 hgr hgu hcu hli F1'
    have LN := Lib.hid (show apartM M tn = sumI (bF M cn) (levsM M tn) by rw [apartM, if_pos FL.out, Int.toNat_natCast, HCU.out, Int.toNat_natCast])
    go_upto_region 3 with (go_at_call 50; refine (iLine_any ca cc ta tc ga gc gh M _ q5 hF HX.out _).mono ?_; rintro e w2 ⟨rfl, hb2⟩; rw [FL.out]; have r1 := (hb2.cell (p := ⟨w.heap.size, 0, none⟩) q0).trans q1; have r2 := (hb2.cell (p := ⟨w.heap.size, 1, none⟩) q0).trans q2; have r3 := (hb2.cell (p := ⟨w.heap.size, 2, none⟩) q0).trans q3; have r4 := (hb2.cell (p := ⟨w.heap.size, 3, none⟩) q0).trans q4; have r0 := Nat.lt_of_lt_of_le q0 hb2.size)
    go_upto_region 4 with (fail)
    refine gen1 (p := fun W => Code.wp _ _ _ _ W) ?_
    intro W3 b3 s3 kt
    have bel3 := Lib.hid (b1.andThen (hb2.andThen b3))
    go_wp2_with (go_at_call 51; refine (iLevels_any _ _ _).mono ?_; rintro e w' ⟨rfl, rfl⟩)
    refine gen2 (p := fun W => Code.wp _ _ _ _ W) ?_
    intro W5 b5 s5 kw kt2
    rw [s3] at kw kt2
    have w1 := kw.cell 0
    have w2' := kt2.cell 0
    simp at w1 w2'
    have bel5 := Lib.hid (bel3.out.andThen b5)
    have bt1 : Boxed W5 w2.heap.size 3 (.int .i64 0) := (b5.block _ (by omega)).trans kt
    have hw2 : w.heap.size ≤ w2.heap.size := by have := b1.size; have := hb2.size; omega
    have hrun := levels_runs w.heap.size ca cc ta tc ga gc gh M w2 W5 (PW0.out.keep hb2) ((b3.andThen b5).mono (Nat.le_refl _)) tn gn cn L.out htl HGR.out HCU.out hg8 HGU.out (w2.heap.size + 1) (w2.heap.size + 1 + 1) (fun k => k = w2.heap.size) (fun k e => by subst e; omega) w1 w2'
    generalize hT1e : w2.heap.size = T1 at *
    refine (wpIn_wide (n := 4)).1 ?_
    refine wp_runs (gf := 83) (lb := #[.pointer (some ⟨T1 + 1, 0, none⟩), .pointer (some ⟨T1 + 1 + 1, 0, none⟩)]) rfl (enters_of Tryz.func83 (by kernel_rfl) rfl) hrun (Below.refl _ _) (fun k e => by subst e; omega)
      (fun pre X => Boxed X T1 3 (.int .i64 (sumI (bF M cn) (pre.map LevV.lv))) ∧ Below w.heap.size w X)
      (fun _ _ _ => False) ?hI (fun _ _ _ _ _ h _ _ => h) ?h0 ?round ?done (fun _ _ _ _ _ _ h _ => h.elim)
    case hI =>
      intro s A C row hA hg hr
      exact ⟨hA.1.kept hg (fun e => by have := hr _ e.symm; omega), hA.2.grown hg (by have := hA.2.size; omega) (fun k e => by have := hr k e; have := bel5.out.size; omega)⟩
    case h0 => exact ⟨bt1, bel5.out⟩
    case done =>
      intro D xs X hD hxs hI hK
      rw [hxs] at hI
      obtain ⟨i1, i3⟩ := hI
      have z1 := i1.cell
      clear i1
      go_wp2
      refine postM_retD (D := D) hK rfl (results_tmp rfl _ _ _) ?_
      exact ⟨by rw [LN.out]; rfl, i3.grown (grownBy_putObj' _ D _) (by have := i3.size; simpa using this) (fun k e => by cases e; have := bel5.out.size; omega)⟩
    case round =>
      intro l pre x W1 hl1 hl2 hI hG
      obtain ⟨i1, i3⟩ := hI
      obtain ⟨⟨r, hr⟩, hrow⟩ := hG
      have HR := Lib.hid hr
      obtain ⟨mT, mX, hmX⟩ := mem_form M cn x.lv.1
      have HMX := Lib.hid hmX
      have hle : levVal M cn x = .agg #[.iface mT mX, .slice x.a (othM M cn x.lv).length x.cap] := by rw [levVal, hmX]
      rw [hle]
      clear hle hmX hr
      gi_wp2
      refine ⟨World.grownBy_alloc _ _ _, fun ob => ?_⟩
      have bb8 : Blk ((W1.alloc (.cells #[.iface mT mX, .slice x.a (othM M cn x.lv).length x.cap] 87)).putObj l ob) W1.heap.size 87 #[.iface mT mX, .slice x.a (othM M cn x.lv).length x.cap] := (World.putObj_heap_other (by omega)).trans (Blk.new _ _ _)
      have bx1 : Boxed ((W1.alloc (.cells #[.iface mT mX, .slice x.a (othM M cn x.lv).length x.cap] 87)).putObj l ob) T1 3 (.int .i64 (sumI (bF M cn) (pre.map LevV.lv))) := (World.putObj_heap_other (by omega)).trans (i1.alloc _)
      have brow := (hrow.alloc (.cells #[.iface mT mX, .slice x.a (othM M cn x.lv).length x.cap] 87)).kept (grownBy_putObj' _ l ob) (.inr (fun e => by have := (hrow.lt l e).1; omega))
      have bbel : Below w.heap.size w ((W1.alloc (.cells #[.iface mT mX, .slice x.a (othM M cn x.lv).length x.cap] 87)).putObj l ob) := (i3.alloc (by have := i3.size; omega) _).grown (grownBy_putObj' _ l ob) (by have := i3.size; simp; omega) (fun k e => by cases e; have := bel5.out.size; omega)
      have hN1 := i1.lt
      generalize (W1.alloc (.cells #[.iface mT mX, .slice x.a (othM M cn x.lv).length x.cap] 87)).putObj l ob = W2 at *
      have R0 : Ra T1 W1.heap.size (W5.heap.size + 2) (fun k => k = T1) W2 #[.iface mT mX, .slice x.a (othM M cn x.lv).length x.cap] (.slice x.a (othM M cn x.lv).length x.cap) (othM M cn x.lv).length ((othM M cn x.lv).map (memV M cn)) (.int .i64 (sumI (bF M cn) (pre.map LevV.lv))) W2 := ⟨bx1, bb8, brow, Kept.refl _ _⟩
      clear bx1 bb8 brow hrow i1 i3
      have hlm : x.lv ∈ levsM M tn := by rw [HR.out]; simp
      obtain ⟨wl1, wl2⟩ := L.out.w hlm
      obtain ⟨al1, al2⟩ := L.out.a hlm
      obtain ⟨n1, n2⟩ := L.out.n hlm
      have hwa := L.out.wa hlm
      obtain ⟨t0, t1⟩ := L.out.far HR.out
      obtain ⟨bb1, bb2⟩ := L.out.b hlm
      have HS := Lib.hid (L.out.sum hlm)
      have HC := Lib.hid (L.out.cnt hlm)
      have HO := Lib.hid (L.out.oth x.lv)
      have ho20 : (othM M cn x.lv).length ≤ 20 := by have := HC.out; omega
      obtain ⟨x0, x1⟩ := mul_small (by omega) wl2 n1 n2
      obtain ⟨y0, y1⟩ := bes_bd (by omega) wl2 hwa al2 n1 n2
      have HB := Lib.hid (show bF M cn x.lv = (149 * ((cntM M x.lv.2 cn - 2) * wF M cn x.lv + aF M cn x.lv) + aF M cn x.lv - 1) / aF M cn x.lv from rfl)
      have HW := Lib.hid (show wF M cn x.lv = memW M cn x.lv.1 from rfl)
      have hn18 : T1 ≠ W1.heap.size := by omega
      have RB0 := Lib.hid R0
      clear R0
      gi_wp2
      have bd0 : Below W2.heap.size W2 W2.drew := ⟨rfl, rfl, rfl, Nat.le_refl _, fun _ _ => rfl⟩
      have z8 := RB0.out.b8.cell 0
      have z9 := RB0.out.b8.cell 1
      simp at z8 z9
      have q8 := fun d os => cell_regrown z8 d os
      have q9 := fun d os => cell_regrown z9 d os
      have hs2 : memW M cn x.lv.1 + sumI (memW M cn) (othM M cn x.lv) = aF M cn x.lv := HS.out
      have WC := fun (X : World) (h : X.ownsRow (W5.heap.size + 2) 84 1 (.slice x.a (othM M cn x.lv).length x.cap) (othM M cn x.lv).length ((othM M cn x.lv).map (memV M cn))) => iWeights_any M cn x.lv.1 x.a x.cap (othM M cn x.lv) (W5.heap.size + 2) X h ⟨wl1, wl2⟩ HO.out ho20
      simp only [HMX.out, hs2] at WC
      clear hs2
      have hlc := HC.out
      refine region_SR 8 [0, 0, 0, 0, 0, 1, 0, 0] [0, 1, 2, 3, 4, 5, 6, 7] (by kernel_rfl) (by kernel_rfl) (by kernel_rfl) (by kernel_rfl) rfl (by kernel_rfl) (by kernel_rfl) ?_
      simp only [permL, List.getElem?_cons_zero, List.getElem?_cons_succ, Option.toList_some, List.cons_append, List.nil_append]
      repeat (first | (refine wpS_skip (by rfl) ?_; simp only [Act.put, List.setIfInBounds_toArray, List.set_cons_zero, List.set_cons_succ]) | (refine wpS_det (by rfl) (fun K hK => ?_); go_big_quiet_op; refine hK _ ?_; clear hK K))
      refine wpS_bar (by rfl) (fun K hK => ?_)
      go_big_op
      go_at_call 52
      refine (WC _ (own_below RB0.out.row bd0)).mono ?_
      rintro e wA ⟨rfl, hbA⟩
      have RA := RB0.out.below (bd0.andThen hbA)
      refine hK _ _ (regrown_of_below (bd0.andThen hbA)) ?_
      clear hK K
      repeat (first | (refine wpS_skip (by rfl) ?_; simp only [Act.put, List.setIfInBounds_toArray, List.set_cons_zero, List.set_cons_succ]) | (refine wpS_det (by rfl) (fun K hK => ?_); go_big_quiet_op; refine hK _ ?_; clear hK K))
      refine wpS_nil ?_
      have RB1 := Lib.hid RA
      have bA := Lib.hid (bbel.andThen (bd0.andThen hbA))
      clear z8 z9 q8 q9 RA hbA bd0 WC
      have z8 := RB1.out.b8.cell 0
      simp at z8
      rw [HW.out] at x0 x1 y0 y1 wl1 wl2 hwa
      gi_wp2_with (refine wpListIn_inv_weight rfl rfl HMX.out.symm ?_; intro wB hbB)
      have RB2 := Lib.hid (RB1.out.below hbB)
      have bB := Lib.hid (bA.out.andThen hbB)
      clear z8 hbB
      have ht : (149 * ((cntM M x.lv.2 cn - 2) * memW M cn x.lv.1 + aF M cn x.lv) + aF M cn x.lv - 1).tdiv (aF M cn x.lv) = bF M cn x.lv := by rw [Int.tdiv_eq_ediv_of_nonneg (by omega), HB.out, HW.out]
      have bd1 : Below wB.heap.size wB wB.drew := ⟨rfl, rfl, rfl, Nat.le_refl _, fun _ _ => rfl⟩
      have z1 := RB2.out.t1.cell
      have f1 := RB2.out.t1.frozen
      have q1 := fun d os => cell_regrown z1 d os
      refine region_SR 8 [0, 0, 0, 0, 0, 0, 0, 0, 2] [0, 1, 2, 3, 4, 5, 6, 7, 8] (by kernel_rfl) (by kernel_rfl) (by kernel_rfl) (by kernel_rfl) rfl (by kernel_rfl) (by kernel_rfl) ?_
      simp only [permL, List.getElem?_cons_zero, List.getElem?_cons_succ, Option.toList_some, List.cons_append, List.nil_append]
      repeat (first | (refine wpS_skip (by rfl) ?_; simp only [Act.put, List.setIfInBounds_toArray, List.set_cons_zero, List.set_cons_succ]) | (refine wpS_det (by rfl) (fun K hK => ?_); go_big_quiet_op; refine hK _ ?_; clear hK K))
      refine wpS_end (by rfl) (fun K hK => ?_)
      go_big_op
      refine hK _ _ ?_
      clear hK K
      refine wpS_nil ?_
      have RD := RB2.out.set1 hn18 (by omega) rfl (.int .i64 (sumI (bF M cn) (pre.map LevV.lv) + bF M cn x.lv))
      have RF := RD.below (Below.refl _ _).drew
      gi_wp2
      refine ⟨RF.kept, ?_, ?_⟩
      · rw [List.map_append, show List.map LevV.lv [x] = [x.lv] from rfl, sumI_snoc]; exact RF.t1
      · exact bbel.trans (RF.kept.below (by have := bbel.size; omega) (fun k e => by subst e; omega))
  · have FL := Lib.hid (show lineOk M t = false by simpa only [Bool.not_eq_true] using fL)
    clear fL
    have LN := Lib.hid (show apartM M t = 0 by rw [apartM, if_neg (by rw [FL.out]; simp)])
    go_wp2_with (go_at_call 50; refine (iLine_any ca cc ta tc ga gc gh M _ q5 hF HX.out _).mono ?_; rintro e w2 ⟨rfl, hb2⟩; rw [FL.out]; have r1 := (hb2.cell (p := ⟨w.heap.size, 0, none⟩) q0).trans q1; have r2 := (hb2.cell (p := ⟨w.heap.size, 1, none⟩) q0).trans q2; have r3 := (hb2.cell (p := ⟨w.heap.size, 2, none⟩) q0).trans q3; have r4 := (hb2.cell (p := ⟨w.heap.size, 3, none⟩) q0).trans q4; have r0 := Nat.lt_of_lt_of_le q0 hb2.size)
    refine postM_ret (results_tmp rfl _ _ _) rfl ?_
    exact ⟨by rw [LN.out]; rfl, b1.andThen hb2⟩
end Go.Proofs.YtccjanpdgdonmaaGreat
