/- The program copies rows and bands. The program copies worlds. errors.As at a target that is a refusal: nil, or a refusal. The program's attempts: a call on a copy of a world. The program cuts paths and finds groups by path. The program finds groups by path; has a world room; a group's kids. A group's kids; the program drops groups. The program drops groups. The program's GroupDrop. The program's GroupDrop and FileDrop. -/
import Derived.Test.YtknfpigaognklaaGreatDoorZp
import Derived.Laws.CopyOwn
import Derived.Test.YtknfpigaognklaaGreatDoorBase
import Derived.LaidEql
import Derived.Stop.Asserts
import Derived.RowKitTokens
import Derived.Deep.RegionWith
namespace Go.Proofs.YtknfpigaognklaaGreatDoor
open Go.RowKit Go.Sort
theorem Below.of_grown {w w' : World} {v : Value} (h : w.grownBy w' v.ownBlock) (hv : v.ownBlock = none) : Below w.heap.size w w' :=
  ⟨h.os, h.tape, h.output, h.size, fun k hk => h.block k hk (by rw [hv]; simp)⟩
/-- a whole row is appended to nothing -/
theorem app_row {t e ty : TypeId} {size bytes : Nat} (hT : SlT t e size bytes) (hsz : 0 < size) (hby : bytes ≤ 1024) {W : World} {A : Option Addr} {m cap : Nat} (f : Nat → Nat → Value) (hm : m ≤ 1048576)
    (hsrc : ∀ k, k < m → ∃ b o, A = some ⟨b, o, none⟩ ∧ ∀ i, i < size → W.cell? ⟨b, o + k * size + i, none⟩ = some (f k i)) (h1 : ∀ k i, k < m → i < size → (f k i).oneCell' = true) :
    ∃ A' cap' w5, (Builtin.append_ #[t, t] ty #[.slice none 0 0, .slice A m cap]).run Tryz.prog W = .ok (.slice A' m cap') w5 ∧ Below W.heap.size W w5 ∧ RowR w5 W.heap.size A' e size m f := by
  obtain ⟨i, z, ht, hi, hz, hs, hb, hzs⟩ := hT
  have hnil : W.ownsRow W.heap.size e size (.slice none 0 0) 0 [] := World.ownsRow_nil _ _ _ _
  cases A with
  | none =>
    have hm0 : m = 0 := by
      rcases Nat.eq_zero_or_pos m with h | h
      · exact h
      · obtain ⟨b, o, e, _⟩ := hsrc 0 h; cases e
    subst hm0
    exact ⟨none, 0, W, by simp [Builtin.append_, run_underlying ht, sizeOf, typeInfo, hi, Builtin.lenOf, Builtin.firstCells], Below.refl _ _, RowR.nil⟩
  | some a =>
    have hmb : (0 + m) * bytes ≤ 140737488355328 := by
      have := Nat.mul_le_mul (show 0 + m ≤ 1048576 by omega) hby
      omega
    obtain ⟨v', w', hr, h2, h3, _, _⟩ := run_append_own_at (P := Tryz.prog) W W.heap.size t ty e i z size bytes ht hi hz hs hb hzs hsz (.slice none 0 0) 0 [] hnil a m cap (rowL f size m) (rowL_length f size m)
      (fun j u hu => by
        have hj : j < m * size := by
          rw [← rowL_length f size m]
          rcases Nat.lt_or_ge j (rowL f size m).length with h | h
          · exact h
          · rw [List.getElem?_eq_none h] at hu; cases hu
        have hk : j / size < m := Nat.div_lt_of_lt_mul (by rw [Nat.mul_comm]; exact hj)
        have hi' : j % size < size := Nat.mod_lt _ hsz
        obtain ⟨b, o, e, hc⟩ := hsrc _ hk
        cases e
        have hg := rowL_get (f := f) hi' m hk
        have hj2 : j / size * size + j % size = j := by rw [Nat.mul_comm]; exact Nat.div_add_mod j size
        rw [hj2, hu] at hg
        rw [addr_mid, ← hj2, ← Nat.add_assoc, hc _ hi', Option.some.inj hg])
      (fun u hu => by
        obtain ⟨j, hj, rfl⟩ := List.mem_iff_getElem.1 hu
        have hj' : j < m * size := by rw [← rowL_length f size m]; exact hj
        have hk : j / size < m := Nat.div_lt_of_lt_mul (by rw [Nat.mul_comm]; exact hj')
        have hi' : j % size < size := Nat.mod_lt _ hsz
        have hg := rowL_get (f := f) hi' m hk
        have hj2 : j / size * size + j % size = j := by rw [Nat.mul_comm]; exact Nat.div_add_mod j size
        rw [hj2, List.getElem?_eq_getElem hj] at hg
        rw [Option.some.inj hg]
        exact h1 _ _ hk hi') (by unfold maxLen; omega) hmb (Nat.le_refl _)
    rw [Nat.zero_add, List.nil_append] at h2
    obtain ⟨A', cap', rfl, hR⟩ := row_of_own h2
    exact ⟨A', cap', w', hr, Below.of_grown h3 rfl, hR⟩
theorem wp_copy_run {o : Oper} {a : Act} {w w5 : World} {K : Act → World → Prop} {Q : Exit → Act → World → Prop} {s x : Operand} {t : TypeId} {v u v5 : Value} (ho : o.op = .call { callee := .builtin .copy, args := #[s, x], argTypes := #[t, t] })
    (hs : a.eval s = v) (hx : a.eval x = u) (hr : (Builtin.copy_ #[t, t] o.type #[v, u]).run Tryz.prog w = .ok v5 w5) (h : K (a.put o.dst v5) w5) : o.wp Tryz.prog a w K Q := by
  unfold Oper.wp execOp
  simp only [ho, resolve, invoke, builtin, Sem.run_bind, Sem.run_pure, Result.andThen_ok, List.map_toArray, List.map_cons, List.map_nil, hs, hx, hr]
  exact h
theorem wpList_copy_run {ops : Array Oper} {rest : List Oper} {o : Oper} {a : Act} {w w5 : World} {Q : Exit → Act → World → Prop} (hgd : o.guard = none) {s x : Operand} {t : TypeId} {v u v5 : Value} (ho : o.op = .call { callee := .builtin .copy, args := #[s, x], argTypes := #[t, t] })
    (hs : a.eval s = v) (hx : a.eval x = u) (hr : (Builtin.copy_ #[t, t] o.type #[v, u]).run Tryz.prog w = .ok v5 w5) (h : wpList Tryz.prog ops Q rest (a.put o.dst v5) w5) : wpList Tryz.prog ops Q (o :: rest) a w :=
  wpList_plain hgd fun _ hK => wp_copy_run ho hs hx hr (hK _ _ h)
/-- a row of single cells is copied into a new one of its length -/
theorem copy_row {t e ty : TypeId} {bytes : Nat} (hT : SlT t e 1 bytes) {W : World} {A : Option Addr} {m cap g : Nat} {C : Array Value} (f : Nat → Value) (hC : C.size = m) (hB : Blk W g e C)
    (hsrc : ∀ k, k < m → ∃ b o, A = some ⟨b, o, none⟩ ∧ W.cell? ⟨b, o + k, none⟩ = some (f k)) (h1 : ∀ k, k < m → (f k).oneCell' = true) :
    ∃ C' w5, (Builtin.copy_ #[t, t] ty #[.slice (some ⟨g, 0, none⟩) m m, .slice A m cap]).run Tryz.prog W = .ok (goInt m) w5 ∧ But g W w5 ∧ Blk w5 g e C' ∧ ∀ k, k < m → C'[k]? = some (f k) := by
  obtain ⟨i, z, ht, hi, hz, hs, hb, hzs⟩ := hT
  have hsome : (Tryz.prog.info? e).map (·.size) = some 1 := by rw [hi]; simp [hs]
  rcases Nat.eq_zero_or_pos m with h0 | hpos
  · subst h0
    exact ⟨C, W, run_copy_none (P := Tryz.prog) W t t ty e _ _ 0 0 0 cap ht hsome rfl, But.refl_ _ _, hB, fun k hk => absurd hk (Nat.not_lt_zero _)⟩
  · obtain ⟨b, o, rfl, _⟩ := hsrc 0 hpos
    have hlen : ((List.range m).map f).length = m := by simp
    have hr := run_copy_row (P := Tryz.prog) W t t ty e g 0 m m ⟨b, o, none⟩ m cap C e ((List.range m).map f) ht hsome hB (by rw [hlen]; simp)
      (fun j v hv => by
        have hj : j < m := by
          rcases Nat.lt_or_ge j m with h | h
          · exact h
          · rw [List.getElem?_eq_none (by rw [hlen]; exact h)] at hv; cases hv
        obtain ⟨b', o', e', hc⟩ := hsrc j hj
        cases e'
        rw [addr_mid, hc]
        simpa [hj] using hv) (by rw [hlen, hC]; omega) (fun v hv => by
        obtain ⟨j, hj, rfl⟩ := List.mem_map.1 hv
        exact h1 j (List.mem_range.1 hj))
    rw [hlen] at hr
    refine ⟨_, _, hr, ⟨rfl, rfl, rfl, by simp [World.setRow], fun k hk => setRow_other W g k _ hk⟩, setRow_heap W g C _ e _ hB, fun k hk => ?_⟩
    simp only [List.take_zero, List.nil_append, List.getElem?_toArray]
    rw [List.getElem?_append_left (by simp; exact hk)]
    simp [hk]
set_option maxRecDepth 100000 in
set_option maxHeartbeats 2000000 in
theorem iBandCopy_any (x : BandM) (h : GH) (w : World) (h1 : x.locals.length ≤ 1048576) (h2 : x.dry.length ≤ 1048576) (hl : IntS w h.la x.locals) (hd : BoolS w h.da x.dry) :
    Calls Tryz.prog 161 #[.agg #[.int .i64 x.quota, .int .i64 x.pool, .int .i64 x.spent, .slice h.la x.locals.length h.lc, .slice h.da x.dry.length h.dc]] w (L5Post x w) := by
  have HL := Lib.hid hl
  have HD := Lib.hid hd
  obtain ⟨C1, hs1, hm1⟩ := made (P := Tryz.prog) 46 3 _ _ _ Tryz.underlying46 infoIntS x.locals.length (by omega) (by omega)
  obtain ⟨C2, hs2, hm2⟩ := made (P := Tryz.prog) 50 4 _ _ _ Tryz.underlying50 infoBoolS x.dry.length (by omega) (by omega)
  have HS1 := Lib.hid hs1
  have HS2 := Lib.hid hs2
  clear hl hd hs1 hs2
  go_enter Tryz.func161, Tryz.ntmps161
  go_upto_region 1 with (fail)
  refine gen2 (p := fun W => Code.wp _ _ _ _ W) ?_
  intro W b1 s1 k0 k1
  have B1 := Lib.hid b1
  have K0 := Lib.hid k0
  have K1 := Lib.hid k1
  have S1 := Lib.hid s1
  have c0 := k0.cell 0
  have c1 := k0.cell 1
  have c2 := k0.cell 2
  have c3 := k0.cell 3
  have c4 := k0.cell 4
  have f0 := fun i => k0.frozen i
  simp at c0 c1 c2 c3 c4
  clear b1 k0 k1 s1
  go_upto_region 2 with (fail)
  refine gen1 (p := fun W => Code.wp _ _ _ _ W) ?_
  intro W2 b2 s2 k2
  have q0 := fun i => b2.cell (p := ⟨w.heap.size, i, none⟩) K0.out.lt
  have B2 := Lib.hid (B1.out.andThen b2)
  obtain ⟨D1, W3, hr1, hbut1, hblk1, hd1⟩ := copy_row (ty := 3) slInt (m := x.locals.length) (A := h.la) (cap := h.lc) (fun k => .int .i64 (x.locals.getD k 0)) (HS1.out.trans (Nat.mul_one _)) k2 (fun k hk => by
    obtain ⟨b, o, e, hb, hc⟩ := HL.out.at_ k hk
    exact ⟨b, o, e, by rw [B2.out.cell hb, hc]; simp [hk]⟩) (fun k _ => rfl)
  have HD1 := Lib.hid hd1
  have HB1 := Lib.hid hblk1
  have S2 := Lib.hid s2
  have e3 : W2.cell? ⟨w.heap.size, 3, none⟩ = some (.slice h.la x.locals.length h.lc) := (q0 3).trans c3
  clear q0 hd1 hblk1 k2 s2
  go_upto_region 3 with (fail)
  have K0b := Lib.hid (hbut1.blk (K0.out.below b2 K0.out.lt) (by have := S1.out; omega))
  have K1b := Lib.hid (hbut1.blk (K1.out.below b2 K1.out.lt) (by have := S1.out; omega))
  have B3 := Lib.hid (B2.out.trans (hbut1.below (B := w.heap.size) (by have := S1.out; omega)))
  have S3 := Lib.hid (show W3.heap.size = W.heap.size + 1 by rw [hbut1.size, S2.out])
  have d4 := K0b.out.cell 4
  simp at d4
  clear c0 c1 c2 c3 c4 f0 e3 hbut1 K0 K1 b2 hr1
  go_upto_region 4 with (fail)
  refine gen1 (p := fun W => Code.wp _ _ _ _ W) ?_
  intro W4 b4 s4 k4
  have B4 := Lib.hid (B3.out.andThen b4)
  have q4 := (b4.cell (p := ⟨w.heap.size, 4, none⟩) K0b.out.lt).trans d4
  obtain ⟨D2, W5, hr2, hbut2, hblk2, hd2⟩ := copy_row (ty := 3) slBool (m := x.dry.length) (A := h.da) (cap := h.dc) (fun k => .bool (x.dry.getD k false)) (HS2.out.trans (Nat.mul_one _)) k4 (fun k hk => by
    obtain ⟨b, o, e, hb, hc⟩ := HD.out.at_ k hk
    exact ⟨b, o, e, by rw [B4.out.cell hb, hc]; simp [hk]⟩) (fun k _ => rfl)
  have HD2 := Lib.hid hd2
  have HB2 := Lib.hid hblk2
  have S4 := Lib.hid s4
  clear d4 hd2 hblk2 k4 s4
  go_upto_region 5 with (fail)
  have K0c := Lib.hid (hbut2.blk (K0b.out.below b4 K0b.out.lt) (by have := S3.out; have := S1.out; omega))
  have K1c := Lib.hid (hbut2.blk (K1b.out.below b4 K1b.out.lt) (by have := S3.out; have := S1.out; omega))
  have R1 := Lib.hid (show Blk W5 W.heap.size 3 D1 from hbut2.blk (HB1.out.below b4 (by have := S3.out; omega)) (by have := S3.out; omega))
  have B5 := Lib.hid (B4.out.trans (hbut2.below (B := w.heap.size) (by have := S3.out; have := S1.out; omega)))
  clear q4 hbut2 b4 K0b K1b HB1 hr2
  have c0 := K0c.out.cell 0
  have c1 := K0c.out.cell 1
  have c2 := K0c.out.cell 2
  have c3 := K0c.out.cell 3
  have c4 := K0c.out.cell 4
  have y0 := K1c.out.cell 0
  have y1 := K1c.out.cell 1
  have y2 := K1c.out.cell 2
  have y3 := K1c.out.cell 3
  have y4 := K1c.out.cell 4
  have f0 := fun i => K0c.out.frozen i
  have f1 := fun i => K1c.out.frozen i
  simp at c0 c1 c2 c3 c4 y0 y1 y2 y3 y4
  go_wp2
  have KE := Lib.hid (show Keep (fun j => w.heap.size ≤ j ∧ j < w.heap.size + 2) W5 (((((((W5.setCell ⟨w.heap.size, 3, none⟩ (.slice (some ⟨W.heap.size, 0, none⟩) x.locals.length x.locals.length)).setCell ⟨w.heap.size, 4, none⟩ (.slice (some ⟨W3.heap.size, 0, none⟩) x.dry.length x.dry.length)).setCell ⟨w.heap.size + 1, 0, none⟩ (.int .i64 x.quota)).setCell ⟨w.heap.size + 1, 1, none⟩ (.int .i64 x.pool)).setCell ⟨w.heap.size + 1, 2, none⟩ (.int .i64 x.spent)).setCell ⟨w.heap.size + 1, 3, none⟩ (.slice (some ⟨W.heap.size, 0, none⟩) x.locals.length x.locals.length)).setCell ⟨w.heap.size + 1, 4, none⟩ (.slice (some ⟨W3.heap.size, 0, none⟩) x.dry.length x.dry.length)) from (((((((Keep.set _ _ _ (by simp)).trans (Keep.set _ _ _ (by simp))).trans (Keep.set _ _ _ (by simp))).trans (Keep.set _ _ _ (by simp))).trans (Keep.set _ _ _ (by simp))).trans (Keep.set _ _ _ (by simp))).trans (Keep.set _ _ _ (by simp))))
  refine bodyPost_ret (v := .agg #[.int .i64 x.quota, .int .i64 x.pool, .int .i64 x.spent, .slice (some ⟨W.heap.size, 0, none⟩) x.locals.length x.locals.length, .slice (some ⟨W3.heap.size, 0, none⟩) x.dry.length x.dry.length]) (by simp [results, Tryz.results161, go_sem, *]) rfl ⟨_, _, _, _, rfl, B5.out.trans (KE.out.below B5.out.size fun _ h => h.1), ?_, ?_⟩
  · refine RowR.keep (RowR.mk_ (B := w.heap.size) (f := fun k _ => .int .i64 (x.locals.getD k 0)) (by have := S1.out; omega) R1.out fun k i hk hi => ?_) KE.out fun a ha hc => ?_
    · rw [show k * 1 + i = k by omega]; exact HD1.out k hk
    · cases ha; have := S1.out; have := hc.2; simp at this; omega
  · refine RowR.keep (RowR.mk_ (B := w.heap.size) (f := fun k _ => .bool (x.dry.getD k false)) (by have := S3.out; have := S1.out; omega) HB2.out fun k i hk hi => ?_) KE.out fun a ha hc => ?_
    · rw [show k * 1 + i = k by omega]; exact HD2.out k hk
    · cases ha; have := S3.out; have := S1.out; have := hc.2; simp at this; omega
end Go.Proofs.YtknfpigaognklaaGreatDoor
namespace Go.Proofs.YtknfpigaognklaaGreatDoor
open Go.RowKit Go.Sort
theorem CpuS.src {w : World} {A : Option Addr} {L : List CpuM} (h : CpuS w A L) : ∀ k, k < L.length → ∃ b o, A = some ⟨b, o, none⟩ ∧ b < w.heap.size ∧ ∀ i, i < 5 → w.cell? ⟨b, o + k * 5 + i, none⟩ = some (cpuF (L.getD k cpu0) i) := fun k hk => by
  obtain ⟨b, o, e, hb, h0, h1, h2, h3, h4⟩ := h.at_ k hk
  refine ⟨b, o, e, hb, fun i hi => ?_⟩
  rw [show L.getD k cpu0 = L[k] by simp [hk]]
  match i, hi with
  | 0, _ => exact h0
  | 1, _ => exact h1
  | 2, _ => exact h2
  | 3, _ => exact h3
  | 4, _ => exact h4
  | i + 5, hi => omega
theorem TaskS.src {w : World} {A : Option Addr} {L : List TaskM} (h : TaskS w A L) : ∀ k, k < L.length → ∃ b o, A = some ⟨b, o, none⟩ ∧ b < w.heap.size ∧ ∀ i, i < 9 → w.cell? ⟨b, o + k * 9 + i, none⟩ = some (taskF (L.getD k task0) i) := fun k hk => by
  obtain ⟨b, o, e, hb, h0, h1, h2, h3, h4, h5, h6, h7, h8⟩ := h.at_ k hk
  refine ⟨b, o, e, hb, fun i hi => ?_⟩
  rw [show L.getD k task0 = L[k] by simp [hk]]
  match i, hi with
  | 0, _ => exact h0
  | 1, _ => exact h1
  | 2, _ => exact h2
  | 3, _ => exact h3
  | 4, _ => exact h4
  | 5, _ => exact h5
  | 6, _ => exact h6
  | 7, _ => exact h7
  | 8, _ => exact h8
  | i + 9, hi => omega
theorem ShelfS.src {w : World} {A : Option Addr} {L : List ShelfM} (h : ShelfS w A L) : ∀ k, k < L.length → ∃ b o, A = some ⟨b, o, none⟩ ∧ b < w.heap.size ∧ ∀ i, i < 5 → w.cell? ⟨b, o + k * 5 + i, none⟩ = some (shelfF (L.getD k shelf0) i) := fun k hk => by
  obtain ⟨b, o, e, hb, h0, h1, h2, h3, h4⟩ := h.at_ k hk
  refine ⟨b, o, e, hb, fun i hi => ?_⟩
  rw [show L.getD k shelf0 = L[k] by simp [hk]]
  match i, hi with
  | 0, _ => exact h0
  | 1, _ => exact h1
  | 2, _ => exact h2
  | 3, _ => exact h3
  | 4, _ => exact h4
  | i + 5, hi => omega
theorem GroupS.src {w : World} {A : Option Addr} {H : Nat → GH} {L : List GroupM} (h : GroupS w A H L) : ∀ k, k < L.length → ∃ b o, A = some ⟨b, o, none⟩ ∧ b < w.heap.size ∧ ∀ i, i < 14 → w.cell? ⟨b, o + k * 14 + i, none⟩ = some (groupF (L.getD k group0) (H k) i) := fun k hk => by
  obtain ⟨b, o, e, hb, h0, h1, h2, h3, h4, h5, h6, h7, h8, h9, h10, h11, h12, h13⟩ := h.at_ k hk
  refine ⟨b, o, e, hb, fun i hi => ?_⟩
  rw [show L.getD k group0 = L[k] by simp [hk]]
  match i, hi with
  | 0, _ => exact h0
  | 1, _ => exact h1
  | 2, _ => exact h2
  | 3, _ => exact h3
  | 4, _ => exact h4
  | 5, _ => exact h5
  | 6, _ => exact h6
  | 7, _ => exact h7
  | 8, _ => exact h8
  | 9, _ => exact h9
  | 10, _ => exact h10
  | 11, _ => exact h11
  | 12, _ => exact h12
  | 13, _ => exact h13
  | i + 14, hi => omega
theorem cpuF_one (x : CpuM) (i : Nat) : (cpuF x i).oneCell' = true := by unfold cpuF; split <;> rfl
theorem taskF_one (x : TaskM) (i : Nat) : (taskF x i).oneCell' = true := by unfold taskF; split <;> rfl
theorem shelfF_one (x : ShelfM) (i : Nat) : (shelfF x i).oneCell' = true := by unfold shelfF; split <;> rfl
theorem groupF_one (x : GroupM) (h : GH) (i : Nat) : (groupF x h i).oneCell' = true := by unfold groupF; split <;> rfl
def hmix (H H0 : Nat → GH) (k j : Nat) : GH := if j < k then H j else H0 j
/-- what holds while a world is copied -/
structure CpI (h : WH) (M : WorldM) (w wr : World) (k : Nat) (H : Nat → GH) (ca : Option Addr) (cc : Nat) (ta : Option Addr) (tc : Nat) (ga : Option Addr) (gc : Nat) : Prop where
  b0 : Blk wr w.heap.size 33 #[.int .i64 M.now, .slice h.ca M.cpus.length h.cc, .slice h.ta M.tasks.length h.tc, .slice h.ga M.groups.length h.gc]
  b1 : Blk wr (w.heap.size + 1) 33 #[.int .i64 0, .slice none 0 0, .slice none 0 0, .slice none 0 0]
  b2 : Blk wr (w.heap.size + 1 + 1) 33 #[.int .i64 M.now, .slice ca M.cpus.length cc, .slice ta M.tasks.length tc, .slice ga M.groups.length gc]
  rc : CpuR wr (w.heap.size + 3) ca M.cpus
  rt : TaskR wr (w.heap.size + 3) ta M.tasks
  rg : RowR wr (w.heap.size + 3) ga 55 14 M.groups.length fun j => groupF (grp M j) (hmix H h.gh k j)
  sub : GSubO wr (w.heap.size + 3) H M.groups k
  bel : Below w.heap.size w wr
set_option maxRecDepth 100000 in
set_option maxHeartbeats 4000000 in
theorem iCopy_any (h : WH) (M : WorldM) (w : World) (hs : WAt w h M) (hf : WFit M) :
    Calls Tryz.prog 94 #[.agg #[.int .i64 M.now, .slice h.ca M.cpus.length h.cc, .slice h.ta M.tasks.length h.tc, .slice h.ga M.groups.length h.gc]] w (TwPostO M w) := by
  obtain ⟨m1, m2, m3, m4⟩ := hf
  have M4 := Lib.hid m4
  have HS := Lib.hid hs
  clear m4
  go_enter Tryz.func94, Tryz.ntmps94
  go_upto_region 2 with (fail)
  refine gen3 (p := fun W => Code.wp _ _ _ _ W) ?_
  intro W b1 s1 k0 k1 k2
  have B1 := Lib.hid b1
  have K0 := Lib.hid k0
  have K1 := Lib.hid k1
  have K2 := Lib.hid k2
  have S1 := Lib.hid s1
  have SZ := Lib.hid (show w.heap.size + 3 ≤ W.heap.size by have := S1.out; omega)
  clear b1 s1 k0 k1 k2
  have c := K0.out.cell 1
  have d := K2.out.cell 1
  simp at c d
  obtain ⟨Ac, qc, Wc, hr, hb, hR⟩ := app_row (ty := 29) slCpu (by omega) (by omega) (W := W) (A := h.ca) (cap := h.cc) (m := M.cpus.length) (fun k => cpuF (M.cpus.getD k cpu0)) m1 (fun k hk => by
    obtain ⟨b, o, e, hb, hc⟩ := HS.out.cpu.src k hk
    exact ⟨b, o, e, fun i hi => by rw [B1.out.cell hb]; exact hc i hi⟩) (fun k i _ _ => cpuF_one _ _)
  have x0 := Lib.hid (K0.out.below hb K0.out.lt)
  have x1 := Lib.hid (K1.out.below hb K1.out.lt)
  have x2 := Lib.hid (K2.out.below hb K2.out.lt)
  have fz := fun i => x2.out.frozen i
  have cz := x2.out.cell 1
  simp at cz
  have HR := Lib.hid hr
  clear hr
  go_upto_region 3 with (at_builtin; refine wpList_append_run rfl rfl rfl rfl HR.out ?_)
  refine genW (p := fun W => Code.wp _ _ _ _ W) ?_
  intro V1 hw
  have KE := Lib.hid (show Keep (fun j => j = w.heap.size + 1 + 1) Wc V1 by rw [← hw]; exact Keep.set _ _ _ rfl)
  have K0c := Lib.hid (KE.out.blk x0.out (by omega))
  have K1c := Lib.hid (KE.out.blk x1.out (by omega))
  have K2c := Lib.hid (show Blk V1 (w.heap.size + 1 + 1) 33 #[.int .i64 M.now, .slice Ac M.cpus.length qc, .slice none 0 0, .slice none 0 0] by rw [← hw]; exact x2.out.set_ 1 _)
  have B1c := Lib.hid ((B1.out.andThen hb).trans (KE.out.below (B := w.heap.size) (by have := B1.out.size; have := hb.size; omega) fun j e => by omega))
  have SZc := Lib.hid (show w.heap.size + 3 ≤ V1.heap.size by have := SZ.out; have := hb.size; have := KE.out.size; omega)
  have Rc := Lib.hid ((hR.keep KE.out fun a ha e => by have := (hR.lt ha).1; have := SZ.out; omega).mono (B' := w.heap.size + 3) SZ.out)
  clear c d HR hb hR x0 x1 x2 fz cz hw KE
  have c := K0c.out.cell 2
  have d := K2c.out.cell 2
  simp at c d
  obtain ⟨At, qt, Wt, hr, hb, hR⟩ := app_row (ty := 30) slTask (by omega) (by omega) (W := V1) (A := h.ta) (cap := h.tc) (m := M.tasks.length) (fun k => taskF (M.tasks.getD k task0)) m2 (fun k hk => by
    obtain ⟨b, o, e, hb, hc⟩ := HS.out.task.src k hk
    exact ⟨b, o, e, fun i hi => by rw [B1c.out.cell hb]; exact hc i hi⟩) (fun k i _ _ => taskF_one _ _)
  have x0 := Lib.hid (K0c.out.below hb K0c.out.lt)
  have x1 := Lib.hid (K1c.out.below hb K1c.out.lt)
  have x2 := Lib.hid (K2c.out.below hb K2c.out.lt)
  have fz := fun i => x2.out.frozen i
  have cz := x2.out.cell 2
  simp at cz
  have HR := Lib.hid hr
  clear hr
  go_upto_region 4 with (at_builtin; refine wpList_append_run rfl rfl rfl rfl HR.out ?_)
  refine genW (p := fun W => Code.wp _ _ _ _ W) ?_
  intro V2 hw
  have KE := Lib.hid (show Keep (fun j => j = w.heap.size + 1 + 1) Wt V2 by rw [← hw]; exact Keep.set _ _ _ rfl)
  have K0ct := Lib.hid (KE.out.blk x0.out (by omega))
  have K1ct := Lib.hid (KE.out.blk x1.out (by omega))
  have K2ct := Lib.hid (show Blk V2 (w.heap.size + 1 + 1) 33 #[.int .i64 M.now, .slice Ac M.cpus.length qc, .slice At M.tasks.length qt, .slice none 0 0] by rw [← hw]; exact x2.out.set_ 2 _)
  have B1ct := Lib.hid ((B1c.out.andThen hb).trans (KE.out.below (B := w.heap.size) (by have := B1c.out.size; have := hb.size; omega) fun j e => by omega))
  have SZct := Lib.hid (show w.heap.size + 3 ≤ V2.heap.size by have := SZc.out; have := hb.size; have := KE.out.size; omega)
  have Rt := Lib.hid ((hR.keep KE.out fun a ha e => by have := (hR.lt ha).1; have := SZc.out; omega).mono (B' := w.heap.size + 3) SZc.out)
  have Rc2 := Lib.hid ((Rc.out.below hb).keep KE.out fun a ha e => by have := (Rc.out.lt ha).1; omega)
  clear c d HR hb hR x0 x1 x2 fz cz hw KE
  have c := K0ct.out.cell 3
  have d := K2ct.out.cell 3
  simp at c d
  obtain ⟨Ag, qg, Wg, hr, hb, hR⟩ := app_row (ty := 31) slGroup (by omega) (by omega) (W := V2) (A := h.ga) (cap := h.gc) (m := M.groups.length) (fun k => groupF (M.groups.getD k group0) (h.gh k)) m3 (fun k hk => by
    obtain ⟨b, o, e, hb, hc⟩ := HS.out.group.src k hk
    exact ⟨b, o, e, fun i hi => by rw [B1ct.out.cell hb]; exact hc i hi⟩) (fun k i _ _ => groupF_one _ _ _)
  have x0 := Lib.hid (K0ct.out.below hb K0ct.out.lt)
  have x1 := Lib.hid (K1ct.out.below hb K1ct.out.lt)
  have x2 := Lib.hid (K2ct.out.below hb K2ct.out.lt)
  have fz := fun i => x2.out.frozen i
  have cz := x2.out.cell 3
  simp at cz
  have HR := Lib.hid hr
  clear hr
  go_upto_region 5 with (at_builtin; refine wpList_append_run rfl rfl rfl rfl HR.out ?_)
  refine genW (p := fun W => Code.wp _ _ _ _ W) ?_
  intro V3 hw
  have KE := Lib.hid (show Keep (fun j => j = w.heap.size + 1 + 1) Wg V3 by rw [← hw]; exact Keep.set _ _ _ rfl)
  have K0ctg := Lib.hid (KE.out.blk x0.out (by omega))
  have K1ctg := Lib.hid (KE.out.blk x1.out (by omega))
  have K2ctg := Lib.hid (show Blk V3 (w.heap.size + 1 + 1) 33 #[.int .i64 M.now, .slice Ac M.cpus.length qc, .slice At M.tasks.length qt, .slice Ag M.groups.length qg] by rw [← hw]; exact x2.out.set_ 3 _)
  have B1ctg := Lib.hid ((B1ct.out.andThen hb).trans (KE.out.below (B := w.heap.size) (by have := B1ct.out.size; have := hb.size; omega) fun j e => by omega))
  have SZctg := Lib.hid (show w.heap.size + 3 ≤ V3.heap.size by have := SZct.out; have := hb.size; have := KE.out.size; omega)
  have Rg := Lib.hid ((hR.keep KE.out fun a ha e => by have := (hR.lt ha).1; have := SZct.out; omega).mono (B' := w.heap.size + 3) SZct.out)
  have Rc3 := Lib.hid ((Rc2.out.below hb).keep KE.out fun a ha e => by have := (Rc2.out.lt ha).1; omega)
  have Rt3 := Lib.hid ((Rt.out.below hb).keep KE.out fun a ha e => by have := (Rt.out.lt ha).1; omega)
  clear c d HR hb hR x0 x1 x2 fz cz hw KE
  have I0 := Lib.hid (show CpI h M w V3 0 h.gh Ac qc At qt Ag qg from ⟨K0ctg.out, K1ctg.out, K2ctg.out, Rc3.out, Rt3.out, Rg.out.congr fun j i _ _ => rfl, ⟨fun j _ h => by omega, ⟨fun j _ _ h => by omega, fun j _ _ h => by omega, fun j _ _ h => by omega⟩⟩, B1ctg.out⟩)
  clear K0ctg K1ctg K2ctg Rc3 Rt3 Rg B1ctg SZctg Rc Rc2 Rt K0ct K1ct K2ct B1ct SZct K0c K1c K2c B1c SZc K0 K1 K2 S1 SZ B1 hs
  have e1 := I0.out.b2.cell 3
  simp at e1
  go_wp2
  clear e1
  go_loopw [30] (fun i wr => ∃ (k : Nat) (H : Nat → GH), k ≤ M.groups.length ∧ i = .int .i64 k ∧ CpI h M w wr k H Ac qc At qt Ag qg) (fun i _ => M.groups.length - (intOf i).toNat)
  case atStart => exact ⟨0, _, Nat.zero_le _, rfl, I0.out⟩
  case round =>
    obtain ⟨k, H, hk, rfl, hI⟩ := hrel
    have II := Lib.hid hI
    have HBE := Lib.hid hI.bel
    have HKL := Lib.hid hk
    by_cases hlt : k < M.groups.length
    · obtain ⟨b, o, hga, hb, hc⟩ := HS.out.group.src k hlt
      have e1 := hI.b0.cell 3
      simp at e1
      rw [hga] at e1
      have c0 : wr.cell? ⟨b, o + k * 14 + 0, none⟩ = some (groupF (grp M k) (h.gh k) 0) := (hI.bel.cell (p := ⟨b, o + k * 14 + 0, none⟩) hb).trans (hc 0 (by omega))
      have c1 : wr.cell? ⟨b, o + k * 14 + 1, none⟩ = some (groupF (grp M k) (h.gh k) 1) := (hI.bel.cell (p := ⟨b, o + k * 14 + 1, none⟩) hb).trans (hc 1 (by omega))
      have c2 : wr.cell? ⟨b, o + k * 14 + 2, none⟩ = some (groupF (grp M k) (h.gh k) 2) := (hI.bel.cell (p := ⟨b, o + k * 14 + 2, none⟩) hb).trans (hc 2 (by omega))
      have c3 : wr.cell? ⟨b, o + k * 14 + 3, none⟩ = some (groupF (grp M k) (h.gh k) 3) := (hI.bel.cell (p := ⟨b, o + k * 14 + 3, none⟩) hb).trans (hc 3 (by omega))
      have c4 : wr.cell? ⟨b, o + k * 14 + 4, none⟩ = some (groupF (grp M k) (h.gh k) 4) := (hI.bel.cell (p := ⟨b, o + k * 14 + 4, none⟩) hb).trans (hc 4 (by omega))
      have c5 : wr.cell? ⟨b, o + k * 14 + 5, none⟩ = some (groupF (grp M k) (h.gh k) 5) := (hI.bel.cell (p := ⟨b, o + k * 14 + 5, none⟩) hb).trans (hc 5 (by omega))
      have c6 : wr.cell? ⟨b, o + k * 14 + 6, none⟩ = some (groupF (grp M k) (h.gh k) 6) := (hI.bel.cell (p := ⟨b, o + k * 14 + 6, none⟩) hb).trans (hc 6 (by omega))
      have c7 : wr.cell? ⟨b, o + k * 14 + 7, none⟩ = some (groupF (grp M k) (h.gh k) 7) := (hI.bel.cell (p := ⟨b, o + k * 14 + 7, none⟩) hb).trans (hc 7 (by omega))
      have c8 : wr.cell? ⟨b, o + k * 14 + 8, none⟩ = some (groupF (grp M k) (h.gh k) 8) := (hI.bel.cell (p := ⟨b, o + k * 14 + 8, none⟩) hb).trans (hc 8 (by omega))
      have c9 : wr.cell? ⟨b, o + k * 14 + 9, none⟩ = some (groupF (grp M k) (h.gh k) 9) := (hI.bel.cell (p := ⟨b, o + k * 14 + 9, none⟩) hb).trans (hc 9 (by omega))
      have c10 : wr.cell? ⟨b, o + k * 14 + 10, none⟩ = some (groupF (grp M k) (h.gh k) 10) := (hI.bel.cell (p := ⟨b, o + k * 14 + 10, none⟩) hb).trans (hc 10 (by omega))
      have c11 : wr.cell? ⟨b, o + k * 14 + 11, none⟩ = some (groupF (grp M k) (h.gh k) 11) := (hI.bel.cell (p := ⟨b, o + k * 14 + 11, none⟩) hb).trans (hc 11 (by omega))
      have c12 : wr.cell? ⟨b, o + k * 14 + 12, none⟩ = some (groupF (grp M k) (h.gh k) 12) := (hI.bel.cell (p := ⟨b, o + k * 14 + 12, none⟩) hb).trans (hc 12 (by omega))
      have c13 : wr.cell? ⟨b, o + k * 14 + 13, none⟩ = some (groupF (grp M k) (h.gh k) 13) := (hI.bel.cell (p := ⟨b, o + k * 14 + 13, none⟩) hb).trans (hc 13 (by omega))
      simp only [groupF, Nat.add_zero] at c0 c1 c2 c3 c4 c5 c6 c7 c8 c9 c10 c11 c12 c13
      have i0 : (0 : Int) ≤ (k : Int) := by omega
      have i1 : (k : Int) < (M.groups.length : Int) := by omega
      have HLT := Lib.hid hlt
      have HGF := Lib.hid (show GFit (grp M k) by rw [← grp_eq hlt]; exact M4.out k hlt)
      have HLO := Lib.hid (show IntS w (h.gh k).la (grp M k).band.locals by rw [← grp_eq hlt]; exact HS.out.group.loc k hlt)
      have HDR := Lib.hid (show BoolS w (h.gh k).da (grp M k).band.dry by rw [← grp_eq hlt]; exact HS.out.group.dry k hlt)
      have HSH := Lib.hid (show ShelfS w (h.gh k).sa (grp M k).shelves by rw [← grp_eq hlt]; exact HS.out.group.she k hlt)
      have HGA := Lib.hid hga
      clear hI hlt hk hc hga I0
      go_upto_region 9 with (fail)
      refine gen1 (p := fun W => Code.wp _ _ _ _ W) ?_
      intro W1 b1 s1 kx
      have HB1 := Lib.hid b1
      have KX := Lib.hid kx
      have S1 := Lib.hid s1
      clear c0 c1 c2 c3 c4 c5 c6 c7 c8 c9 c10 c11 c12 c13 e1 b1 kx s1
      obtain ⟨g, hAg, hgl, hgB, v8, f8⟩ := II.out.rg.cell (k := k) (i := 8) HLT.out (by omega)
      obtain ⟨_, e, _, _, v9, f9⟩ := II.out.rg.cell (k := k) (i := 9) HLT.out (by omega); cases hAg.symm.trans e; clear e
      obtain ⟨_, e, _, _, v10, f10⟩ := II.out.rg.cell (k := k) (i := 10) HLT.out (by omega); cases hAg.symm.trans e; clear e
      obtain ⟨_, e, _, _, v11, f11⟩ := II.out.rg.cell (k := k) (i := 11) HLT.out (by omega); cases hAg.symm.trans e; clear e
      obtain ⟨_, e, _, _, v12, f12⟩ := II.out.rg.cell (k := k) (i := 12) HLT.out (by omega); cases hAg.symm.trans e; clear e
      obtain ⟨_, e, _, _, v13, f13⟩ := II.out.rg.cell (k := k) (i := 13) HLT.out (by omega); cases hAg.symm.trans e; clear e
      have n3 := (HB1.out.cell (p := ⟨w.heap.size + 1 + 1, 3, none⟩) II.out.b2.lt).trans (II.out.b2.cell 3)
      simp at n3
      rw [hAg] at n3
      have y8 := KX.out.cell 8
      have y9 := KX.out.cell 9
      have y10 := KX.out.cell 10
      have y11 := KX.out.cell 11
      have y12 := KX.out.cell 12
      simp at y8 y9 y10 y11 y12
      have q_n3 := fun d os => cell_regrown n3 d os
      have q_y8 := fun d os => cell_regrown y8 d os
      have q_y9 := fun d os => cell_regrown y9 d os
      have q_y10 := fun d os => cell_regrown y10 d os
      have q_y11 := fun d os => cell_regrown y11 d os
      have q_y12 := fun d os => cell_regrown y12 d os
      have bd : Below W1.heap.size W1 W1.drew := ⟨rfl, rfl, rfl, Nat.le_refl _, fun _ _ => rfl⟩
      refine region_S 6 [0, 0, 0, 0, 0, 1, 1, 1, 2] [0, 1, 2, 3, 4, 5, 6, 7, 8] (by kernel_rfl) (by kernel_rfl) (by kernel_rfl) rfl (by kernel_rfl) (by kernel_rfl) ?_
      simp only [permL, List.getElem?_cons_zero, List.getElem?_cons_succ, Option.toList_some, List.cons_append, List.nil_append]
      repeat (first | (refine wpS_skip (by rfl) ?_; simp only [Act.put, List.setIfInBounds_toArray, List.set_cons_zero, List.set_cons_succ]) | (refine wpS_det (by rfl) (fun K hK => ?_); go_big_quiet_op; refine hK _ ?_; clear hK K))
      refine wpS_bar (by rfl) (fun K hK => ?_)
      go_big_op
      go_at_call 161
      refine (iBandCopy_any (grp M k).band (h.gh k) _ HGF.out.2.1.1 HGF.out.2.1.2 (HLO.out.keep ((HBE.out.andThen HB1.out).andThen bd)) (HDR.out.keep ((HBE.out.andThen HB1.out).andThen bd))).mono ?_
      rintro e w3 ⟨la, lc, da, dc, rfl, hb3, hL, hD⟩
      have B3 := HB1.out.andThen (bd.andThen hb3)
      have p8 := (B3.cell (p := ⟨g, k * 14 + 8, none⟩) hgl).trans v8
      have p9 := (B3.cell (p := ⟨g, k * 14 + 9, none⟩) hgl).trans v9
      have p10 := (B3.cell (p := ⟨g, k * 14 + 10, none⟩) hgl).trans v10
      have p11 := (B3.cell (p := ⟨g, k * 14 + 11, none⟩) hgl).trans v11
      have p12 := (B3.cell (p := ⟨g, k * 14 + 12, none⟩) hgl).trans v12
      have z8 := (B3.frozen (p := ⟨g, k * 14 + 8, none⟩) hgl).trans f8
      have z9 := (B3.frozen (p := ⟨g, k * 14 + 9, none⟩) hgl).trans f9
      have z10 := (B3.frozen (p := ⟨g, k * 14 + 10, none⟩) hgl).trans f10
      have z11 := (B3.frozen (p := ⟨g, k * 14 + 11, none⟩) hgl).trans f11
      have z12 := (B3.frozen (p := ⟨g, k * 14 + 12, none⟩) hgl).trans f12
      refine hK _ _ (regrown_of_below (bd.andThen hb3)) ?_
      clear hK K
      refine wpS_bar (by rfl) (fun K hK => ?_)
      go_big_op
      refine hK _ _ (regrown_of_below (bd.andThen hb3)) ?_
      clear hK K
      refine wpS_bar (by rfl) (fun K hK => ?_)
      go_big_op
      refine hK _ _ (regrown_of_below (bd.andThen hb3)) ?_
      clear hK K
      refine wpS_end (by rfl) (fun K hK => ?_)
      go_big_op
      refine hK _ _ ?_
      clear hK K
      refine wpS_nil ?_
      go_upto_region 10 with (fail)
      refine genW (p := fun W => Code.wp _ _ _ _ W) ?_
      intro W4 hw
      have HL3 := Lib.hid hL
      have HD3 := Lib.hid hD
      have HB3 := Lib.hid B3
      have HBX := Lib.hid (bd.andThen hb3)
      have hW1 : wr.heap.size ≤ W1.drew.heap.size := HB1.out.size
      have KE := Lib.hid (show Keep (fun j => j = g) w3 W4 by rw [← hw]; exact Keep.sets (S := fun j => j = g) (n := 14) (k := k) (by rfl) [(8, .int .i64 (grp M k).band.quota), (9, .int .i64 (grp M k).band.pool), (10, .int .i64 (grp M k).band.spent), (11, .slice la (grp M k).band.locals.length lc), (12, .slice da (grp M k).band.dry.length dc)] w3)
      have RG := Lib.hid (show RowR W4 (w.heap.size + 3) Ag 55 14 M.groups.length _ by rw [← hw]; exact RowR.sets hAg HLT.out [(8, .int .i64 (grp M k).band.quota), (9, .int .i64 (grp M k).band.pool), (10, .int .i64 (grp M k).band.spent), (11, .slice la (grp M k).band.locals.length lc), (12, .slice da (grp M k).band.dry.length dc)] (II.out.rg.below B3) (by simp))
      clear hw hL hD B3 hb3 bd n3 q_n3 y8 q_y8 p8 z8 v8 f8 y9 q_y9 p9 z9 v9 f9 y10 q_y10 p10 z10 v10 f10 y11 q_y11 p11 z11 v11 f11 y12 q_y12 p12 z12 v12 f12 v13 f13
      have B4 := Lib.hid ((HBE.out.andThen HB3.out).trans (KE.out.below (B := w.heap.size) (by have := HBE.out.size; have := HB3.out.size; omega) fun j e => by omega))
      have n3 := (KE.out.blk (II.out.b2.below HB3.out II.out.b2.lt) (by omega)).cell 3
      have y13 := (KE.out.blk (KX.out.below HBX.out KX.out.lt) (by omega)).cell 13
      simp at n3 y13
      rw [hAg] at n3
      have ln3 : w.heap.size + 1 + 1 < W4.heap.size := by have := HBE.out.size; have := II.out.b2.lt; have := HB3.out.size; have := KE.out.size; omega
      have ly13 : wr.heap.size < W4.heap.size := by have := HB3.out.size; have := S1.out; have := HBX.out.size; have := KE.out.size; omega
      have bd4 : Below W4.heap.size W4 W4.drew := ⟨rfl, rfl, rfl, Nat.le_refl _, fun _ _ => rfl⟩
      obtain ⟨sa, sc, w5, hr, hb5, hS⟩ := app_row (ty := 53) slShelf (by omega) (by omega) (W := W4.drew) (A := (h.gh k).sa) (cap := (h.gh k).sc) (m := (grp M k).shelves.length) (fun c => shelfF ((grp M k).shelves.getD c shelf0)) HGF.out.2.2 (fun c hc => by
        obtain ⟨b', o', e, hb', hc'⟩ := HSH.out.src c hc
        exact ⟨b', o', e, fun i hi => ((B4.out.andThen bd4).cell hb').trans (hc' i hi)⟩) (fun k i _ _ => shelfF_one _ _)
      obtain ⟨F, hFt, hFf⟩ : ∃ F : Bool → World, F true = W4 ∧ F false = w5 := ⟨fun b => if b then W4 else w5, rfl, rfl⟩
      have qq0 := fun b d os => cell_regrown (both hFt hFf (p := fun W => W.cell? _ = some _) n3 ((hb5.cell (p := ⟨w.heap.size + 1 + 1, 3, none⟩) ln3).trans n3) b) d os
      have qq1 := fun b d os => cell_regrown (both hFt hFf (p := fun W => W.cell? _ = some _) y13 ((hb5.cell (p := ⟨wr.heap.size, 13, none⟩) ly13).trans y13) b) d os
      have HFt := Lib.hid hFt
      have HFf := Lib.hid hFf
      have HRUN := Lib.hid hr
      have HB5 := Lib.hid (bd4.andThen hb5)
      have HS5 := Lib.hid hS
      obtain ⟨g2, hAg2, _, _, v13, f13⟩ := (RG.out.below HB5.out).cell (k := k) (i := 13) HLT.out (by omega)
      cases hAg.symm.trans hAg2
      clear hFt hFf hr hb5 hS bd4 hAg2
      refine region_SC (twoC F) (twoC_drew true HFt.out) 6 [0, 0, 0, 0, 0, 1, 1, 1, 2] [0, 1, 2, 3, 4, 5, 6, 7, 8] (by kernel_rfl) (by kernel_rfl) (by kernel_rfl) rfl (by kernel_rfl) (by kernel_rfl) ?_
      simp only [permL, List.getElem?_cons_zero, List.getElem?_cons_succ, Option.toList_some, List.cons_append, List.nil_append]
      unfold twoC
      repeat (first | (refine wpS_skip (by rfl) ?_; simp only [Act.put, List.setIfInBounds_toArray, List.set_cons_zero, List.set_cons_succ]) | (refine wpS_det (by rfl) (fun K hK => ?_); go_big_quiet_op; refine hK _ ?_; clear hK K))
      refine wpS_bar (by rfl) (fun K hK => ?_)
      refine wp_append_run rfl rfl rfl HRUN.out ?_
      refine hK _ _ (twoC_below false (by rw [HFf.out]; exact Below.refl _ _)) ?_
      clear hK K
      simp only [Act.put, List.setIfInBounds_toArray, List.set_cons_zero, List.set_cons_succ]
      clear qq0 qq1
      refine wpS_bar (by rfl) (fun K hK => ?_)
      go_big_op
      refine hK _ _ (twoC_below false (by rw [HFf.out]; exact Below.refl _ _)) ?_
      clear hK K
      refine wpS_bar (by rfl) (fun K hK => ?_)
      go_big_op
      refine hK _ _ (twoC_below false (by rw [HFf.out]; exact Below.refl _ _)) ?_
      clear hK K
      refine wpS_end (by rfl) (fun K hK => ?_)
      go_big_op
      refine hK _ _ ?_
      clear hK K
      refine wpS_nil ?_
      go_upto_region 11 with (fail)
      refine genW (p := fun W => Code.wp _ _ _ _ W) ?_
      intro W6 hw
      have K6 := Lib.hid (show Keep (fun j => j = g) w5 W6 by rw [← hw]; exact Keep.set _ _ _ rfl)
      have R6 := Lib.hid (show RowR W6 (w.heap.size + 3) Ag 55 14 M.groups.length _ by rw [← hw]; exact (RG.out.below HB5.out).set hAg HLT.out (by omega) _)
      have KT := Lib.hid ((((Keep.of_below (S := fun j => j = g) HB3.out).trans KE.out).trans (Keep.of_below HB5.out)).trans K6.out)
      have I6 := Lib.hid (show CpI h M w W6 (k + 1) (hset H k ⟨la, lc, da, dc, sa, sc⟩) Ac qc At qt Ag qg from ⟨KT.out.blk II.out.b0 (by omega), KT.out.blk II.out.b1 (by omega), KT.out.blk II.out.b2 (by omega),
        II.out.rc.keep KT.out (fun a ha e => RowR.ne II.out.rc II.out.rg (by decide) ha hAg e), II.out.rt.keep KT.out (fun a ha e => RowR.ne II.out.rt II.out.rg (by decide) ha hAg e),
        R6.out.congr (fun j i hj hi => by
          by_cases ej : j = k
          · subst ej
            rw [show hmix (hset H j ⟨la, lc, da, dc, sa, sc⟩) h.gh (j + 1) j = ⟨la, lc, da, dc, sa, sc⟩ by rw [hmix, if_pos (by omega), hset_same]]
            simp only [if_true, true_and, List.foldl_cons, List.foldl_nil]
            match i, hi with
            | 0, _ | 1, _ | 2, _ | 3, _ | 4, _ | 5, _ | 6, _ | 7, _ | 8, _ | 9, _ | 10, _ | 11, _ | 12, _ | 13, _ => rfl
            | i + 14, h => omega
          · rw [show hmix (hset H k ⟨la, lc, da, dc, sa, sc⟩) h.gh (k + 1) j = hmix H h.gh k j by
              unfold hmix
              by_cases e2 : j < k
              · rw [if_pos e2, if_pos (by omega), hset_other _ _ ej]
              · rw [if_neg e2, if_neg (by omega)]]
            simp [ej]),
        GSubO.step (N := wr.heap.size) (II.out.sub.keepS KT.out (fun j hj hl => ⟨fun a ha e => RowR.ne (II.out.sub.1 j hl hj).2.1 II.out.rg (by decide) ha hAg e, fun a ha e => RowR.ne (II.out.sub.1 j hl hj).2.2.1 II.out.rg (by decide) ha hAg e, fun a ha e => RowR.ne (II.out.sub.1 j hl hj).2.2.2 II.out.rg (by decide) ha hAg e⟩)) HLT.out
          (by
            have l1 : IntR W6 (w.heap.size + 3) la (grp M k).band.locals := ((((HL3.out.keep KE.out fun a ha e => by have := (HL3.out.lt ha).1; omega).below HB5.out).keep K6.out fun a ha e => by have := (HL3.out.lt ha).1; omega)).mono (by have := HBE.out.size; have := II.out.b2.lt; omega)
            have l2 : BoolR W6 (w.heap.size + 3) da (grp M k).band.dry := ((((HD3.out.keep KE.out fun a ha e => by have := (HD3.out.lt ha).1; omega).below HB5.out).keep K6.out fun a ha e => by have := (HD3.out.lt ha).1; omega)).mono (by have := HBE.out.size; have := II.out.b2.lt; omega)
            have hw4 : wr.heap.size ≤ W4.drew.heap.size := by have := HB3.out.size; have := KE.out.size; show wr.heap.size ≤ W4.heap.size; omega
            have l3 : ShelfR W6 (w.heap.size + 3) sa (grp M k).shelves := (HS5.out.keep K6.out fun a ha e => by have := (HS5.out.lt ha).1; omega).mono (by have := HBE.out.size; have := II.out.b2.lt; omega)
            rw [grp_eq HLT.out]
            exact ⟨⟨fun a ha => (l1.lt ha).1, fun a ha => (l2.lt ha).1, fun a ha => (l3.lt ha).1⟩, l1, l2, l3⟩)
          ⟨fun a ha => by have := (HL3.out.lt ha).1; omega, fun a ha => by have := (HD3.out.lt ha).1; omega, fun a ha => by have := (HS5.out.lt ha).1; have := HB3.out.size; have := KE.out.size; have : W4.drew.heap.size = W4.heap.size := rfl; omega⟩ (II.out.sub.old HKL.out),
        II.out.bel.trans (KT.out.below (B := w.heap.size) II.out.bel.size fun j e => by omega)⟩)
      clear hw K6 R6 KT KE RG HFt HFf HRUN HB5 HS5 HL3 HD3 HB3 HBX n3 y13 v13 f13 KX
      go_wp2
      go_roundw
      case rel => exact ⟨k + 1, _, by have := HLT.out; omega, by go_num, I6.out⟩
      case measure => have := HLT.out; simp [intOf]; omega
    · obtain rfl : k = M.groups.length := by omega
      clear hk hlt I0
      have g0 := hI.b2.cell 0
      have g1 := hI.b2.cell 1
      have g2 := hI.b2.cell 2
      have g3 := hI.b2.cell 3
      have y0 := hI.b1.cell 0
      have y1 := hI.b1.cell 1
      have y2 := hI.b1.cell 2
      have y3 := hI.b1.cell 3
      have f1 := fun i => hI.b1.frozen i
      simp at g0 g1 g2 g3 y0 y1 y2 y3
      clear hI
      go_wp2
      have kk := Lib.hid (show Keep (fun i => i = w.heap.size + 1) wr ((((wr.setCell ⟨w.heap.size + 1, 0, none⟩ (.int .i64 M.now)).setCell ⟨w.heap.size + 1, 1, none⟩ (.slice Ac M.cpus.length qc)).setCell ⟨w.heap.size + 1, 2, none⟩ (.slice At M.tasks.length qt)).setCell ⟨w.heap.size + 1, 3, none⟩ (.slice Ag M.groups.length qg)) from ((((Keep.set _ _ _ (by rfl)).trans (Keep.set _ _ _ (by rfl))).trans (Keep.set _ _ _ (by rfl))).trans (Keep.set _ _ _ (by rfl))))
      refine bodyPost_ret (v := .agg #[.int .i64 M.now, .slice Ac M.cpus.length qc, .slice At M.tasks.length qt, .slice Ag M.groups.length qg]) (by simp [results, Tryz.results94, go_sem, *]) rfl ⟨⟨Ac, qc, At, qt, Ag, qg, H⟩, rfl, HBE.out.trans (kk.out.below HBE.out.size fun i h => by omega), ?_⟩
      have ow : Own wr (w.heap.size + 3) Ac At Ag H M := ⟨II.out.rc, II.out.rt, II.out.rg.congr fun j i hj _ => by rw [hmix, if_pos hj]; rfl,
        fun j hj => by rw [← grp_eq hj]; exact (II.out.sub.1 j hj hj).2.1, fun j hj => by rw [← grp_eq hj]; exact (II.out.sub.1 j hj hj).2.2.1, fun j hj => by rw [← grp_eq hj]; exact (II.out.sub.1 j hj hj).2.2.2, II.out.sub.2.1, II.out.sub.2.2.1, II.out.sub.2.2.2⟩
      exact (ow.keep kk.out fun g hg e => by have := (ow.has hg).1; omega).mono (by omega)
end Go.Proofs.YtknfpigaognklaaGreatDoor
namespace Go.Proofs.YtknfpigaognklaaGreatDoor
open Go.RowKit Go.Extern.Stop Go.Stop Go.Extern
theorem as_nil (t : Value) (w : World) :
    Calls Tryz.prog 167 #[.nilIface, t] w fun e w' => e = .returned (.bool false) ∧ w = w' := by
  go_enter Tryz.func167, Tryz.ntmps167
  go_wp2
  go_ret
  exact ⟨rfl, rfl⟩
theorem rf_valueP (t : Addr) (w : World) : (ReflectliteValue.unpack (.iface 171 (.pointer (some t)))).run Tryz.prog w
    = .ok (.agg #[.pointer (some ⟨5, 171, none⟩), .pointer (some ⟨w.heap.size, 0, none⟩), .int .u64 150]) (w.alloc (.cells #[.pointer (some t)] 171)) := by kernel_rfl
theorem rf_typeP (a : Addr) (w : World) : (ReflectliteValue.methodAny (ReflectliteValue.valueError "reflectlite.Value.Type" 0) (fun t _ _ _ => ReflectliteType.toType t) #[.agg #[.pointer (some ⟨5, 171, none⟩), .pointer (some a), .int .u64 150]]).run Tryz.prog w
    = .ok (.iface 205 (.agg #[.pointer (some ⟨5, 171, none⟩)])) w := by kernel_rfl
theorem rf_mKind (h : Value) (w : World) : (Go.method 347 205 (.agg #[h]) "Kind").run Tryz.prog w = .ok (226, h) w := by kernel_rfl
theorem rf_kindP (w : World) : ((ReflectliteType.abiMethod fun t => (fun a : Nat => Value.int IntKind.u8 (a : Int)) <$> Rtype.kind t) #[.pointer (some ⟨5, 171, none⟩)]).run Tryz.prog w = .ok (.int .u8 22) w := by kernel_rfl
theorem rf_kindR (w : World) : ((ReflectliteType.abiMethod fun t => (fun a : Nat => Value.int IntKind.u8 (a : Int)) <$> Rtype.kind t) #[.pointer (some ⟨5, 128, none⟩)]).run Tryz.prog w = .ok (.int .u8 25) w := by kernel_rfl
theorem rf_rlm (z : Sem Value) (f : TypeId → Addr → Nat → Nat → Sem Value) (v : Value) :
    ReflectliteValue.method z f #[v] = (do match ← ReflectliteValue.parts v with | none => z | some (t, a, fl) => f t a fl (fl % 32)) := rfl
theorem rf_partsP (a : Addr) (w : World) : (ReflectliteValue.parts (.agg #[.pointer (some ⟨5, 171, none⟩), .pointer (some a), .int .u64 150])).run Tryz.prog w = .ok (some (171, a, 150)) w := by kernel_rfl
theorem rf_isNilP (a p : Addr) (W : World) (ha : W.cell? a = some (.pointer (some p))) :
    (ReflectliteValue.method (ReflectliteValue.valueError "reflectlite.Value.IsNil" 0) ReflectliteValue.isNil #[.agg #[.pointer (some ⟨5, 171, none⟩), .pointer (some a), .int .u64 150]]).run Tryz.prog W = .ok (.bool false) W := by
  rw [rf_rlm]
  simp only [Sem.run_bind, rf_partsP, Result.andThen]
  simp [ReflectliteValue.isNil, loadVar, isAgg, underlying, Tryz.underlying171, ha, Result.andThen]
theorem rf_mElem (h : Value) (w : World) : (Go.method 347 205 (.agg #[h]) "Elem").run Tryz.prog w = .ok (239, .agg #[h]) w := by kernel_rfl
theorem rf_mImpl (h : Value) (w : World) : (Go.method 347 205 (.agg #[h]) "Implements").run Tryz.prog w = .ok (240, .agg #[h]) w := by kernel_rfl
theorem rf_mAss (h : Value) (w : World) : (Go.method 347 205 (.agg #[h]) "AssignableTo").run Tryz.prog w = .ok (237, .agg #[h]) w := by kernel_rfl
theorem rf_elemP (w : World) : (ReflectliteType.method ReflectliteType.elem #[.agg #[.pointer (some ⟨5, 171, none⟩)]]).run Tryz.prog w = .ok (.iface 205 (.agg #[.pointer (some ⟨5, 128, none⟩)])) w := by kernel_rfl
theorem rf_implR (w : World) : (ReflectliteType.relation "Implements" ReflectliteType.implements_ #[.agg #[.pointer (some ⟨5, 128, none⟩)], .iface 205 (.agg #[.pointer (some ⟨5, 67, none⟩)])]).run Tryz.prog w = .ok (.bool true) w := by kernel_rfl
theorem rf_typeOfR (v : Value) (w : World) : (ReflectliteType.typeOf #[.iface 128 v]).run Tryz.prog w = .ok (.iface 205 (.agg #[.pointer (some ⟨5, 128, none⟩)])) w := by kernel_rfl
theorem rf_assR (w : World) : (ReflectliteType.relation "AssignableTo" ReflectliteType.assignableTo #[.agg #[.pointer (some ⟨5, 128, none⟩)], .iface 205 (.agg #[.pointer (some ⟨5, 128, none⟩)])]).run Tryz.prog w = .ok (.bool true) w := by kernel_rfl
theorem rf_valueR (c : Int) (w : World) : (ReflectliteValue.unpack (.iface 128 (.agg #[.int .i64 c]))).run Tryz.prog w
    = .ok (.agg #[.pointer (some ⟨5, 128, none⟩), .pointer (some ⟨w.heap.size, 0, none⟩), .int .u64 153]) (w.alloc (.cells #[.int .i64 c] 128)) := by kernel_rfl
theorem rf_elemOfP (w : World) : (Rtype.elem? 171).run Tryz.prog w = .ok (some 128) w := by kernel_rfl
theorem rf_mkR (p : Addr) (w : World) : (ReflectliteValue.mk 128 p ReflectliteValue.flagAddr).run Tryz.prog w = .ok (.agg #[.pointer (some ⟨5, 128, none⟩), .pointer (some p), .int .u64 409]) w := by kernel_rfl
theorem rf_elemVP (a p : Addr) (W : World) (ha : W.cell? a = some (.pointer (some p))) :
    (ReflectliteValue.method (ReflectliteValue.valueError "reflectlite.Value.Elem" 0) ReflectliteValue.elem #[.agg #[.pointer (some ⟨5, 171, none⟩), .pointer (some a), .int .u64 150]]).run Tryz.prog W
      = .ok (.agg #[.pointer (some ⟨5, 128, none⟩), .pointer (some p), .int .u64 409]) W := by
  rw [rf_rlm]
  simp only [Sem.run_bind, rf_partsP, Result.andThen]
  simp [ReflectliteValue.elem, loadVar, isAgg, underlying, Tryz.underlying171, ha, Result.andThen, rf_elemOfP, rf_mkR]
theorem rf_rls (v x : Value) : ReflectliteValue.set #[v, x] = (do
    let (some (dst, a, fl), some (src, b, _)) := (← ReflectliteValue.parts v, ← ReflectliteValue.parts x)
      | unsupported (.noEntry "extern/(internal/reflectlite.Value).Set.zeroValue")
    if fl / ReflectliteValue.flagAddr % 2 == 0 then unsupported (.noEntry "extern/(internal/reflectlite.Value).Set.unaddressable")
    let val ← loadVar src b
    if ← Rtype.directlyAssignable dst src then storeVar dst a val
    else if ← Rtype.implements dst src then
      if (← Rtype.kind src) == 20 then
        match val with
        | .nilIface => unsupported (.noEntry "extern/reflectlite: a nil value of one interface type handed on as a value of another")
        | _ => storeVar dst a val
      else storeVar dst a (.iface src val)
    else panicString ("reflectlite.Set: value of type " ++ (← Rtype.spelt src) ++ " is not assignable to type " ++ (← Rtype.spelt dst))
    pure (.tuple #[])) := rfl
theorem rf_partsRa (a : Addr) (w : World) : (ReflectliteValue.parts (.agg #[.pointer (some ⟨5, 128, none⟩), .pointer (some a), .int .u64 409])).run Tryz.prog w = .ok (some (128, a, 409)) w := by kernel_rfl
theorem rf_partsR (a : Addr) (w : World) : (ReflectliteValue.parts (.agg #[.pointer (some ⟨5, 128, none⟩), .pointer (some a), .int .u64 153])).run Tryz.prog w = .ok (some (128, a, 153)) w := by kernel_rfl
theorem rf_directR (w : World) : (Rtype.directlyAssignable 128 128).run Tryz.prog w = .ok true w := by kernel_rfl
theorem rf_sizeR (w : World) : (sizeOf 128).run Tryz.prog w = .ok 1 w := by kernel_rfl
theorem rf_loadR (b : Nat) (c : Int) (W : World) (hb : W.cell? ⟨b, 0, none⟩ = some (.int .i64 c)) : (loadVar 128 ⟨b, 0, none⟩).run Tryz.prog W = .ok (.agg #[.int .i64 c]) W := by
  simp [loadVar, isAgg, underlying, Tryz.underlying128, Result.andThen, loadCells, loadCellsFrom, Addr.add, hb]
theorem rf_setR (ta b : Nat) (c : Int) (old : Value) (W : World) (hb : W.cell? ⟨b, 0, none⟩ = some (.int .i64 c)) (ht : W.cell? ⟨ta, 0, none⟩ = some old) (hf : W.frozen? ⟨ta, 0, none⟩ = false) :
    (ReflectliteValue.set #[.agg #[.pointer (some ⟨5, 128, none⟩), .pointer (some ⟨ta, 0, none⟩), .int .u64 409], .agg #[.pointer (some ⟨5, 128, none⟩), .pointer (some ⟨b, 0, none⟩), .int .u64 153]]).run Tryz.prog W
      = .ok (.tuple #[]) (W.setCell ⟨ta, 0, none⟩ (.int .i64 c)) := by
  rw [rf_rls]
  simp only [Sem.run_bind, rf_partsRa, rf_partsR, Result.andThen]
  simp [ReflectliteValue.flagAddr, rf_loadR b c W hb, Result.andThen, rf_directR, storeVar, Value.cells, storeCells, Addr.add]
  rw [run_store Tryz.prog W ⟨ta, 0, none⟩ _ _ (by rfl)]
  simp [ht, hf]
/-- where errors.errorType lies -/
def ErrIs (w : World) : Prop := w.cell? ⟨1, 0, none⟩ = some (.iface 205 (.agg #[.pointer (some ⟨5, 67, none⟩)]))
theorem ErrIs.lt {w : World} (h : ErrIs w) : 1 < w.heap.size := World.block_lt_of_cell? _ _ h
theorem ErrIs.keep {w w' : World} (h : ErrIs w) (hb : Below w.heap.size w w') : ErrIs w' := (hb.cell (p := ⟨1, 0, none⟩) h.lt).trans h
set_option maxRecDepth 100000 in
set_option maxHeartbeats 4000000 in
theorem as_hit (c : Int) (t : Nat) (old : Value) (w : World) (hg : ErrIs w) (ht0 : w.cell? ⟨t, 0, none⟩ = some old) (hf0 : w.frozen? ⟨t, 0, none⟩ = false) :
    Calls Tryz.prog 167 #[.iface 128 (.agg #[.int .i64 c]), .iface 171 (.pointer (some ⟨t, 0, none⟩))] w fun ev w' => ev = .returned (.bool true) ∧ w' = ((((w.alloc (.cells #[.pointer (some ⟨t, 0, none⟩)] 171)).alloc (.cells #[.pointer (some ⟨5, 171, none⟩), .pointer (some ⟨w.heap.size, 0, none⟩), .int .u64 150] 191)).alloc (.cells #[.pointer (some ⟨5, 171, none⟩), .pointer (some ⟨w.heap.size, 0, none⟩), .int .u64 150] 191)).alloc (.cells #[.int .i64 c] 128)).setCell ⟨t, 0, none⟩ (.int .i64 c) := by
  unfold ErrIs at hg
  have h6 := @run_callFunc_extern Tryz.prog 195 _ (fun args => ReflectliteValue.unpack (args.getD 0 (.tuple #[]))) Tryz.func195 (by kernel_rfl) (by kernel_rfl) (by kernel_rfl) (by kernel_rfl)
  have h7 := @run_callFunc_extern Tryz.prog 196 _ (ReflectliteValue.methodAny (ReflectliteValue.valueError "reflectlite.Value.Type" 0) (fun t _ _ _ => ReflectliteType.toType t)) Tryz.func196 (by kernel_rfl) (by kernel_rfl) (by kernel_rfl) (by kernel_rfl)
  have h8 := @run_callFunc_extern Tryz.prog 197 _ (ReflectliteValue.method (ReflectliteValue.valueError "reflectlite.Value.IsNil" 0) ReflectliteValue.isNil) Tryz.func197 (by kernel_rfl) (by kernel_rfl) (by kernel_rfl) (by kernel_rfl)
  have h27 := @run_callFunc_extern Tryz.prog 226 _ (ReflectliteType.abiMethod fun t => do pure (.int .u8 (← Rtype.kind t))) Tryz.func226 (by kernel_rfl) (by kernel_rfl) (by kernel_rfl) (by kernel_rfl)
  have h37 := @run_callFunc_extern Tryz.prog 239 _ (ReflectliteType.method ReflectliteType.elem) Tryz.func239 (by kernel_rfl) (by kernel_rfl) (by kernel_rfl) (by kernel_rfl)
  have h38 := @run_callFunc_extern Tryz.prog 240 _ (ReflectliteType.relation "Implements" ReflectliteType.implements_) Tryz.func240 (by kernel_rfl) (by kernel_rfl) (by kernel_rfl) (by kernel_rfl)
  have h10 := @run_callFunc_extern Tryz.prog 207 _ ReflectliteType.typeOf Tryz.func207 (by kernel_rfl) (by kernel_rfl) (by kernel_rfl) (by kernel_rfl)
  have h35 := @run_callFunc_extern Tryz.prog 237 _ (ReflectliteType.relation "AssignableTo" ReflectliteType.assignableTo) Tryz.func237 (by kernel_rfl) (by kernel_rfl) (by kernel_rfl) (by kernel_rfl)
  have h11 := @run_callFunc_extern Tryz.prog 208 _ (ReflectliteValue.method (ReflectliteValue.valueError "reflectlite.Value.Elem" 0) ReflectliteValue.elem) Tryz.func208 (by kernel_rfl) (by kernel_rfl) (by kernel_rfl) (by kernel_rfl)
  have h12 := @run_callFunc_extern Tryz.prog 209 _ ReflectliteValue.set Tryz.func209 (by kernel_rfl) (by kernel_rfl) (by kernel_rfl) (by kernel_rfl)
  have tO := rf_typeOfR
  have mA := rf_mAss
  have a25 := rf_assR
  have v25 := rf_valueR
  have f6 := rf_valueP
  have f7 := rf_typeP
  have mK := rf_mKind
  have mE := rf_mElem
  have mI := rf_mImpl
  have k27 := rf_kindP
  have k25 := rf_kindR
  have e27 := rf_elemP
  have i25 := rf_implR
  have n8 := rf_isNilP ⟨w.heap.size, 0, none⟩ ⟨t, 0, none⟩ ((w.alloc (.cells #[.pointer (some ⟨t, 0, none⟩)] 171)).alloc (.cells #[.pointer (some ⟨5, 171, none⟩), .pointer (some ⟨w.heap.size, 0, none⟩), .int .u64 150] 191)) (by simp)
  have hlt : 1 < w.heap.size := World.block_lt_of_cell? _ _ hg
  have hg2 : ((w.alloc (.cells #[.pointer (some ⟨t, 0, none⟩)] 171)).alloc (.cells #[.pointer (some ⟨5, 171, none⟩), .pointer (some ⟨w.heap.size, 0, none⟩), .int .u64 150] 191)).cell? ⟨1, 0, none⟩ = some (.iface 205 (.agg #[.pointer (some ⟨5, 67, none⟩)])) := by
    rw [World.cell?_alloc_lt _ _ ⟨1, 0, none⟩ (by simp; omega), World.cell?_alloc_lt _ _ ⟨1, 0, none⟩ hlt]; exact hg
  have htl : t < w.heap.size := World.block_lt_of_cell? _ _ ht0
  have el := rf_elemVP ⟨w.heap.size, 0, none⟩ ⟨t, 0, none⟩ (((w.alloc (.cells #[.pointer (some ⟨t, 0, none⟩)] 171)).alloc (.cells #[.pointer (some ⟨5, 171, none⟩), .pointer (some ⟨w.heap.size, 0, none⟩), .int .u64 150] 191)).alloc (.cells #[.pointer (some ⟨5, 171, none⟩), .pointer (some ⟨w.heap.size, 0, none⟩), .int .u64 150] 191)) (by rw [World.cell?_alloc_lt _ _ ⟨w.heap.size, 0, none⟩ (by simp; omega)]; simp)
  have st := rf_setR t (w.heap.size + 1 + 1 + 1) c old ((((w.alloc (.cells #[.pointer (some ⟨t, 0, none⟩)] 171)).alloc (.cells #[.pointer (some ⟨5, 171, none⟩), .pointer (some ⟨w.heap.size, 0, none⟩), .int .u64 150] 191)).alloc (.cells #[.pointer (some ⟨5, 171, none⟩), .pointer (some ⟨w.heap.size, 0, none⟩), .int .u64 150] 191)).alloc (.cells #[.int .i64 c] 128))
    (by rw [World.cell?_alloc_at _ _ _ _ (by simp)]; rfl)
    (by rw [World.cell?_alloc_lt _ _ ⟨t, 0, none⟩ (by simp; omega), World.cell?_alloc_lt _ _ ⟨t, 0, none⟩ (by simp; omega), World.cell?_alloc_lt _ _ ⟨t, 0, none⟩ (by simp; omega), World.cell?_alloc_lt _ _ ⟨t, 0, none⟩ htl]; exact ht0)
    (by rw [World.frozen?_alloc_old _ _ ⟨t, 0, none⟩ (by simp; omega), World.frozen?_alloc_old _ _ ⟨t, 0, none⟩ (by simp; omega), World.frozen?_alloc_old _ _ ⟨t, 0, none⟩ (by simp; omega), World.frozen?_alloc_old _ _ ⟨t, 0, none⟩ (Nat.ne_of_lt htl)]; exact hf0)
  go_enter Tryz.func167, Tryz.ntmps167
  go_wp2
  refine wp_loop_rounds 1 ?_
  rw [rounds_succ]
  go_wp2
  go_ret
  exact ⟨rfl, rfl⟩
end Go.Proofs.YtknfpigaognklaaGreatDoor
namespace Go.Proofs.YtknfpigaognklaaGreatDoor
open Go.RowKit Go.Sort
/-- a world behind a pointer, its cells known whole -/
abbrev PBox (w : World) (p : Nat) (x : WH) (M : WorldM) : Prop := Blk w p 33 #[.int .i64 M.now, .slice x.ca M.cpus.length x.cc, .slice x.ta M.tasks.length x.tc, .slice x.ga M.groups.length x.gc]
theorem pa_of {w : World} {p B : Nat} {x : WH} {M : WorldM} (h : PBox w p x M) (o : Own w B x.ca x.ta x.ga x.gh M) : PA w p x.ca x.cc x.ta x.tc x.ga x.gc x.gh M :=
  ⟨h.lt, by rw [h.cell 0]; rfl, by rw [h.cell 1]; rfl, by rw [h.cell 2]; rfl, by rw [h.cell 3]; rfl, o.wa⟩
/-- a call on the copy is done -/
def CDone (p : Nat) (x : WH) (M' : WorldM) (B n : Nat) (W : World) (e : Ending) (W' : World) : Prop := ∃ gh', e = .returned .nilIface ∧ PBox W' p { x with gh := gh' } M' ∧ Own W' B x.ca x.ta x.ga gh' M' ∧ Keep (fun j => j = p ∨ Has x.ca x.ta x.ga x.gh n j) W W'
/-- a call on the copy is refused -/
def CRef (p : Nat) (x : WH) (c : Int) (n : Nat) (W : World) (e : Ending) (W' : World) : Prop := e = .returned (.iface 128 (.agg #[.int .i64 c])) ∧ Keep (fun j => j = p ∨ Has x.ca x.ta x.ga x.gh n j) W W'
/-- what a call on the copy may lean on -/
structure COn (w W : World) (p : Nat) (x : WH) (M : WorldM) (B : Nat) : Prop where
  bel : Below w.heap.size w W
  box : PBox W p x M
  own : Own W B x.ca x.ta x.ga x.gh M
  low : w.heap.size ≤ B
  lowp : w.heap.size ≤ p
  out : ¬ Has x.ca x.ta x.ga x.gh M.groups.length p
set_option maxRecDepth 100000 in
set_option maxHeartbeats 4000000 in
theorem iAttempt_bad (h : WH) (M : WorldM) (w : World) (hs : WAt w h M) (hf : WFit M) (hx : NextOk M) (F : FuncId) (cps : Array Value) (_hF : ∀ (args : Array Value) (u : World), (callFunc F args).run Tryz.prog u = .ok (.enter F args) u) (hB : worldB M = false) :
    Calls Tryz.prog 114 #[.agg #[.int .i64 M.now, .slice h.ca M.cpus.length h.cc, .slice h.ta M.tasks.length h.tc, .slice h.ga M.groups.length h.gc], .func (.func F) #[] cps] w (WPost world0 1 w) := by
  have HWB := Lib.hid hB
  clear hB
  go_enter Tryz.func114, Tryz.ntmps114
  go_upto_region 1 with (fail)
  refine gen2 (p := fun W => Code.wp _ _ _ _ W) ?_
  intro W b1 s1 k0 k1
  have B1 := Lib.hid b1
  have K0 := Lib.hid k0
  have K1 := Lib.hid k1
  have S1 := Lib.hid s1
  have hs1 := hs.keep b1
  clear b1 k0 k1 s1
  have c0 := K0.out.cell 0
  have c1 := K0.out.cell 1
  have c2 := K0.out.cell 2
  have c3 := K0.out.cell 3
  have cf := fun i => K0.out.frozen i
  simp at c0 c1 c2 c3
  go_wp2_with fail
  refine (iWorldOk_any h.ca h.cc h.ta h.tc h.ga h.gc h.gh M _ (WA.of hs1) (fitG_of hf) hx).mono ?_
  rintro e w2 ⟨rfl, hb2⟩
  rw [HWB.out]
  have K1b := Lib.hid (K1.out.below hb2 K1.out.lt)
  clear c0 c1 c2 c3 cf
  have d0 := K1b.out.cell 0
  have d1 := K1b.out.cell 1
  have d2 := K1b.out.cell 2
  have d3 := K1b.out.cell 3
  have df := fun i => K1b.out.frozen i
  simp at d0 d1 d2 d3
  go_wp2
  refine bodyPost_ret (v := .tuple #[.agg #[.int .i64 0, .slice none 0 0, .slice none 0 0, .slice none 0 0], .int .i64 1]) (by simp [results, Tryz.results114, go_sem, *]) rfl ⟨⟨none, 0, none, 0, none, 0, h.gh⟩, rfl, ?_, own0 _ _ _⟩
  exact ((((B1.out.andThen hb2).setCell (by simp) _).setCell (by simp) _).setCell (by simp) _).setCell (by simp) _
set_option maxRecDepth 100000 in
set_option maxHeartbeats 4000000 in
theorem iAttempt_done (h : WH) (M : WorldM) (w : World) (hs : WAt w h M) (hf : WFit M) (hx : NextOk M) (F : FuncId) (cps : Array Value) (hF : ∀ (args : Array Value) (u : World), (callFunc F args).run Tryz.prog u = .ok (.enter F args) u) (hB : worldB M = true) (M' : WorldM) (hl : M'.groups.length = M.groups.length)
    (hc : ∀ (W : World) (p : Nat) (x : WH) (B : Nat), COn w W p x M B → Calls Tryz.prog F (#[.pointer (some ⟨p, 0, none⟩)] ++ cps) W (CDone p x M' B M.groups.length W)) :
    Calls Tryz.prog 114 #[.agg #[.int .i64 M.now, .slice h.ca M.cpus.length h.cc, .slice h.ta M.tasks.length h.tc, .slice h.ga M.groups.length h.gc], .func (.func F) #[] cps] w (WPost M' 0 w) := by
  have HWB := Lib.hid hB
  have HC := Lib.hid hc
  have HGL := Lib.hid hl
  clear hB hc hl
  go_enter Tryz.func114, Tryz.ntmps114
  go_upto_region 1 with (fail)
  refine gen2 (p := fun W => Code.wp _ _ _ _ W) ?_
  intro W b1 s1 k0 k1
  have B1 := Lib.hid b1
  have K0 := Lib.hid k0
  have K1 := Lib.hid k1
  have S1 := Lib.hid s1
  have hs1 := hs.keep b1
  clear b1 k0 k1 s1
  have c0 := K0.out.cell 0
  have c1 := K0.out.cell 1
  have c2 := K0.out.cell 2
  have c3 := K0.out.cell 3
  have cf := fun i => K0.out.frozen i
  simp at c0 c1 c2 c3
  go_wp2_with fail
  refine (iWorldOk_any h.ca h.cc h.ta h.tc h.ga h.gc h.gh M _ (WA.of hs1) (fitG_of hf) hx).mono ?_
  rintro e w2 ⟨rfl, hb2⟩
  rw [HWB.out]
  have K0b := Lib.hid (K0.out.below hb2 K0.out.lt)
  have K1b := Lib.hid (K1.out.below hb2 K1.out.lt)
  have hs2 := hs1.keep hb2
  have B2 := Lib.hid (B1.out.andThen hb2)
  have Z2 := Lib.hid hb2.size
  clear c0 c1 c2 c3 cf
  clear hs1 hb2 K0 K1 B1
  have c0 := K0b.out.cell 0
  have c1 := K0b.out.cell 1
  have c2 := K0b.out.cell 2
  have c3 := K0b.out.cell 3
  have cf := fun i => K0b.out.frozen i
  simp at c0 c1 c2 c3
  go_wp2_with fail
  refine (iCopy_any h M _ hs2 hf).mono ?_
  rintro e w3 ⟨x, rfl, hb3, ow⟩
  have K0c := Lib.hid (K0b.out.below hb3 K0b.out.lt)
  have K1c := Lib.hid (K1b.out.below hb3 K1b.out.lt)
  have HS3 := Lib.hid (hs2.keep hb3)
  have B3 := Lib.hid (B2.out.andThen hb3)
  have OW := Lib.hid ow
  have Z3 := Lib.hid hb3.size
  clear c0 c1 c2 c3 cf
  clear hs2 hb3 ow K0b K1b B2
  go_upto_region 5 with (fail)
  refine gen2 (p := fun W => Code.wp _ _ _ _ W) ?_
  intro w4 b4 s4 k2 k3
  have CO := Lib.hid (show COn w w4 w3.heap.size x M w2.heap.size from ⟨B3.out.andThen b4, k2, OW.out.below b4, by have := Z2.out; have := S1.out; omega, by have := Z2.out; have := S1.out; have := Z3.out; omega, fun g => by have := (OW.out.has g).2; omega⟩)
  have HAS3 := Lib.hid (fun g (hg : Has x.ca x.ta x.ga x.gh M.groups.length g) => (OW.out.has hg).2)
  have K0d := Lib.hid (K0c.out.below b4 K0c.out.lt)
  have K1d := Lib.hid (K1c.out.below b4 K1c.out.lt)
  have K3 := Lib.hid k3
  have HS4 := Lib.hid (HS3.out.keep b4)
  have Z4 := Lib.hid s4
  clear b4 s4 k2 k3 K0c K1c HS3 OW B3
  go_wp2_with fail
  refine (HC.out w4 _ x _ CO.out).mono ?_
  rintro e w5 ⟨gh', rfl, kb, ow5, kk⟩
  have hno : ∀ j, j < w.heap.size + 2 → ¬ (j = w3.heap.size ∨ Has x.ca x.ta x.ga x.gh M.groups.length j) := fun j hj hh => by
    have z1 := Z2.out; have z2 := Z3.out; have z3 := S1.out
    rcases hh with hh | hh
    · omega
    · have := (CO.out.own.has hh).1; omega
  have KB := Lib.hid kb
  have OW5 := Lib.hid ow5
  have K1e := Lib.hid (kk.blk K1d.out (hno _ (by omega)))
  have BF := Lib.hid (CO.out.bel.trans (kk.below (B := w.heap.size) CO.out.bel.size fun j hj => by
      have h1 := CO.out.lowp; have h2 := CO.out.low
      rcases hj with hj | hj
      · omega
      · have := (CO.out.own.has hj).1; omega))
  have ZB := Lib.hid (show w.heap.size + 1 < w2.heap.size by have := Z2.out; have := S1.out; omega)
  clear kb ow5 kk hno
  have n0 := KB.out.cell 0
  have n1 := KB.out.cell 1
  have n2 := KB.out.cell 2
  have n3 := KB.out.cell 3
  simp at n0 n1 n2 n3
  go_upto_region 7 with (go_at_call 167; refine (as_nil _ _).mono ?_; rintro e w6 ⟨rfl, rfl⟩)
  have d0 := K1e.out.cell 0
  have d1 := K1e.out.cell 1
  have d2 := K1e.out.cell 2
  have d3 := K1e.out.cell 3
  have df := fun i => K1e.out.frozen i
  simp at d0 d1 d2 d3
  go_wp2
  have kz := Lib.hid (show Keep (fun i => i = w.heap.size + 1) w5 ((((w5.setCell ⟨w.heap.size + 1, 0, none⟩ (.int .i64 M'.now)).setCell ⟨w.heap.size + 1, 1, none⟩ (.slice x.ca M'.cpus.length x.cc)).setCell ⟨w.heap.size + 1, 2, none⟩ (.slice x.ta M'.tasks.length x.tc)).setCell ⟨w.heap.size + 1, 3, none⟩ (.slice x.ga M'.groups.length x.gc)) from ((((Keep.set _ _ _ (by rfl)).trans (Keep.set _ _ _ (by rfl))).trans (Keep.set _ _ _ (by rfl))).trans (Keep.set _ _ _ (by rfl))))
  refine bodyPost_ret (v := .tuple #[.agg #[.int .i64 M'.now, .slice x.ca M'.cpus.length x.cc, .slice x.ta M'.tasks.length x.tc, .slice x.ga M'.groups.length x.gc], .int .i64 0]) (by simp [results, Tryz.results114, go_sem, *]) rfl ⟨⟨x.ca, x.cc, x.ta, x.tc, x.ga, x.gc, gh'⟩, rfl, ?_, ?_⟩
  · exact BF.out.trans (kz.out.below BF.out.size fun i h => by omega)
  · exact OW5.out.fin kz.out (fun i h => by have := ZB.out; omega) (by have := ZB.out; omega)
set_option maxRecDepth 100000 in
set_option maxHeartbeats 4000000 in
theorem iAttempt_refused (h : WH) (M : WorldM) (w : World) (hs : WAt w h M) (hf : WFit M) (hx : NextOk M) (F : FuncId) (cps : Array Value) (hF : ∀ (args : Array Value) (u : World), (callFunc F args).run Tryz.prog u = .ok (.enter F args) u) (hB : worldB M = true) (hE : ErrIs w) (code : Int)
    (hc : ∀ (W : World) (p : Nat) (x : WH) (B : Nat), COn w W p x M B → Calls Tryz.prog F (#[.pointer (some ⟨p, 0, none⟩)] ++ cps) W (CRef p x code M.groups.length W)) :
    Calls Tryz.prog 114 #[.agg #[.int .i64 M.now, .slice h.ca M.cpus.length h.cc, .slice h.ta M.tasks.length h.tc, .slice h.ga M.groups.length h.gc], .func (.func F) #[] cps] w (WPost M code w) := by
  have HWB := Lib.hid hB
  have HC := Lib.hid hc
  have HE := Lib.hid hE
  have HS := Lib.hid hs
  clear hB hc hE
  go_enter Tryz.func114, Tryz.ntmps114
  go_upto_region 1 with (fail)
  refine gen2 (p := fun W => Code.wp _ _ _ _ W) ?_
  intro W b1 s1 k0 k1
  have B1 := Lib.hid b1
  have K0 := Lib.hid k0
  have K1 := Lib.hid k1
  have S1 := Lib.hid s1
  have hs1 := hs.keep b1
  clear b1 k0 k1 s1
  have c0 := K0.out.cell 0
  have c1 := K0.out.cell 1
  have c2 := K0.out.cell 2
  have c3 := K0.out.cell 3
  have cf := fun i => K0.out.frozen i
  simp at c0 c1 c2 c3
  go_wp2_with fail
  refine (iWorldOk_any h.ca h.cc h.ta h.tc h.ga h.gc h.gh M _ (WA.of hs1) (fitG_of hf) hx).mono ?_
  rintro e w2 ⟨rfl, hb2⟩
  rw [HWB.out]
  have K0b := Lib.hid (K0.out.below hb2 K0.out.lt)
  have K1b := Lib.hid (K1.out.below hb2 K1.out.lt)
  have hs2 := hs1.keep hb2
  have B2 := Lib.hid (B1.out.andThen hb2)
  have Z2 := Lib.hid hb2.size
  clear c0 c1 c2 c3 cf
  clear hs1 hb2 K0 K1 B1
  have c0 := K0b.out.cell 0
  have c1 := K0b.out.cell 1
  have c2 := K0b.out.cell 2
  have c3 := K0b.out.cell 3
  have cf := fun i => K0b.out.frozen i
  simp at c0 c1 c2 c3
  go_wp2_with fail
  refine (iCopy_any h M _ hs2 hf).mono ?_
  rintro e w3 ⟨x, rfl, hb3, ow⟩
  have K0c := Lib.hid (K0b.out.below hb3 K0b.out.lt)
  have K1c := Lib.hid (K1b.out.below hb3 K1b.out.lt)
  have HS3 := Lib.hid (hs2.keep hb3)
  have B3 := Lib.hid (B2.out.andThen hb3)
  have OW := Lib.hid ow
  have Z3 := Lib.hid hb3.size
  clear c0 c1 c2 c3 cf
  clear hs2 hb3 ow K0b K1b B2
  go_upto_region 5 with (fail)
  refine gen2 (p := fun W => Code.wp _ _ _ _ W) ?_
  intro w4 b4 s4 k2 k3
  have CO := Lib.hid (show COn w w4 w3.heap.size x M w2.heap.size from ⟨B3.out.andThen b4, k2, OW.out.below b4, by have := Z2.out; have := S1.out; omega, by have := Z2.out; have := S1.out; have := Z3.out; omega, fun g => by have := (OW.out.has g).2; omega⟩)
  have HAS3 := Lib.hid (fun g (hg : Has x.ca x.ta x.ga x.gh M.groups.length g) => (OW.out.has hg).2)
  have K0d := Lib.hid (K0c.out.below b4 K0c.out.lt)
  have K1d := Lib.hid (K1c.out.below b4 K1c.out.lt)
  have K3 := Lib.hid k3
  have HS4 := Lib.hid (HS3.out.keep b4)
  have Z4 := Lib.hid s4
  clear b4 s4 k2 k3 K0c K1c HS3 OW B3
  go_wp2_with fail
  refine (HC.out w4 _ x _ CO.out).mono ?_
  rintro e w5 ⟨rfl, kk⟩
  have hno : ∀ j, j < w.heap.size + 2 → ¬ (j = w3.heap.size ∨ Has x.ca x.ta x.ga x.gh M.groups.length j) := fun j hj hh => by
    have z1 := Z2.out; have z2 := Z3.out; have z3 := S1.out
    rcases hh with hh | hh
    · omega
    · have := (CO.out.own.has hh).1; omega
  have K0e := Lib.hid (kk.blk K0d.out (hno _ (by omega)))
  have K1e := Lib.hid (kk.blk K1d.out (hno _ (by omega)))
  have K3e := Lib.hid (kk.blk K3.out (fun hh => by
      rcases hh with hh | hh
      · omega
      · have := (CO.out.own.has hh).2; have := CO.out.box.lt; have := Z4.out; have := (CO.out.own.has hh).1; have hq := HAS3.out _ hh; omega))
  have BF := Lib.hid (CO.out.bel.trans (kk.below (B := w.heap.size) CO.out.bel.size fun j hj => by
      have h1 := CO.out.lowp; have h2 := CO.out.low
      rcases hj with hj | hj
      · omega
      · have := (CO.out.own.has hj).1; omega))
  have ZB := Lib.hid (show w.heap.size + 1 < w2.heap.size by have := Z2.out; have := S1.out; omega)
  have ZP := Lib.hid (show w.heap.size + 1 < w3.heap.size by have := Z3.out; have := ZB.out; omega)
  have HE5 := HE.out.keep BF.out
  clear kk hno
  have r0 := K3e.out.cell 0
  have fr := K3e.out.frozen 0
  simp at r0
  go_upto_region 6 with (go_at_call 167; refine (as_hit code _ _ _ HE5 r0 fr).mono ?_; rintro e w6 ⟨rfl, hw6⟩; have HW6 := Lib.hid hw6; clear hw6)
  have KA := Lib.hid (show Keep (fun j => j = w3.heap.size + 1) w5 w6 by rw [HW6.out]; exact (Keep.of_below (((((Below.refl _ _).alloc (Nat.le_refl _) _).alloc (by simp) _).alloc (by simp; omega) _).alloc (by simp; omega) _)).trans (Keep.set _ _ _ rfl))
  have r6 : w6.cell? ⟨w3.heap.size + 1, 0, none⟩ = some (.int .i64 code) := by
    have hl := K3e.out.lt
    rw [HW6.out]
    exact (((((K3e.out.alloc _).alloc _).alloc _).alloc _).set_ 0 (.int .i64 code)).cell 0
  have lr6 : w3.heap.size + 1 < w6.heap.size := by have := KA.out.size; have := K3e.out.lt; omega
  have K0f := Lib.hid (KA.out.blk K0e.out (by have := ZP.out; omega))
  have K1f := Lib.hid (KA.out.blk K1e.out (by have := ZP.out; omega))
  have B6 := Lib.hid (BF.out.trans (KA.out.below (B := w.heap.size) BF.out.size fun j hj => by have := ZP.out; omega))
  have HS6 := Lib.hid (HS.out.keep B6.out)
  clear HW6 r0 fr HE5 KA K0e K1e K3e BF HS4 CO K0d K1d K3
  have c0 := K0f.out.cell 0
  have c1 := K0f.out.cell 1
  have c2 := K0f.out.cell 2
  have c3 := K0f.out.cell 3
  have cf := fun i => K0f.out.frozen i
  simp at c0 c1 c2 c3
  have bd : Below w6.heap.size w6 w6.drew := ⟨rfl, rfl, rfl, Nat.le_refl _, fun _ _ => rfl⟩
  have ne1 : ¬ w.heap.size = w3.heap.size := by have := ZP.out; omega
  have ne2 : ¬ w3.heap.size = w.heap.size := by have := ZP.out; omega
  have q6 := fun d os => cell_regrown r6 d os
  have q0 := fun d os => cell_regrown c0 d os
  have q1 := fun d os => cell_regrown c1 d os
  have q2 := fun d os => cell_regrown c2 d os
  have q3 := fun d os => cell_regrown c3 d os
  go_region_with ((go_at_call 94; refine (iCopy_any h M _ ?_ hf).mono ?_; exact HS6.out.keep bd; rintro e w7 ⟨y, rfl, hb7, ow7⟩; have r7 := (hb7.cell (p := ⟨w3.heap.size + 1, 0, none⟩) lr6).trans r6; have K1g := Lib.hid (K1f.out.below (bd.andThen hb7) K1f.out.lt); have d0 := K1g.out.cell 0; have d1 := K1g.out.cell 1; have d2 := K1g.out.cell 2; have d3 := K1g.out.cell 3; have df := (fun i => K1g.out.frozen i); simp at d0 d1 d2 d3; have BF := Lib.hid (B6.out.andThen (bd.andThen hb7)); have OW7 := Lib.hid ow7; have HZ7 := Lib.hid (show w.heap.size + 1 < w6.drew.heap.size from K1f.out.lt); clear hb7 ow7))
  all_goals
    go_wp2
    have kz := Lib.hid (show Keep (fun i => i = w.heap.size + 1) w7 ((((w7.setCell ⟨w.heap.size + 1, 0, none⟩ (.int .i64 M.now)).setCell ⟨w.heap.size + 1, 1, none⟩ (.slice y.ca M.cpus.length y.cc)).setCell ⟨w.heap.size + 1, 2, none⟩ (.slice y.ta M.tasks.length y.tc)).setCell ⟨w.heap.size + 1, 3, none⟩ (.slice y.ga M.groups.length y.gc)) from ((((Keep.set _ _ _ (by rfl)).trans (Keep.set _ _ _ (by rfl))).trans (Keep.set _ _ _ (by rfl))).trans (Keep.set _ _ _ (by rfl))))
    refine bodyPost_ret (v := .tuple #[.agg #[.int .i64 M.now, .slice y.ca M.cpus.length y.cc, .slice y.ta M.tasks.length y.tc, .slice y.ga M.groups.length y.gc], .int .i64 code]) (by simp [results, Tryz.results114, go_sem, *]) rfl ⟨⟨y.ca, y.cc, y.ta, y.tc, y.ga, y.gc, y.gh⟩, rfl, ?_, ?_⟩
    · exact BF.out.trans (kz.out.below BF.out.size fun i h => by omega)
    · exact OW7.out.fin kz.out (fun i h => by have := HZ7.out; omega) (by have := HZ7.out; omega)
end Go.Proofs.YtknfpigaognklaaGreatDoor
namespace Go.Proofs.YtknfpigaognklaaGreatDoor
open Go.RowKit Go.Sort
set_option maxRecDepth 100000 in
set_option maxHeartbeats 2000000 in
theorem iLastIx (p : ByteArray) (w : World) (h : pathOk p = true) :
    Calls Tryz.prog 165 #[.string p, .int .u8 47] w fun e w' => e = .returned (.int .i64 (lastK p p.size)) ∧ w = w' := by
  obtain ⟨h1, h2, h3⟩ := pathOk_parts h
  have i1 : (1 : Int) ≤ (p.size : Int) := by omega
  have i2 : (p.size : Int) ≤ 60 := by omega
  clear h h2
  go_enter Tryz.func165, Tryz.ntmps165
  go_wp2
  go_loop [5] (fun i => ∃ k : Nat, k < p.size ∧ i = .int .i64 k ∧ lastK p (k + 1) = lastK p p.size) (fun i => (intOf i).toNat)
  case atStart => exact ⟨p.size - 1, by omega, by first | rfl | go_num, by rw [show p.size - 1 + 1 = p.size by omega]⟩
  case round =>
    obtain ⟨k, hk, rfl, hl⟩ := hrel
    have HL := Lib.hid hl
    have k0 : (0 : Int) ≤ (k : Int) := by omega
    have k1 : (k : Int) < (p.size : Int) := by omega
    clear hl
    by_cases hb : (p[k].toNat : Int) = 47
    · have HK := Lib.hid (show lastK p p.size = k by rw [← HL.out, lastK, if_pos (by rw [byte_at hk]; omega)])
      go_wp2
      go_ret
      exact ⟨ret_int (by rw [HK.out]), rfl⟩
    · have hb2 : ((p[k].toNat : Int) == 47) = false := by simpa using hb
      have hz : k ≠ 0 := fun e => by subst e; exact hb h3
      have k2 : (1 : Int) ≤ (k : Int) := by omega
      have HN := Lib.hid (show lastK p (k - 1 + 1) = lastK p p.size by rw [← HL.out, show k - 1 + 1 = k by omega, lastK, if_neg (by rw [byte_at hk]; omega)])
      clear hb
      go_wp2
      go_round
      case rel => exact ⟨k - 1, by omega, by first | (rw [show ((k - 1 : Nat) : Int) = (k : Int) - 1 by omega]) | go_num, HN.out⟩
      case measure => simp [intOf]; omega
theorem iLastIndex (p : ByteArray) (w : World) (h : pathOk p = true) :
    Calls Tryz.prog 112 #[.string p, .int .u8 47] w fun e w' => e = .returned (.int .i64 (lastK p p.size)) ∧ w = w' := by
  go_enter Tryz.func112, Tryz.ntmps112
  go_wp2_with (go_at_call 165; refine (iLastIx p _ h).mono ?_; rintro e w' ⟨rfl, rfl⟩)
  go_ret
  exact ⟨rfl, rfl⟩
theorem lastK_lt {p : ByteArray} : ∀ k, lastK p k ≤ k
  | 0 => Nat.le_refl _
  | k + 1 => by
    rw [lastK]
    split
    · omega
    · have := lastK_lt (p := p) k; omega
theorem lastK_size {p : ByteArray} (h : 0 < p.size) : lastK p p.size < p.size := by
  obtain ⟨n, hn⟩ : ∃ n, p.size = n + 1 := ⟨p.size - 1, by omega⟩
  rw [hn, lastK]
  split
  · omega
  · have := lastK_lt (p := p) n; omega
set_option maxRecDepth 100000 in
set_option maxHeartbeats 2000000 in
theorem iSplit_yes (p : ByteArray) (w : World) (h : pathOk p = true) :
    Calls Tryz.prog 59 #[.string p] w fun e w' => e = .returned (.tuple #[.string (splitD p), .string (splitF p), .bool true]) ∧ Below w.heap.size w w' := by
  obtain ⟨h1, h2, h3⟩ := pathOk_parts h
  have HP := Lib.hid h
  have i1 : (1 : Int) ≤ (p.size : Int) := by omega
  have i2 : (p.size : Int) ≤ 60 := by omega
  have HR := Lib.hid (show inR p.size 1 60 = true by rw [inR_iff]; omega)
  have hkl := lastK_size h1
  have HD := Lib.hid (rfl : splitD p = splitD p)
  obtain ⟨k, hk⟩ : ∃ k, lastK p p.size = k := ⟨_, rfl⟩
  have HK := Lib.hid hk
  have k0 : (0 : Int) ≤ (k : Int) := by omega
  have k1 : (k : Int) < (p.size : Int) := by omega
  clear h h2 hk hkl
  by_cases hz : k = 0
  · subst hz
    go_enter Tryz.func59, Tryz.ntmps59
    go_upto_region 5 with (first | (go_at_call 111; refine (iInRange_any _ _ _ _).mono ?_; rintro e w' ⟨rfl, rfl⟩; rw [HR.out]) | (go_at_call 112; refine (iLastIndex p _ HP.out).mono ?_; rintro e w' ⟨rfl, rfl⟩; rw [HK.out]))
    refine region_by [false, false, false, false, false] (by kernel_rfl) (by kernel_rfl) (by kernel_rfl) ?_
    repeat (first | (refine wpR_skip (by rfl) ?_; simp only [Act.put, List.setIfInBounds_toArray, List.set_cons_zero, List.set_cons_succ]) | (refine wpR_det (by rfl) (fun K hK => ?_); go_big_quiet_op; refine hK _ ?_; clear hK K))
    refine wpR_nil ?_
    go_wp2
    exact bodyPost_ret (v := .tuple #[.string ⟨#[47]⟩, .string (p.extract 1 p.size), .bool true]) (by simp [results, Tryz.results59, go_sem]; try rfl) rfl ⟨by rw [splitD, splitF, HK.out]; rfl, (Below.refl _ _).drew⟩
  · have hz1 : (1 : Int) ≤ (k : Int) := by omega
    have hz2 : ((k : Int) == 0) = false := by simpa using hz
    go_enter Tryz.func59, Tryz.ntmps59
    go_upto_region 6 with (first | (go_at_call 111; refine (iInRange_any _ _ _ _).mono ?_; rintro e w' ⟨rfl, rfl⟩; rw [HR.out]) | (go_at_call 112; refine (iLastIndex p _ HP.out).mono ?_; rintro e w' ⟨rfl, rfl⟩; rw [HK.out]))
    refine region_by [false, false, false, false, false, false, false, false, false, false] (by kernel_rfl) (by kernel_rfl) (by kernel_rfl) ?_
    repeat (first | (refine wpR_skip (by rfl) ?_; simp only [Act.put, List.setIfInBounds_toArray, List.set_cons_zero, List.set_cons_succ]) | (refine wpR_det (by rfl) (fun K hK => ?_); go_big_quiet_op; refine hK _ ?_; clear hK K))
    refine wpR_nil ?_
    go_wp2
    exact bodyPost_ret (v := .tuple #[.string (p.extract 0 k), .string (p.extract (k + 1) p.size), .bool true]) (by simp [results, Tryz.results59, go_sem]; try rfl) rfl ⟨by rw [splitD, splitF, HK.out, if_neg hz], (Below.refl _ _).drew⟩
set_option maxRecDepth 100000 in
set_option maxHeartbeats 2000000 in
theorem iSplit_no (p : ByteArray) (w : World) (h : pathOk p = false) :
    Calls Tryz.prog 59 #[.string p] w fun e w' => e = .returned (.tuple #[.string .empty, .string .empty, .bool false]) ∧ Below w.heap.size w w' := by
  by_cases h1 : inR p.size 1 60 = true
  · have h2 := inR_iff.1 h1
    have HR := Lib.hid h1
    have i1 : (1 : Int) ≤ (p.size : Int) := by omega
    have h0 : 0 < p.size := by omega
    have i3 : ((p[0].toNat : Int) == 47) = false := by
      have e : p.data.toList[0]'(by simpa using h0) = p[0] := by simp [ByteArray.getElem_eq_getElem_data]
      simp only [pathOk, h1, Bool.true_and, beq_eq_false_iff_ne] at h
      rw [List.head?_eq_getElem?, List.getElem?_eq_getElem (by simpa using h0)] at h
      rw [beq_eq_false_iff_ne]
      intro e2
      apply h
      have e3 : p[0].toNat = 47 := by omega
      rw [e, Option.some.injEq]
      exact UInt8.toNat_inj.1 e3
    have i4 : ((p[0].toNat : Int) != 47) = true := by simpa using i3
    clear h h1 h2
    go_enter Tryz.func59, Tryz.ntmps59
    go_wp2_with (go_at_call 111; refine (iInRange_any _ _ _ _).mono ?_; rintro e w' ⟨rfl, rfl⟩; rw [HR.out])
    exact bodyPost_ret (v := .tuple #[.string .empty, .string .empty, .bool false]) (by simp [results, Tryz.results59, go_sem]; try rfl) rfl ⟨rfl, Below.refl _ _⟩
  · have HR := Lib.hid (show inR p.size 1 60 = false by simpa using h1)
    clear h h1
    go_enter Tryz.func59, Tryz.ntmps59
    go_wp2_with (go_at_call 111; refine (iInRange_any _ _ _ _).mono ?_; rintro e w' ⟨rfl, rfl⟩; rw [HR.out])
    exact bodyPost_ret (v := .tuple #[.string .empty, .string .empty, .bool false]) (by simp [results, Tryz.results59, go_sem]; try rfl) rfl ⟨rfl, Below.refl _ _⟩
end Go.Proofs.YtknfpigaognklaaGreatDoor
namespace Go.Proofs.YtknfpigaognklaaGreatDoor
open Go.RowKit Go.Sort
set_option maxRecDepth 100000 in
set_option maxHeartbeats 4000000 in
theorem iFind_any (ca ta ga : Option Addr) (gc : Nat) (gh : Nat → GH) (M : WorldM) (w : World) (hs : WA w ca ta ga gh M) (hF : FitG M) (hB : worldB M = true) (hx : NextOk M) (p : ByteArray) :
    Calls Tryz.prog 61 #[.slice ga M.groups.length gc, .string p] w fun e w' => e = .returned (.int .i64 (findI M p)) ∧ Below w.heap.size w w' := by
  have HTB := Lib.hid (treeB_of hB)
  have HNB := Lib.hid ((nodes_tree M).trans HTB.out)
  have HT := Lib.hid (tree_of HTB.out)
  have NO := Lib.hid (numOk_of hB hx)
  have HF := Lib.hid hF
  clear hB hx hF
  go_enter Tryz.func61, Tryz.ntmps61
  go_wp2_with (go_at_call 113; refine (iNodes_any ca ta ga gc gh M _ hs HF.out.group HF.out.name).mono ?_; rintro e w2 ⟨v, rfl, hb2, hv⟩; obtain ⟨a, nb, rfl, hblk, hN⟩ := hv HNB.out; rw [HNB.out]; have HBL := Lib.hid hblk; have HN := Lib.hid hN; have HB2 := Lib.hid hb2; clear hblk hN hv hb2)
  go_loop [16] (fun i => ∃ k : Nat, k ≤ 8 ∧ i = .int .i64 k ∧ findN M p k = none) (fun i => 8 - (intOf i).toNat)
  case atStart => exact ⟨0, Nat.zero_le _, rfl, rfl⟩
  case round =>
    obtain ⟨k, hk, rfl, hn⟩ := hrel
    have HNN := Lib.hid hn
    clear hn
    by_cases hlt : k < 8
    · have i0 : (0 : Int) ≤ (k : Int) := by omega
      have i1 : (k : Int) < 8 := by omega
      by_cases hu : (grp M k).used = true
      · have c0 : w2.cell? ⟨a, k, none⟩ = some (.pointer (some ⟨nb k, 0, none⟩)) := by rw [HBL.out.cell, arrN_at M nb 8 k hlt, if_pos ⟨hlt, hu⟩]
        have HU := Lib.hid hu
        clear hu
        by_cases he : ((strB (pathB M k)).toList == p.toList) = true
        · have HI := Lib.hid (show findI M p = (k : Int) by
            have : isAt M p k = true := by rw [isAt, HU.out, he]; rfl
            rw [findI, findM, findN_here HNN.out this hlt])
          go_wp2_with (go_at_call 87; refine (iPath_any M HT.out NO.out nb k hlt HU.out _ HN.out).mono ?_; rintro e w' ⟨rfl, rfl⟩)
          go_ret
          exact ⟨ret_int HI.out.symm, HB2.out⟩
        · have HI := Lib.hid (show findN M p (k + 1) = none from findN_next HNN.out (by rw [isAt, HU.out, Bool.true_and]; simpa only [Bool.not_eq_true] using he))
          have he2 : ((strB (pathB M k)).toList == p.toList) = false := by simpa only [Bool.not_eq_true] using he
          clear he
          go_wp2_with (go_at_call 87; refine (iPath_any M HT.out NO.out nb k hlt HU.out _ HN.out).mono ?_; rintro e w' ⟨rfl, rfl⟩)
          go_round
          case rel => exact ⟨k + 1, by omega, by go_num, HI.out⟩
          case measure => simp [intOf]; omega
      · have hu' : (grp M k).used = false := by simpa using hu
        have c0 : w2.cell? ⟨a, k, none⟩ = some (.pointer none) := by rw [HBL.out.cell, arrN_at M nb 8 k hlt, if_neg (fun x => hu x.2)]
        have HI := Lib.hid (show findN M p (k + 1) = none from findN_next HNN.out (by rw [isAt, hu']; rfl))
        clear hu hu'
        go_wp2
        go_round
        case rel => exact ⟨k + 1, by omega, by go_num, HI.out⟩
        case measure => simp [intOf]; omega
    · have HI := Lib.hid (show findI M p = -1 by
        have e : k = 8 := by omega
        have := HNN.out
        rw [e] at this
        rw [findI, findM, this])
      obtain rfl : k = 8 := by omega
      go_wp2
      go_ret
      exact ⟨ret_int HI.out.symm, HB2.out⟩
def fgC (M : WorldM) (q : ByteArray) : Int := if pathOk q = true then (match findM M q with | some _ => 0 | none => 2) else 1
def fgG (M : WorldM) (q : ByteArray) : Int := if pathOk q = true then (match findM M q with | some g => (g : Int) | none => 0) else 0
set_option maxRecDepth 100000 in
set_option maxHeartbeats 4000000 in
theorem iFindGroup_any (p : Nat) (ca : Option Addr) (cc : Nat) (ta : Option Addr) (tc : Nat) (ga : Option Addr) (gc : Nat) (gh : Nat → GH) (M : WorldM) (w : World) (hs : PA w p ca cc ta tc ga gc gh M) (hF : FitG M) (hB : worldB M = true) (hx : NextOk M) (q : ByteArray) :
    Calls Tryz.prog 48 #[.pointer (some ⟨p, 0, none⟩), .string q] w fun e w' => e = .returned (.tuple #[.int .i64 (fgG M q), .int .i64 (fgC M q)]) ∧ Below w.heap.size w w' := by
  have HS := Lib.hid hs
  have HF := Lib.hid hF
  have HB := Lib.hid hB
  have HX := Lib.hid hx
  clear hF hB hx
  by_cases hp : pathOk q = true
  · have HP := Lib.hid hp
    cases hf : findM M q with
    | none =>
      have EG := Lib.hid (show fgG M q = 0 by rw [fgG, if_pos hp, hf])
      have EC := Lib.hid (show fgC M q = 2 by rw [fgC, if_pos hp, hf])
      have HI := Lib.hid (show findI M q = -1 by rw [findI, hf])
      clear hp hf hs
      go_enter Tryz.func48, Tryz.ntmps48
      go_upto_region 4 with (go_at_call 59; refine (iSplit_yes q _ HP.out).mono ?_; rintro e w2 ⟨rfl, hb2⟩)
      obtain ⟨q0, q1, q2, q3, q4, q5⟩ := HS.out.keep hb2
      go_wp2_with (go_at_call 61; refine (iFind_any ca ta ga gc gh M _ q5 HF.out HB.out HX.out q).mono ?_; rintro e w3 ⟨rfl, hb3⟩; rw [HI.out])
      go_ret2
      exact ⟨by rw [EG.out, EC.out]; rfl, hb2.andThen hb3⟩
    | some g =>
      have EG := Lib.hid (show fgG M q = (g : Int) by rw [fgG, if_pos hp, hf])
      have EC := Lib.hid (show fgC M q = 0 by rw [fgC, if_pos hp, hf])
      have HI := Lib.hid (show findI M q = (g : Int) by rw [findI, hf])
      have g0 : (0 : Int) ≤ (g : Int) := by omega
      clear hp hf hs
      go_enter Tryz.func48, Tryz.ntmps48
      go_upto_region 4 with (go_at_call 59; refine (iSplit_yes q _ HP.out).mono ?_; rintro e w2 ⟨rfl, hb2⟩)
      obtain ⟨q0, q1, q2, q3, q4, q5⟩ := HS.out.keep hb2
      go_wp2_with (go_at_call 61; refine (iFind_any ca ta ga gc gh M _ q5 HF.out HB.out HX.out q).mono ?_; rintro e w3 ⟨rfl, hb3⟩; rw [HI.out])
      go_ret2
      exact ⟨by rw [EG.out, EC.out]; rfl, hb2.andThen hb3⟩
  · have hp' : pathOk q = false := by simpa using hp
    have EG := Lib.hid (show fgG M q = 0 by rw [fgG, if_neg hp])
    have EC := Lib.hid (show fgC M q = 1 by rw [fgC, if_neg hp])
    have HP := Lib.hid hp'
    clear hp hp' hs
    go_enter Tryz.func48, Tryz.ntmps48
    go_wp2_with (go_at_call 59; refine (iSplit_no q _ HP.out).mono ?_; rintro e w2 ⟨rfl, hb2⟩)
    go_ret2
    exact ⟨by rw [EG.out, EC.out]; rfl, hb2⟩
set_option maxRecDepth 100000 in
set_option maxHeartbeats 4000000 in
theorem iRefused_any (h : WH) (M : WorldM) (w : World) (hs : WAt w h M) (hf : WFit M) (code : Int) :
    Calls Tryz.prog 49 #[.agg #[.int .i64 M.now, .slice h.ca M.cpus.length h.cc, .slice h.ta M.tasks.length h.tc, .slice h.ga M.groups.length h.gc], .int .i64 code] w (WPost M code w) := by
  go_enter Tryz.func49, Tryz.ntmps49
  go_upto_region 1 with (fail)
  refine gen2 (p := fun W => Code.wp _ _ _ _ W) ?_
  intro W b1 s1 k0 k1
  have B1 := Lib.hid b1
  have K0 := Lib.hid k0
  have K1 := Lib.hid k1
  have S1 := Lib.hid s1
  have hs1 := hs.keep b1
  clear b1 k0 k1 s1
  have c0 := K0.out.cell 0
  have c1 := K0.out.cell 1
  have c2 := K0.out.cell 2
  have c3 := K0.out.cell 3
  have cf := fun i => K0.out.frozen i
  simp at c0 c1 c2 c3
  go_wp2_with fail
  refine (iCopy_any h M _ hs1 hf).mono ?_
  rintro e w3 ⟨x, rfl, hb3, ow⟩
  have K1c := Lib.hid (K1.out.below hb3 K1.out.lt)
  have BF := Lib.hid (B1.out.andThen hb3)
  have OW := Lib.hid ow
  clear c0 c1 c2 c3 cf
  clear hs1 hb3 ow K0 K1 B1
  have d0 := K1c.out.cell 0
  have d1 := K1c.out.cell 1
  have d2 := K1c.out.cell 2
  have d3 := K1c.out.cell 3
  have df := fun i => K1c.out.frozen i
  simp at d0 d1 d2 d3
  go_wp2
  have kz := Lib.hid (show Keep (fun i => i = w.heap.size + 1) w3 ((((w3.setCell ⟨w.heap.size + 1, 0, none⟩ (.int .i64 M.now)).setCell ⟨w.heap.size + 1, 1, none⟩ (.slice x.ca M.cpus.length x.cc)).setCell ⟨w.heap.size + 1, 2, none⟩ (.slice x.ta M.tasks.length x.tc)).setCell ⟨w.heap.size + 1, 3, none⟩ (.slice x.ga M.groups.length x.gc)) from ((((Keep.set _ _ _ (by rfl)).trans (Keep.set _ _ _ (by rfl))).trans (Keep.set _ _ _ (by rfl))).trans (Keep.set _ _ _ (by rfl))))
  refine bodyPost_ret (v := .tuple #[.agg #[.int .i64 M.now, .slice x.ca M.cpus.length x.cc, .slice x.ta M.tasks.length x.tc, .slice x.ga M.groups.length x.gc], .int .i64 code]) (by simp [results, Tryz.results49, go_sem, *]) rfl ⟨x, rfl, ?_, ?_⟩
  · exact BF.out.trans (kz.out.below BF.out.size fun i h => by omega)
  · exact OW.out.fin kz.out (fun i h => by have := S1.out; omega) (by have := S1.out; omega)
theorem iEarly_any (A : Option Addr) (L : List Int) (c : Nat) (w : World) (hL : IntS w A L) (hl : L.length ≤ 1048576) :
    Calls Tryz.prog 163 #[.slice A L.length c] w fun e w' => e = .returned (.bool (L.all half)) ∧ w = w' := by
  go_enter Tryz.func163, Tryz.ntmps163
  go_wp2
  go_loop [7] (fun i => ∃ k : Nat, k ≤ L.length ∧ i = .int .i64 k ∧ (L.take k).all half = true) (fun i => L.length - (intOf i).toNat)
  case atStart => exact ⟨0, Nat.zero_le _, rfl, by simp⟩
  case round =>
    obtain ⟨k, hk, rfl, ha⟩ := hrel
    have HA := Lib.hid ha
    clear ha
    by_cases hlt : k < L.length
    · obtain ⟨b, o, rfl, hb, c0⟩ := hL.at_ k hlt
      have i0 : (0 : Int) ≤ (k : Int) := by omega
      have i1 : (k : Int) < (L.length : Int) := by omega
      by_cases hh : L[k] ≤ 50000000000000000
      · have HN := Lib.hid (all_snoc hlt HA.out (show half L[k] = true by simpa [half] using hh))
        have hd : decide (50000000000000000 < L[k]) = false := by simp; omega
        generalize L[k] = v at *
        go_wp2
        go_round
        case rel => exact ⟨k + 1, by omega, by go_num, HN.out⟩
        case measure => simp [intOf]; omega
      · have HN := Lib.hid (all_not hlt (show half L[k] = false by simpa [half] using hh))
        have hd : decide (50000000000000000 < L[k]) = true := by simp; omega
        generalize L[k] = v at *
        go_wp2
        go_ret
        exact ⟨ret_bool HN.out.symm, rfl⟩
    · have HN := Lib.hid (show L.all half = true by have := HA.out; rwa [List.take_of_length_le (by omega)] at this)
      go_wp2
      go_ret
      exact ⟨ret_bool HN.out.symm, rfl⟩
def earlyB (L : List Int) : Bool := L.all half
theorem iEarlyN (L : List Int) (n : Nat) (A : Option Addr) (w : World) (h : IntS w A L) (hn : L.length = n) (hl : n ≤ 1048576 := by decide) :
    Calls Tryz.prog 163 #[.slice A n n] w fun e w' => e = .returned (.bool (earlyB L)) ∧ w = w' := by
  subst hn
  exact iEarly_any A L _ w h hl
theorem roomC_eq (x : CpuM) : earlyB [x.busy, x.idle] = roomC x := by simp [earlyB, roomC]
theorem roomT_eq (x : TaskM) : earlyB [x.v, x.sum, x.used] = roomT x := by simp [earlyB, roomT, Bool.and_assoc]
theorem roomS_eq (x : ShelfM) : earlyB [x.floor, x.v, x.sum] = roomS x := by simp [earlyB, roomS, Bool.and_assoc]
theorem early1_eq (n : Int) : earlyB [n] = half n := by simp [earlyB]
theorem all_take_succ {α : Type} {p : α → Bool} {l : List α} {k : Nat} (h : k < l.length) : (l.take (k + 1)).all p = ((l.take k).all p && p l[k]) := by
  rw [List.take_succ_eq_append_getElem h, List.all_append]; simp
set_option maxRecDepth 100000 in
set_option maxHeartbeats 4000000 in
theorem iRoom_any (p : Nat) (ca : Option Addr) (cc : Nat) (ta : Option Addr) (tc : Nat) (ga : Option Addr) (gc : Nat) (gh : Nat → GH) (M : WorldM) (w : World) (hs : PA w p ca cc ta tc ga gc gh M) (hF : FitG M) :
    Calls Tryz.prog 98 #[.pointer (some ⟨p, 0, none⟩)] w fun e w' => e = .returned (.bool (roomM M)) ∧ Below w.heap.size w w' := by
  have HS := Lib.hid hs
  have hcm := hF.cpu
  have htm := hF.task
  have hgm := hF.group
  have HF := Lib.hid hF
  obtain ⟨q0, q1, q2, q3, q4, q5⟩ := hs
  clear q5 hF
  go_enter Tryz.func98, Tryz.ntmps98
  go_wp2_with (go_at_call 163; refine (iEarlyN [M.now] 1 _ _ (IntS.new _ _ _ rfl _) rfl).mono ?_; rintro e w' ⟨rfl, rfl⟩; rw [early1_eq])
  have HB0 := Lib.hid (show Below w.heap.size w (w.alloc (.cells #[.int .i64 M.now] 3)) from (Below.refl _ _).alloc (Nat.le_refl _) _)
  clear q0 q1 q2 q3 q4
  go_loopw [3, 23] (fun b i wr => ∃ k : Nat, k ≤ M.cpus.length ∧ i = .int .i64 k ∧ b = .bool (half M.now && (M.cpus.take k).all roomC) ∧ Below w.heap.size w wr) (fun _ i _ => M.cpus.length - (intOf i).toNat)
  case atStart => exact ⟨0, Nat.zero_le _, rfl, by simp, HB0.out⟩
  case round =>
    obtain ⟨k, hk, rfl, rfl, hb⟩ := hrel
    have HB := Lib.hid hb
    obtain ⟨q0, q1, q2, q3, q4, q5⟩ := HS.out.keep hb
    clear hb
    by_cases hlt : k < M.cpus.length
    · obtain ⟨b, o, hA, hbl, c0, c1, c2, c3, c4⟩ := q5.cpu_ hlt
      subst hA
      have i0 : (0 : Int) ≤ (k : Int) := by omega
      have i1 : (k : Int) < (M.cpus.length : Int) := by omega
      have HX := Lib.hid (cpo_eq hlt)
      have HR := Lib.hid (show (M.cpus.take (k + 1)).all roomC = _ from all_take_succ hlt)
      generalize cpo M k = x at *
      go_upto_region 5 with (fail)
      refine gen1 (p := fun W => Code.wp _ _ _ _ W) ?_
      intro W1 b1 s1 kx
      have HB1 := Lib.hid (HB.out.andThen b1)
      have y3 := kx.cell 3
      have y4 := kx.cell 4
      simp at y3 y4
      clear c0 c1 c2 c3 c4 b1 s1 kx q0 q1 q2 q3 q4 q5
      cases hok : (half M.now && (M.cpus.take k).all roomC) with
      | true =>
        have HOK := Lib.hid hok
        clear hok
        go_wp2_with (go_at_call 163; refine (iEarlyN [x.busy, x.idle] 2 _ _ (IntS.new _ _ _ rfl _) rfl).mono ?_; rintro e w' ⟨rfl, rfl⟩; rw [roomC_eq])
        go_roundw
        case rel => exact ⟨k + 1, by omega, by go_num, by rw [HR.out, HX.out, ← Bool.and_assoc, HOK.out]; rfl, HB1.out.alloc HB1.out.size _⟩
        case measure => simp [intOf]; omega
      | false =>
        have HOK := Lib.hid hok
        clear hok
        go_wp2
        go_roundw
        case rel => exact ⟨k + 1, by omega, by go_num, by rw [HR.out, ← Bool.and_assoc, HOK.out]; rfl, HB1.out⟩
        case measure => simp [intOf]; omega
    · obtain rfl : k = M.cpus.length := by omega
      rw [List.take_length]
      clear q0 q1 q2 q3 q4 q5
      clear HB0
      have HB0 := HB
      clear HB hk hlt
      generalize hbb : (half M.now && M.cpus.all roomC) = bb
      have HBB := Lib.hid hbb
      clear hbb
      obtain ⟨q0, q1, q2, q3, q4, q5⟩ := HS.out.keep HB0.out
      clear q5
      go_wp2
      clear q0 q1 q2 q3 q4
      go_loopw [3, 42] (fun b i wr => ∃ k : Nat, k ≤ M.tasks.length ∧ i = .int .i64 k ∧ b = .bool (bb && (M.tasks.take k).all roomT) ∧ Below w.heap.size w wr) (fun _ i _ => M.tasks.length - (intOf i).toNat)
      case atStart => exact ⟨0, Nat.zero_le _, rfl, by simp, HB0.out⟩
      case round =>
        obtain ⟨k, hk, rfl, rfl, hb⟩ := hrel
        have HB := Lib.hid hb
        obtain ⟨q0, q1, q2, q3, q4, q5⟩ := HS.out.keep hb
        clear hb
        by_cases hlt : k < M.tasks.length
        · obtain ⟨b, o, hA, hbl, c0, c1, c2, c3, c4, c5, c6, c7, c8⟩ := q5.task_ hlt
          subst hA
          have i0 : (0 : Int) ≤ (k : Int) := by omega
          have i1 : (k : Int) < (M.tasks.length : Int) := by omega
          have HX := Lib.hid (tsk_eq hlt)
          have HR := Lib.hid (show (M.tasks.take (k + 1)).all roomT = _ from all_take_succ hlt)
          generalize tsk M k = x at *
          go_upto_region 10 with (fail)
          refine gen1 (p := fun W => Code.wp _ _ _ _ W) ?_
          intro W1 b1 s1 kx
          have HB1 := Lib.hid (HB.out.andThen b1)
          have y5 := kx.cell 5
          have y6 := kx.cell 6
          have y7 := kx.cell 7
          simp at y5 y6 y7
          clear c0 c1 c2 c3 c4 c5 c6 c7 c8 b1 s1 kx q0 q1 q2 q3 q4 q5
          cases hok : (bb && (M.tasks.take k).all roomT) with
          | true =>
            have HOK := Lib.hid hok
            clear hok
            go_wp2_with (go_at_call 163; refine (iEarlyN [x.v, x.sum, x.used] 3 _ _ (IntS.new _ _ _ rfl _) rfl).mono ?_; rintro e w' ⟨rfl, rfl⟩; rw [roomT_eq])
            go_roundw
            case rel => exact ⟨k + 1, by omega, by go_num, by rw [HR.out, HX.out, ← Bool.and_assoc, HOK.out]; rfl, HB1.out.alloc HB1.out.size _⟩
            case measure => simp [intOf]; omega
          | false =>
            have HOK := Lib.hid hok
            clear hok
            go_wp2
            go_roundw
            case rel => exact ⟨k + 1, by omega, by go_num, by rw [HR.out, ← Bool.and_assoc, HOK.out]; rfl, HB1.out⟩
            case measure => simp [intOf]; omega
        · obtain rfl : k = M.tasks.length := by omega
          rw [List.take_length]
          clear q0 q1 q2 q3 q4 q5
          clear HB0
          have HB0 := HB
          clear HB hk hlt
          generalize hbb2 : (bb && M.tasks.all roomT) = b2
          have HBB2 := Lib.hid hbb2
          clear hbb2
          obtain ⟨q0, q1, q2, q3, q4, q5⟩ := HS.out.keep HB0.out
          clear q5
          go_wp2
          clear q0 q1 q2 q3 q4
          go_loopw [3, 63] (fun b i wr => ∃ k : Nat, k ≤ M.groups.length ∧ i = .int .i64 k ∧ b = .bool (b2 && (M.groups.take k).all roomG) ∧ Below w.heap.size w wr) (fun _ i _ => M.groups.length - (intOf i).toNat)
          case atStart => exact ⟨0, Nat.zero_le _, rfl, by simp, HB0.out⟩
          case round =>
            obtain ⟨k, hk, rfl, rfl, hb⟩ := hrel
            have HB := Lib.hid hb
            obtain ⟨q0, q1, q2, q3, q4, q5⟩ := HS.out.keep hb
            clear hb
            by_cases hlt : k < M.groups.length
            · obtain ⟨b, o, hA, hbl, c0, c1, c2, c3, c4, c5, c6, c7, c8, c9, c10, c11, c12, c13⟩ := q5.group_ hlt
              subst hA
              have HSH := Lib.hid (show ShelfS _ (gh k).sa (grp M k).shelves by have := q5.group.she k hlt; rwa [grp_eq hlt] at this)
              have hsl := HF.out.she k hlt
              have i0 : (0 : Int) ≤ (k : Int) := by omega
              have i1 : (k : Int) < (M.groups.length : Int) := by omega
              have HLT := Lib.hid hlt
              have HX := Lib.hid (congrArg roomG (grp_eq hlt))
              have HR := Lib.hid (show (M.groups.take (k + 1)).all roomG = _ from all_take_succ hlt)
              generalize grp M k = x at *
              generalize (gh k).sa = sa at *
              go_upto_region 15 with (fail)
              refine gen1 (p := fun W => Code.wp _ _ _ _ W) ?_
              intro W1 b1 s1 kx
              have HB1 := Lib.hid (HB.out.andThen b1)
              have HKX := Lib.hid kx
              have HSHE0 := Lib.hid (HSH.out.keep b1)
              have y7 := kx.cell 7
              simp at y7
              clear c0 c1 c2 c3 c4 c5 c6 c7 c8 c9 c10 c11 c12 c13 b1 s1 kx q0 q1 q2 q3 q4 q5
              cases hok : (b2 && (M.groups.take k).all roomG) with
              | true =>
                have HOK := Lib.hid hok
                clear hok
                go_upto_region 16 with (go_at_call 163; refine (iEarlyN [x.sum] 1 _ _ (IntS.new _ _ _ rfl _) rfl).mono ?_; rintro e w' ⟨rfl, rfl⟩; rw [early1_eq])
                refine genW (p := fun W => Code.wp _ _ _ _ W) ?_
                intro w2 hw2
                have HBX := Lib.hid (show Below W1.heap.size W1 w2 by rw [← hw2]; exact (Below.refl _ _).alloc (Nat.le_refl _) _)
                have HSHE := Lib.hid (HSHE0.out.keep HBX.out)
                generalize hbq : half x.sum = bq
                have HQ := Lib.hid hbq
                clear hw2 y7 hbq
                have w13 := (HKX.out.below (HBX.out) HKX.out.lt).cell 13
                simp at w13
                go_wp2
                clear w13
                go_loopw [3, 77] (fun b i wr => ∃ c : Nat, c ≤ x.shelves.length ∧ i = .int .i64 c ∧ b = .bool (bq && (x.shelves.take c).all roomS) ∧ Below w2.heap.size w2 wr) (fun _ i _ => x.shelves.length - (intOf i).toNat)
                case atStart => exact ⟨0, Nat.zero_le _, rfl, by simp, Below.refl _ _⟩
                case round =>
                  obtain ⟨c, hc, rfl, rfl, hb⟩ := hrel
                  have HBC := Lib.hid hb
                  clear hb
                  by_cases hlc : c < x.shelves.length
                  · obtain ⟨b2, o2, hA2, hbl2, s0, s1, s2, s3, s4⟩ := (HSHE.out.keep HBC.out).at_ c hlc
                    have g13 := ((HKX.out.below HBX.out HKX.out.lt).below HBC.out (HKX.out.below HBX.out HKX.out.lt).lt).cell 13
                    subst hA2
                    simp at g13
                    have j0 : (0 : Int) ≤ (c : Int) := by omega
                    have j1 : (c : Int) < (x.shelves.length : Int) := by omega
                    have HR2 := Lib.hid (show (x.shelves.take (c + 1)).all roomS = _ from all_take_succ hlc)
                    generalize hy : x.shelves[c] = y at *
                    have HSE := Lib.hid (roomS_eq y)
                    clear hy g13
                    go_upto_region 19 with (fail)
                    refine gen1 (p := fun W => Code.wp _ _ _ _ W) ?_
                    intro W3 b3 t3 ky
                    have HB3 := Lib.hid (HBC.out.andThen b3)
                    have y0 := ky.cell 0
                    have y2 := ky.cell 2
                    have y4 := ky.cell 4
                    simp at y0 y2 y4
                    clear s0 s1 s2 s3 s4 b3 t3 ky
                    cases hok2 : (bq && (x.shelves.take c).all roomS) with
                    | true =>
                      have HOK2 := Lib.hid hok2
                      clear hok2
                      go_wp2_with (go_at_call 163; refine (iEarlyN [y.floor, y.v, y.sum] 3 _ _ (IntS.new _ _ _ rfl _) rfl).mono ?_; rintro e w' ⟨rfl, rfl⟩; rw [HSE.out])
                      go_roundw
                      case rel => exact ⟨c + 1, by omega, by go_num, by rw [HR2.out, ← Bool.and_assoc, HOK2.out]; rfl, HB3.out.alloc HB3.out.size _⟩
                      case measure => simp [intOf]; omega
                    | false =>
                      have HOK2 := Lib.hid hok2
                      clear hok2
                      go_wp2
                      go_roundw
                      case rel => exact ⟨c + 1, by omega, by go_num, by rw [HR2.out, ← Bool.and_assoc, HOK2.out]; rfl, HB3.out⟩
                      case measure => simp [intOf]; omega
                  · obtain rfl : c = x.shelves.length := by omega
                    rw [List.take_length]
                    generalize hb5 : (bq && x.shelves.all roomS) = b5
                    have HB5 := Lib.hid hb5
                    clear hb5
                    go_wp2
                    go_roundw
                    case rel => exact ⟨k + 1, by have := HLT.out; omega, by go_num, by rw [HR.out, HX.out, roomG, ← Bool.and_assoc, HOK.out, ← HB5.out, HQ.out, Bool.true_and], (HB1.out.andThen HBX.out).andThen HBC.out⟩
                    case measure => have := HLT.out; simp [intOf]; omega
              | false =>
                have HOK := Lib.hid hok
                clear hok
                go_upto_region 16 with (fail)
                refine genW (p := fun W => Code.wp _ _ _ _ W) ?_
                intro w2 hw2
                have HBX := Lib.hid (show Below W1.heap.size W1 w2 by rw [← hw2]; exact Below.refl _ _)
                have HSHE := Lib.hid (HSHE0.out.keep HBX.out)
                clear hw2 y7
                have w13 := (HKX.out.below (HBX.out) HKX.out.lt).cell 13
                simp at w13
                go_wp2
                clear w13
                go_loopw [3, 77] (fun b i wr => ∃ c : Nat, c ≤ x.shelves.length ∧ i = .int .i64 c ∧ b = .bool false ∧ Below w2.heap.size w2 wr) (fun _ i _ => x.shelves.length - (intOf i).toNat)
                case atStart => exact ⟨0, Nat.zero_le _, rfl, rfl, Below.refl _ _⟩
                case round =>
                  obtain ⟨c, hc, rfl, rfl, hb⟩ := hrel
                  have HBC := Lib.hid hb
                  clear hb
                  by_cases hlc : c < x.shelves.length
                  · obtain ⟨b2, o2, hA2, hbl2, s0, s1, s2, s3, s4⟩ := (HSHE.out.keep HBC.out).at_ c hlc
                    have g13 := ((HKX.out.below HBX.out HKX.out.lt).below HBC.out (HKX.out.below HBX.out HKX.out.lt).lt).cell 13
                    subst hA2
                    simp at g13
                    have j0 : (0 : Int) ≤ (c : Int) := by omega
                    have j1 : (c : Int) < (x.shelves.length : Int) := by omega
                    clear g13
                    go_upto_region 19 with (fail)
                    refine gen1 (p := fun W => Code.wp _ _ _ _ W) ?_
                    intro W3 b3 t3 ky
                    have HB3 := Lib.hid (HBC.out.andThen b3)
                    clear s0 s1 s2 s3 s4 b3 t3 ky
                    go_wp2
                    go_roundw
                    case rel => exact ⟨c + 1, by omega, by go_num, rfl, HB3.out⟩
                    case measure => simp [intOf]; omega
                  · obtain rfl : c = x.shelves.length := by omega
                    go_wp2
                    go_roundw
                    case rel => exact ⟨k + 1, by have := HLT.out; omega, by go_num, by rw [HR.out, ← Bool.and_assoc, HOK.out]; rfl, (HB1.out.andThen HBX.out).andThen HBC.out⟩
                    case measure => have := HLT.out; simp [intOf]; omega
            · obtain rfl : k = M.groups.length := by omega
              rw [List.take_length]
              have HQ := Lib.hid (show roomM M = (b2 && M.groups.all roomG) by rw [← HBB2.out, ← HBB.out, roomM]; simp [Bool.and_assoc])
              clear q0 q1 q2 q3 q4 q5
              generalize (b2 && M.groups.all roomG) = b6 at *
              go_wp2
              go_ret
              exact ⟨ret_bool HQ.out.symm, HB.out⟩
end Go.Proofs.YtknfpigaognklaaGreatDoor
namespace Go.Proofs.YtknfpigaognklaaGreatDoor
open Go.RowKit Go.Sort
/-- the groups directly in a group, of the first n -/
def kidsN (M : WorldM) (g : Nat) : Nat → List Nat
  | 0 => []
  | n + 1 => if kidB M g n = true then kidsN M g n ++ [n] else kidsN M g n
theorem kidsN_len (M : WorldM) (g : Nat) : ∀ n, (kidsN M g n).length ≤ n
  | 0 => Nat.le_refl _
  | n + 1 => by
    have := kidsN_len M g n
    rw [kidsN]; split
    · rw [List.length_append]; simp; omega
    · omega
theorem kidsN_any (M : WorldM) (g : Nat) : ∀ n, (0 < (kidsN M g n).length) ↔ (List.range n).any (kidB M g) = true
  | 0 => by simp [kidsN]
  | n + 1 => by
    have ih := kidsN_any M g n
    rw [any_succ, kidsN]
    by_cases h : kidB M g n = true
    · rw [if_pos h, h, List.length_append]; simp
    · rw [if_neg h, ih]; simp [h]
theorem kidsN_mem {M : WorldM} {g k : Nat} : ∀ {n}, k ∈ kidsN M g n ↔ k < n ∧ kidB M g k = true
  | 0 => by simp [kidsN]
  | n + 1 => by
    have ih := kidsN_mem (M := M) (g := g) (k := k) (n := n)
    rw [kidsN]
    by_cases h : kidB M g n = true
    · rw [if_pos h, List.mem_append, ih, List.mem_singleton]
      constructor
      · rintro (⟨h1, h2⟩ | rfl)
        · exact ⟨by omega, h2⟩
        · exact ⟨by omega, h⟩
      · rintro ⟨h1, h2⟩
        by_cases e : k = n
        · exact .inr e
        · exact .inl ⟨by omega, h2⟩
    · rw [if_neg h, ih]
      constructor
      · rintro ⟨h1, h2⟩; exact ⟨by omega, h2⟩
      · rintro ⟨h1, h2⟩
        refine ⟨?_, h2⟩
        by_cases e : k = n
        · subst e; exact absurd h2 h
        · omega
def fK (l : List Nat) : Nat → Nat → Value := fun k _ => .int .i64 ((l.getD k 0 : Nat) : Int)
theorem rowL_fK_snoc (l : List Nat) (a : Nat) : rowL (fK (l ++ [a])) 1 (l ++ [a]).length = rowL (fK l) 1 l.length ++ [.int .i64 (a : Int)] := by
  rw [List.length_append, List.length_singleton, rowL]
  congr 1
  · exact rowL_congr fun j i hj => by simp [fK, List.getElem?_append_left hj]
  · simp [fK]
def KidsOut (M : WorldM) (g : Nat) (w : World) (e : Ending) (w' : World) : Prop := ∃ A c, e = .returned (.slice A (kidsN M g 8).length c) ∧ Below w.heap.size w w' ∧ RowR w' w.heap.size A 3 1 (kidsN M g 8).length (fK (kidsN M g 8))
set_option maxRecDepth 100000 in
set_option maxHeartbeats 4000000 in
theorem iKids_any (ca ta ga : Option Addr) (gc : Nat) (gh : Nat → GH) (M : WorldM) (w : World) (hs : WA w ca ta ga gh M) (hF : FitG M) (hB : worldB M = true) (g : Nat) (hg : g < 8) (hu : usedI M g = true) :
    Calls Tryz.prog 97 #[.slice ga M.groups.length gc, .int .i64 g] w (KidsOut M g w) := by
  have HTB := Lib.hid (treeB_of hB)
  have HNB := Lib.hid ((nodes_tree M).trans HTB.out)
  have HT := Lib.hid (tree_of HTB.out)
  have HF := Lib.hid hF
  have HU := Lib.hid hu
  have HL := Lib.hid HT.out.len
  have g0 : (0 : Int) ≤ (g : Int) := by omega
  have hgl := hF.group
  clear hB hu hF
  go_enter Tryz.func97, Tryz.ntmps97
  go_wp2_with (first | (go_at_call 139; refine (iTreeOk_any ca ta ga gc gh M _ hs HF.out.group HF.out.name).mono ?_; rintro e w2 ⟨rfl, hb2⟩; rw [HNB.out]; have HB2 := Lib.hid hb2; have HS2 := Lib.hid (hs.keep hb2); clear hb2) | (go_at_call 116; refine (iGroupUsed_any ca ta ga gc gh M _ HS2.out HF.out.group _).mono ?_; rintro e w' ⟨rfl, rfl⟩; rw [HU.out]))
  clear hs
  have HO := Lib.hid (World.ownsRow_nil w2 w2.heap.size 3 1)
  go_loopw [5, 18] (fun v i wr => ∃ k : Nat, k ≤ 8 ∧ i = .int .i64 k ∧ wr.ownsRow w2.heap.size 3 1 v (kidsN M g k).length (rowL (fK (kidsN M g k)) 1 (kidsN M g k).length) ∧ Below w2.heap.size w2 wr) (fun _ i _ => 8 - (intOf i).toNat)
  case atStart => exact ⟨0, Nat.zero_le _, rfl, HO.out, Below.refl _ _⟩
  case round =>
    obtain ⟨k, hk, rfl, ho, hb⟩ := hrel
    have HO2 := Lib.hid ho
    have HB := Lib.hid hb
    have hs3 := HS2.out.keep hb
    clear ho hb
    by_cases hlt : k < M.groups.length
    · have hk8 : k < 8 := by have := HL.out; omega
      obtain ⟨b, o, rfl, hbl, c0, c1, _⟩ := hs3.group_ hlt
      have i0 : (0 : Int) ≤ (k : Int) := by omega
      have i1 : (k : Int) < (M.groups.length : Int) := by omega
      by_cases hkd : kidB M g k = true
      · have hq := hkd
        simp only [kidB, Bool.and_eq_true, bne_iff_ne, beq_iff_eq] at hq
        rw [hq.2.1] at c0
        rw [hq.2.2] at c1
        have HKN := Lib.hid (show kidsN M g (k + 1) = kidsN M g k ++ [k] by rw [kidsN, if_pos hkd])
        obtain ⟨g5, cap5, w5, hrun, hown5, hkeep5, _⟩ := app_one slInt (by omega) (by omega) (ty := 46) (T' := 3) HO2.out HB.out.size (by have := kidsN_len M g k; omega) [.int .i64 (k : Int)] rfl (by simp [Value.oneCell']) (W1 := wr.alloc (.cells #[.int .i64 (k : Int)] 3)) ((Below.refl _ _).alloc (Nat.le_refl _) _) (by simp) (Blk.new wr 3 _)
        have HRUN := Lib.hid hrun
        have HOW := Lib.hid hown5
        have HKE := Lib.hid hkeep5
        clear hkd hq hrun hown5 hkeep5 hs3
        go_wp2_with (at_builtin; refine wpList_append_run rfl rfl rfl rfl HRUN.out ?_)
        go_roundw
        case rel =>
          refine ⟨k + 1, by omega, by go_num, ?_, HB.out.trans (HKE.out.below HB.out.size fun j hj => by have := (HO2.out.lt _ hj).1; omega)⟩
          rw [HKN.out, rowL_fK_snoc, List.length_append, List.length_singleton]
          exact HOW.out
        case measure => simp [intOf]; omega
      · have HKN := Lib.hid (show kidsN M g (k + 1) = kidsN M g k by rw [kidsN, if_neg hkd])
        by_cases hu2 : (grp M k).used = true
        · rw [hu2] at c0
          have hp2 : ((grp M k).parent == (g : Int)) = false := by
            rw [beq_eq_false_iff_ne]
            intro e
            by_cases e0 : k = 0
            · subst e0; rw [HT.out.rpar] at e; omega
            · apply hkd; simp only [kidB, hu2, e, beq_self_eq_true, Bool.and_true, bne_iff_ne]; exact e0
          generalize (grp M k).parent = P at *
          clear hkd hu2 hs3
          go_wp2
          go_roundw
          case rel => exact ⟨k + 1, by omega, by go_num, by rw [HKN.out]; exact HO2.out, HB.out⟩
          case measure => simp [intOf]; omega
        · have hu3 : (grp M k).used = false := by simpa using hu2
          rw [hu3] at c0
          clear hkd hu2 hu3 hs3
          go_wp2
          go_roundw
          case rel => exact ⟨k + 1, by omega, by go_num, by rw [HKN.out]; exact HO2.out, HB.out⟩
          case measure => simp [intOf]; omega
    · obtain rfl : k = 8 := by have := HL.out; omega
      have hlt2 : ¬ (8 : Int) < (M.groups.length : Int) := by omega
      obtain ⟨A, c, rfl, hR⟩ := row_of_own HO2.out
      have HR := Lib.hid hR
      clear hR hs3
      go_wp2
      go_ret
      exact ⟨A, c, rfl, HB2.out.andThen HB.out, HR.out.mono HB2.out.size⟩
end Go.Proofs.YtknfpigaognklaaGreatDoor
namespace Go.Proofs.YtknfpigaognklaaGreatDoor
open Go.RowKit Go.Sort
theorem gen5 {w : World} {c1 c2 c3 c4 c5 : Array Value} {t1 t2 t3 t4 t5 : TypeId} {p : World → Prop}
    (h : ∀ W, Below w.heap.size w W → W.heap.size = w.heap.size + 5 → Blk W w.heap.size t1 c1 → Blk W (w.heap.size + 1) t2 c2 → Blk W (w.heap.size + 1 + 1) t3 c3 → Blk W (w.heap.size + 1 + 1 + 1) t4 c4 → Blk W (w.heap.size + 1 + 1 + 1 + 1) t5 c5 → p W) :
    p (((((w.alloc (.cells c1 t1)).alloc (.cells c2 t2)).alloc (.cells c3 t3)).alloc (.cells c4 t4)).alloc (.cells c5 t5)) :=
  gen3 (p := fun W => p ((W.alloc _).alloc _)) fun W b s k0 k1 k2 => gen2 (p := p) fun W2 b2 s2 k3 k4 =>
    h W2 (b.andThen b2) (by omega) (k0.below b2 (by omega)) (k1.below b2 (by omega)) (k2.below b2 (by omega)) (by rw [s] at k3; exact k3) (by rw [s] at k4; exact k4)
theorem COn.keep {w W W' : World} {p B : Nat} {x : WH} {M : WorldM} (c : COn w W p x M B) (hb : Below W.heap.size W W') : COn w W' p x M B :=
  ⟨c.bel.andThen hb, c.box.below hb c.box.lt, c.own.below hb, c.low, c.lowp, c.out⟩
theorem COn.pa {w W : World} {p B : Nat} {x : WH} {M : WorldM} (c : COn w W p x M B) : PA W p x.ca x.cc x.ta x.tc x.ga x.gc x.gh M := pa_of c.box c.own
theorem CRef.of {p n : Nat} {x : WH} {c : Int} {W W' w' : World} {e : Ending} (h : CRef p x c n W' e w') (hb : Below W.heap.size W W') : CRef p x c n W e w' := ⟨h.1, (Keep.of_below hb).trans h.2⟩
theorem CDone.of {p n B : Nat} {x : WH} {M' : WorldM} {W W' w' : World} {e : Ending} (h : CDone p x M' B n W' e w') (hb : Below W.heap.size W W') : CDone p x M' B n W e w' := by
  obtain ⟨gh', h1, h2, h3, h4⟩ := h
  exact ⟨gh', h1, h2, h3, (Keep.of_below hb).trans h4⟩
theorem CRef.mk_ {p n : Nat} {x : WH} {c : Int} {W w' : World} (hb : Below W.heap.size W w') : CRef p x c n W (.returned (.iface 128 (.agg #[.int .i64 c]))) w' := ⟨rfl, Keep.of_below hb⟩
set_option maxRecDepth 100000 in
set_option maxHeartbeats 4000000 in
theorem iAG1_root (w W : World) (p : Nat) (x : WH) (M : WorldM) (B : Nat) (_hc : COn w W p x M B) (gb sb fb : Nat) (g : Int) (st : Bool) (hr : g = 0 ∨ st = false) (g0 : W.cell? ⟨gb, 0, none⟩ = some (.int .i64 g)) (s0 : W.cell? ⟨sb, 0, none⟩ = some (.bool st)) :
    Calls Tryz.prog 162 #[.pointer (some ⟨p, 0, none⟩), .pointer (some ⟨gb, 0, none⟩), .pointer (some ⟨sb, 0, none⟩), .pointer (some ⟨fb, 0, none⟩)] W (CRef p x 1 M.groups.length W) := by
  by_cases h0 : g = 0
  · have hz : (g == 0) = true := by simpa using h0
    clear hr _hc
    subst h0
    go_enter Tryz.func162, Tryz.ntmps162
    go_wp2
    go_ret
    exact CRef.mk_ (Below.refl _ _)
  · have hz : (g == 0) = false := by simpa using h0
    obtain rfl : st = false := by rcases hr with hr | hr; exact absurd hr h0; exact hr
    clear h0 _hc hr
    go_enter Tryz.func162, Tryz.ntmps162
    go_wp2
    go_ret
    exact CRef.mk_ (Below.refl _ _)
set_option maxRecDepth 100000 in
set_option maxHeartbeats 4000000 in
theorem iAG1_none (w W : World) (p : Nat) (x : WH) (M : WorldM) (B : Nat) (hc : COn w W p x M B) (gb sb fb : Nat) (g : Int) (hz0 : g ≠ 0) (hu : usedI M g = false) (hF : FitG M) (g0 : W.cell? ⟨gb, 0, none⟩ = some (.int .i64 g)) (s0 : W.cell? ⟨sb, 0, none⟩ = some (.bool true)) :
    Calls Tryz.prog 162 #[.pointer (some ⟨p, 0, none⟩), .pointer (some ⟨gb, 0, none⟩), .pointer (some ⟨sb, 0, none⟩), .pointer (some ⟨fb, 0, none⟩)] W (CRef p x 2 M.groups.length W) := by
  have HC := Lib.hid hc
  have HFG := Lib.hid hF
  have HU := Lib.hid hu
  clear hc hu hF
  have hz : (g == 0) = false := by simpa using hz0
  clear hz0
  go_enter Tryz.func162, Tryz.ntmps162
  go_upto_region 3 with (fail)
  have bd : Below W.heap.size W W.drew := ⟨rfl, rfl, rfl, Nat.le_refl _, fun _ _ => rfl⟩
  have n3 := HC.out.pa.groups
  have q_n3 := fun d os => cell_regrown n3 d os
  have q_g0 := fun d os => cell_regrown g0 d os
  refine region_by [false, false, false, false, false, true, false] (by kernel_rfl) (by kernel_rfl) (by kernel_rfl) ?_
  repeat (first | (refine wpR_skip (by rfl) ?_; simp only [Act.put, List.setIfInBounds_toArray, List.set_cons_zero, List.set_cons_succ]) | (refine wpR_det (by rfl) (fun K hK => ?_); go_big_quiet_op; refine hK _ ?_; clear hK K))
  refine wpR_bar (by rfl) (fun K hK => ?_)
  go_big_op
  go_at_call 116
  refine (iGroupUsed_any x.ca x.ta x.ga x.gc x.gh M _ (HC.out.keep bd).own.wa HFG.out.group _).mono ?_
  rintro e w3 ⟨rfl, rfl⟩
  rw [HU.out]
  refine hK _ _ (regrown_of_below bd) ?_
  clear hK K
  repeat (first | (refine wpR_skip (by rfl) ?_; simp only [Act.put, List.setIfInBounds_toArray, List.set_cons_zero, List.set_cons_succ]) | (refine wpR_det (by rfl) (fun K hK => ?_); go_big_quiet_op; refine hK _ ?_; clear hK K))
  refine wpR_nil ?_
  clear q_n3 q_g0 n3
  go_wp2
  go_ret
  exact CRef.mk_ bd
set_option maxRecDepth 100000 in
set_option maxHeartbeats 4000000 in
theorem iAG1_call (w W : World) (p : Nat) (x : WH) (M : WorldM) (B : Nat) (hc : COn w W p x M B) (gb sb fb : Nat) (g : Int) (hz0 : g ≠ 0) (hu : usedI M g = true) (hfg : FitG M) (F : FuncId) (cps : Array Value) (hF : ∀ (args : Array Value) (u : World), (callFunc F args).run Tryz.prog u = .ok (.enter F args) u) (Q : World → Ending → World → Prop)
    (hcall : ∀ W', Below W.heap.size W W' → Calls Tryz.prog F (#[.pointer (some ⟨p, 0, none⟩)] ++ cps) W' (Q W')) (hQ : ∀ W' e w', Below W.heap.size W W' → Q W' e w' → ∃ v, e = .returned v ∧ Q W (.returned v) w')
    (g0 : W.cell? ⟨gb, 0, none⟩ = some (.int .i64 g)) (s0 : W.cell? ⟨sb, 0, none⟩ = some (.bool true)) (f0 : W.cell? ⟨fb, 0, none⟩ = some (.func (.func F) #[] cps)) :
    Calls Tryz.prog 162 #[.pointer (some ⟨p, 0, none⟩), .pointer (some ⟨gb, 0, none⟩), .pointer (some ⟨sb, 0, none⟩), .pointer (some ⟨fb, 0, none⟩)] W (Q W) := by
  have HC := Lib.hid hc
  have HFG := Lib.hid hfg
  have HU := Lib.hid hu
  have HCALL := Lib.hid hcall
  have HQ := Lib.hid hQ
  clear hc hu hfg hcall hQ
  have hz : (g == 0) = false := by simpa using hz0
  clear hz0
  go_enter Tryz.func162, Tryz.ntmps162
  go_upto_region 3 with (fail)
  have bd : Below W.heap.size W W.drew := ⟨rfl, rfl, rfl, Nat.le_refl _, fun _ _ => rfl⟩
  have n3 := HC.out.pa.groups
  have q_n3 := fun d os => cell_regrown n3 d os
  have q_g0 := fun d os => cell_regrown g0 d os
  refine region_by [false, false, false, false, false, true, false] (by kernel_rfl) (by kernel_rfl) (by kernel_rfl) ?_
  repeat (first | (refine wpR_skip (by rfl) ?_; simp only [Act.put, List.setIfInBounds_toArray, List.set_cons_zero, List.set_cons_succ]) | (refine wpR_det (by rfl) (fun K hK => ?_); go_big_quiet_op; refine hK _ ?_; clear hK K))
  refine wpR_bar (by rfl) (fun K hK => ?_)
  go_big_op
  go_at_call 116
  refine (iGroupUsed_any x.ca x.ta x.ga x.gc x.gh M _ (HC.out.keep bd).own.wa HFG.out.group _).mono ?_
  rintro e w3 ⟨rfl, rfl⟩
  rw [HU.out]
  refine hK _ _ (regrown_of_below bd) ?_
  clear hK K
  repeat (first | (refine wpR_skip (by rfl) ?_; simp only [Act.put, List.setIfInBounds_toArray, List.set_cons_zero, List.set_cons_succ]) | (refine wpR_det (by rfl) (fun K hK => ?_); go_big_quiet_op; refine hK _ ?_; clear hK K))
  refine wpR_nil ?_
  clear q_n3 q_g0 n3
  have HBD := Lib.hid bd
  go_wp2_with fail
  refine (HCALL.out _ HBD.out).mono ?_
  intro e w4 hq
  obtain ⟨v, rfl, hq2⟩ := HQ.out _ _ _ HBD.out hq
  have HQ2 := Lib.hid hq2
  clear hq hq2
  go_wp2
  exact HQ2.out
set_option maxRecDepth 100000 in
set_option maxHeartbeats 4000000 in
theorem iAG_bad (h : WH) (M : WorldM) (w : World) (hs : WAt w h M) (hf : WFit M) (hx : NextOk M) (g : Int) (st : Bool) (F : FuncId) (cps : Array Value) (_hF : ∀ (args : Array Value) (u : World), (callFunc F args).run Tryz.prog u = .ok (.enter F args) u) (hB : worldB M = false) :
    Calls Tryz.prog 95 #[.agg #[.int .i64 M.now, .slice h.ca M.cpus.length h.cc, .slice h.ta M.tasks.length h.tc, .slice h.ga M.groups.length h.gc], .int .i64 g, .bool st, .func (.func F) #[] cps] w (WPost world0 1 w) := by
  have HWB := Lib.hid hB
  clear hB
  go_enter Tryz.func95, Tryz.ntmps95
  go_upto_region 1 with (fail)
  refine gen5 (p := fun W => Code.wp _ _ _ _ W) ?_
  intro W b1 s1 k0 k1 k2 k3 k4
  have B1 := Lib.hid b1
  have K1 := Lib.hid k4
  have S1 := Lib.hid s1
  have G0 := Lib.hid (show W.cell? ⟨w.heap.size + 1, 0, none⟩ = some (.int .i64 g) from k1.cell 0)
  have T0 := Lib.hid (show W.cell? ⟨w.heap.size + 1 + 1, 0, none⟩ = some (.bool st) from k2.cell 0)
  have F0 := Lib.hid (show W.cell? ⟨w.heap.size + 1 + 1 + 1, 0, none⟩ = some (.func (.func F) #[] cps) from k3.cell 0)
  have hs1 := hs.keep b1
  have K0 := Lib.hid k0
  clear b1 k0 k1 k2 k3 k4 s1
  have c0 := K0.out.cell 0
  have c1 := K0.out.cell 1
  have c2 := K0.out.cell 2
  have c3 := K0.out.cell 3
  have cf := fun i => K0.out.frozen i
  simp at c0 c1 c2 c3
  go_wp2_with fail
  refine (iAttempt_bad h M _ hs1 hf hx 162 #[.pointer (some ⟨w.heap.size + 1, 0, none⟩), .pointer (some ⟨w.heap.size + 1 + 1, 0, none⟩), .pointer (some ⟨w.heap.size + 1 + 1 + 1, 0, none⟩)] (fun args u => by kernel_rfl) HWB.out).mono ?_
  rintro e w3 ⟨x, rfl, hb3, ow⟩
  have K1c := Lib.hid (K1.out.below hb3 K1.out.lt)
  have BF := Lib.hid (B1.out.andThen hb3)
  have OW := Lib.hid ow
  clear c0 c1 c2 c3 cf
  clear hs1 hb3 ow K0 K1 B1
  have d0 := K1c.out.cell 0
  have d1 := K1c.out.cell 1
  have d2 := K1c.out.cell 2
  have d3 := K1c.out.cell 3
  have df := fun i => K1c.out.frozen i
  simp at d0 d1 d2 d3
  go_wp2
  have kz := Lib.hid (show Keep (fun i => i = w.heap.size + 1 + 1 + 1 + 1) w3 ((((w3.setCell ⟨w.heap.size + 1 + 1 + 1 + 1, 0, none⟩ (.int .i64 world0.now)).setCell ⟨w.heap.size + 1 + 1 + 1 + 1, 1, none⟩ (.slice x.ca world0.cpus.length x.cc)).setCell ⟨w.heap.size + 1 + 1 + 1 + 1, 2, none⟩ (.slice x.ta world0.tasks.length x.tc)).setCell ⟨w.heap.size + 1 + 1 + 1 + 1, 3, none⟩ (.slice x.ga world0.groups.length x.gc)) from ((((Keep.set _ _ _ (by rfl)).trans (Keep.set _ _ _ (by rfl))).trans (Keep.set _ _ _ (by rfl))).trans (Keep.set _ _ _ (by rfl))))
  refine bodyPost_ret (v := .tuple #[.agg #[.int .i64 world0.now, .slice x.ca world0.cpus.length x.cc, .slice x.ta world0.tasks.length x.tc, .slice x.ga world0.groups.length x.gc], .int .i64 1]) (by simp [results, Tryz.results95, go_sem, *]) rfl ⟨x, rfl, ?_, ?_⟩
  · exact BF.out.trans (kz.out.below BF.out.size fun i h => by omega)
  · exact OW.out.fin kz.out (fun i h => by have := S1.out; omega) (by have := S1.out; omega)
set_option maxRecDepth 100000 in
set_option maxHeartbeats 4000000 in
theorem iAG_root (h : WH) (M : WorldM) (w : World) (hs : WAt w h M) (hf : WFit M) (hx : NextOk M) (g : Int) (st : Bool) (F : FuncId) (cps : Array Value) (_hF : ∀ (args : Array Value) (u : World), (callFunc F args).run Tryz.prog u = .ok (.enter F args) u) (hE : ErrIs w) (hB : worldB M = true) (hr : g = 0 ∨ st = false) :
    Calls Tryz.prog 95 #[.agg #[.int .i64 M.now, .slice h.ca M.cpus.length h.cc, .slice h.ta M.tasks.length h.tc, .slice h.ga M.groups.length h.gc], .int .i64 g, .bool st, .func (.func F) #[] cps] w (WPost M 1 w) := by
  have HWB := Lib.hid hB
  have HE := Lib.hid hE
  have HR := Lib.hid hr
  clear hB hE hr
  go_enter Tryz.func95, Tryz.ntmps95
  go_upto_region 1 with (fail)
  refine gen5 (p := fun W => Code.wp _ _ _ _ W) ?_
  intro W b1 s1 k0 k1 k2 k3 k4
  have B1 := Lib.hid b1
  have K1 := Lib.hid k4
  have S1 := Lib.hid s1
  have G0 := Lib.hid (show W.cell? ⟨w.heap.size + 1, 0, none⟩ = some (.int .i64 g) from k1.cell 0)
  have T0 := Lib.hid (show W.cell? ⟨w.heap.size + 1 + 1, 0, none⟩ = some (.bool st) from k2.cell 0)
  have F0 := Lib.hid (show W.cell? ⟨w.heap.size + 1 + 1 + 1, 0, none⟩ = some (.func (.func F) #[] cps) from k3.cell 0)
  have hs1 := hs.keep b1
  have K0 := Lib.hid k0
  clear b1 k0 k1 k2 k3 k4 s1
  have c0 := K0.out.cell 0
  have c1 := K0.out.cell 1
  have c2 := K0.out.cell 2
  have c3 := K0.out.cell 3
  have cf := fun i => K0.out.frozen i
  simp at c0 c1 c2 c3
  go_wp2_with fail
  refine (iAttempt_refused h M _ hs1 hf hx 162 #[.pointer (some ⟨w.heap.size + 1, 0, none⟩), .pointer (some ⟨w.heap.size + 1 + 1, 0, none⟩), .pointer (some ⟨w.heap.size + 1 + 1 + 1, 0, none⟩)] (fun args u => by kernel_rfl) HWB.out (HE.out.keep B1.out) 1 (fun W' p x B co => iAG1_root w W' p x M B ⟨B1.out.andThen co.bel, co.box, co.own, by have := co.low; have := S1.out; omega, by have := co.lowp; have := S1.out; omega, co.out⟩ _ _ _ g st HR.out ((co.bel.cell (p := ⟨w.heap.size + 1, 0, none⟩) (World.block_lt_of_cell? _ _ G0.out)).trans G0.out) ((co.bel.cell (p := ⟨w.heap.size + 1 + 1, 0, none⟩) (World.block_lt_of_cell? _ _ T0.out)).trans T0.out))).mono ?_
  rintro e w3 ⟨x, rfl, hb3, ow⟩
  have K1c := Lib.hid (K1.out.below hb3 K1.out.lt)
  have BF := Lib.hid (B1.out.andThen hb3)
  have OW := Lib.hid ow
  clear c0 c1 c2 c3 cf
  clear hs1 hb3 ow K0 K1 B1
  have d0 := K1c.out.cell 0
  have d1 := K1c.out.cell 1
  have d2 := K1c.out.cell 2
  have d3 := K1c.out.cell 3
  have df := fun i => K1c.out.frozen i
  simp at d0 d1 d2 d3
  go_wp2
  have kz := Lib.hid (show Keep (fun i => i = w.heap.size + 1 + 1 + 1 + 1) w3 ((((w3.setCell ⟨w.heap.size + 1 + 1 + 1 + 1, 0, none⟩ (.int .i64 M.now)).setCell ⟨w.heap.size + 1 + 1 + 1 + 1, 1, none⟩ (.slice x.ca M.cpus.length x.cc)).setCell ⟨w.heap.size + 1 + 1 + 1 + 1, 2, none⟩ (.slice x.ta M.tasks.length x.tc)).setCell ⟨w.heap.size + 1 + 1 + 1 + 1, 3, none⟩ (.slice x.ga M.groups.length x.gc)) from ((((Keep.set _ _ _ (by rfl)).trans (Keep.set _ _ _ (by rfl))).trans (Keep.set _ _ _ (by rfl))).trans (Keep.set _ _ _ (by rfl))))
  refine bodyPost_ret (v := .tuple #[.agg #[.int .i64 M.now, .slice x.ca M.cpus.length x.cc, .slice x.ta M.tasks.length x.tc, .slice x.ga M.groups.length x.gc], .int .i64 1]) (by simp [results, Tryz.results95, go_sem, *]) rfl ⟨x, rfl, ?_, ?_⟩
  · exact BF.out.trans (kz.out.below BF.out.size fun i h => by omega)
  · exact OW.out.fin kz.out (fun i h => by have := S1.out; omega) (by have := S1.out; omega)
set_option maxRecDepth 100000 in
set_option maxHeartbeats 4000000 in
theorem iAG_none (h : WH) (M : WorldM) (w : World) (hs : WAt w h M) (hf : WFit M) (hx : NextOk M) (g : Int) (st : Bool) (F : FuncId) (cps : Array Value) (_hF : ∀ (args : Array Value) (u : World), (callFunc F args).run Tryz.prog u = .ok (.enter F args) u) (hE : ErrIs w) (hB : worldB M = true) (hst : st = true) (hz0 : g ≠ 0) (hu : usedI M g = false) :
    Calls Tryz.prog 95 #[.agg #[.int .i64 M.now, .slice h.ca M.cpus.length h.cc, .slice h.ta M.tasks.length h.tc, .slice h.ga M.groups.length h.gc], .int .i64 g, .bool st, .func (.func F) #[] cps] w (WPost M 2 w) := by
  subst hst
  have HWB := Lib.hid hB
  have HE := Lib.hid hE
  have HZ := Lib.hid hz0
  have HU := Lib.hid hu
  clear hB hE hz0 hu
  go_enter Tryz.func95, Tryz.ntmps95
  go_upto_region 1 with (fail)
  refine gen5 (p := fun W => Code.wp _ _ _ _ W) ?_
  intro W b1 s1 k0 k1 k2 k3 k4
  have B1 := Lib.hid b1
  have K1 := Lib.hid k4
  have S1 := Lib.hid s1
  have G0 := Lib.hid (show W.cell? ⟨w.heap.size + 1, 0, none⟩ = some (.int .i64 g) from k1.cell 0)
  have T0 := Lib.hid (show W.cell? ⟨w.heap.size + 1 + 1, 0, none⟩ = some (.bool true) from k2.cell 0)
  have F0 := Lib.hid (show W.cell? ⟨w.heap.size + 1 + 1 + 1, 0, none⟩ = some (.func (.func F) #[] cps) from k3.cell 0)
  have hs1 := hs.keep b1
  have K0 := Lib.hid k0
  clear b1 k0 k1 k2 k3 k4 s1
  have c0 := K0.out.cell 0
  have c1 := K0.out.cell 1
  have c2 := K0.out.cell 2
  have c3 := K0.out.cell 3
  have cf := fun i => K0.out.frozen i
  simp at c0 c1 c2 c3
  go_wp2_with fail
  refine (iAttempt_refused h M _ hs1 hf hx 162 #[.pointer (some ⟨w.heap.size + 1, 0, none⟩), .pointer (some ⟨w.heap.size + 1 + 1, 0, none⟩), .pointer (some ⟨w.heap.size + 1 + 1 + 1, 0, none⟩)] (fun args u => by kernel_rfl) HWB.out (HE.out.keep B1.out) 2 (fun W' p x B co => iAG1_none w W' p x M B ⟨B1.out.andThen co.bel, co.box, co.own, by have := co.low; have := S1.out; omega, by have := co.lowp; have := S1.out; omega, co.out⟩ _ _ _ g HZ.out HU.out (fitG_of hf) ((co.bel.cell (p := ⟨w.heap.size + 1, 0, none⟩) (World.block_lt_of_cell? _ _ G0.out)).trans G0.out) ((co.bel.cell (p := ⟨w.heap.size + 1 + 1, 0, none⟩) (World.block_lt_of_cell? _ _ T0.out)).trans T0.out))).mono ?_
  rintro e w3 ⟨x, rfl, hb3, ow⟩
  have K1c := Lib.hid (K1.out.below hb3 K1.out.lt)
  have BF := Lib.hid (B1.out.andThen hb3)
  have OW := Lib.hid ow
  clear c0 c1 c2 c3 cf
  clear hs1 hb3 ow K0 K1 B1
  have d0 := K1c.out.cell 0
  have d1 := K1c.out.cell 1
  have d2 := K1c.out.cell 2
  have d3 := K1c.out.cell 3
  have df := fun i => K1c.out.frozen i
  simp at d0 d1 d2 d3
  go_wp2
  have kz := Lib.hid (show Keep (fun i => i = w.heap.size + 1 + 1 + 1 + 1) w3 ((((w3.setCell ⟨w.heap.size + 1 + 1 + 1 + 1, 0, none⟩ (.int .i64 M.now)).setCell ⟨w.heap.size + 1 + 1 + 1 + 1, 1, none⟩ (.slice x.ca M.cpus.length x.cc)).setCell ⟨w.heap.size + 1 + 1 + 1 + 1, 2, none⟩ (.slice x.ta M.tasks.length x.tc)).setCell ⟨w.heap.size + 1 + 1 + 1 + 1, 3, none⟩ (.slice x.ga M.groups.length x.gc)) from ((((Keep.set _ _ _ (by rfl)).trans (Keep.set _ _ _ (by rfl))).trans (Keep.set _ _ _ (by rfl))).trans (Keep.set _ _ _ (by rfl))))
  refine bodyPost_ret (v := .tuple #[.agg #[.int .i64 M.now, .slice x.ca M.cpus.length x.cc, .slice x.ta M.tasks.length x.tc, .slice x.ga M.groups.length x.gc], .int .i64 2]) (by simp [results, Tryz.results95, go_sem, *]) rfl ⟨x, rfl, ?_, ?_⟩
  · exact BF.out.trans (kz.out.below BF.out.size fun i h => by omega)
  · exact OW.out.fin kz.out (fun i h => by have := S1.out; omega) (by have := S1.out; omega)
set_option maxRecDepth 100000 in
set_option maxHeartbeats 4000000 in
theorem iAG_ref (h : WH) (M : WorldM) (w : World) (hs : WAt w h M) (hf : WFit M) (hx : NextOk M) (g : Int) (st : Bool) (F : FuncId) (cps : Array Value) (hF : ∀ (args : Array Value) (u : World), (callFunc F args).run Tryz.prog u = .ok (.enter F args) u) (hE : ErrIs w) (hB : worldB M = true) (hst : st = true) (hz0 : g ≠ 0) (hu : usedI M g = true) (code : Int)
    (hc : ∀ (W : World) (p : Nat) (x : WH) (B : Nat), COn w W p x M B → Calls Tryz.prog F (#[.pointer (some ⟨p, 0, none⟩)] ++ cps) W (CRef p x code M.groups.length W)) :
    Calls Tryz.prog 95 #[.agg #[.int .i64 M.now, .slice h.ca M.cpus.length h.cc, .slice h.ta M.tasks.length h.tc, .slice h.ga M.groups.length h.gc], .int .i64 g, .bool st, .func (.func F) #[] cps] w (WPost M code w) := by
  subst hst
  have HWB := Lib.hid hB
  have HZ := Lib.hid hz0
  have HU := Lib.hid hu
  have HC := Lib.hid hc
  have HE := Lib.hid hE
  clear hB hE hz0 hu hc
  go_enter Tryz.func95, Tryz.ntmps95
  go_upto_region 1 with (fail)
  refine gen5 (p := fun W => Code.wp _ _ _ _ W) ?_
  intro W b1 s1 k0 k1 k2 k3 k4
  have B1 := Lib.hid b1
  have K1 := Lib.hid k4
  have S1 := Lib.hid s1
  have G0 := Lib.hid (show W.cell? ⟨w.heap.size + 1, 0, none⟩ = some (.int .i64 g) from k1.cell 0)
  have T0 := Lib.hid (show W.cell? ⟨w.heap.size + 1 + 1, 0, none⟩ = some (.bool true) from k2.cell 0)
  have F0 := Lib.hid (show W.cell? ⟨w.heap.size + 1 + 1 + 1, 0, none⟩ = some (.func (.func F) #[] cps) from k3.cell 0)
  have hs1 := hs.keep b1
  have K0 := Lib.hid k0
  clear b1 k0 k1 k2 k3 k4 s1
  have c0 := K0.out.cell 0
  have c1 := K0.out.cell 1
  have c2 := K0.out.cell 2
  have c3 := K0.out.cell 3
  have cf := fun i => K0.out.frozen i
  simp at c0 c1 c2 c3
  go_wp2_with fail
  refine (iAttempt_refused h M _ hs1 hf hx 162 #[.pointer (some ⟨w.heap.size + 1, 0, none⟩), .pointer (some ⟨w.heap.size + 1 + 1, 0, none⟩), .pointer (some ⟨w.heap.size + 1 + 1 + 1, 0, none⟩)] (fun args u => by kernel_rfl) HWB.out (HE.out.keep B1.out) code (fun W' p x B co => iAG1_call w W' p x M B ⟨B1.out.andThen co.bel, co.box, co.own, by have := co.low; have := S1.out; omega, by have := co.lowp; have := S1.out; omega, co.out⟩ _ _ _ g HZ.out HU.out (fitG_of hf) F cps hF (fun W e w' => CRef p x code M.groups.length W e w') (fun W'' hb'' => HC.out W'' p x B (COn.keep ⟨B1.out.andThen co.bel, co.box, co.own, by have := co.low; have := S1.out; omega, by have := co.lowp; have := S1.out; omega, co.out⟩ hb'')) (fun W1 e w1 hb hq => ⟨_, hq.1, hq.of hb |> fun z => by rw [hq.1] at z; exact z⟩) ((co.bel.cell (p := ⟨w.heap.size + 1, 0, none⟩) (World.block_lt_of_cell? _ _ G0.out)).trans G0.out) ((co.bel.cell (p := ⟨w.heap.size + 1 + 1, 0, none⟩) (World.block_lt_of_cell? _ _ T0.out)).trans T0.out) ((co.bel.cell (p := ⟨w.heap.size + 1 + 1 + 1, 0, none⟩) (World.block_lt_of_cell? _ _ F0.out)).trans F0.out))).mono ?_
  rintro e w3 ⟨x, rfl, hb3, ow⟩
  have K1c := Lib.hid (K1.out.below hb3 K1.out.lt)
  have BF := Lib.hid (B1.out.andThen hb3)
  have OW := Lib.hid ow
  clear c0 c1 c2 c3 cf
  clear hs1 hb3 ow K0 K1 B1
  have d0 := K1c.out.cell 0
  have d1 := K1c.out.cell 1
  have d2 := K1c.out.cell 2
  have d3 := K1c.out.cell 3
  have df := fun i => K1c.out.frozen i
  simp at d0 d1 d2 d3
  go_wp2
  have kz := Lib.hid (show Keep (fun i => i = w.heap.size + 1 + 1 + 1 + 1) w3 ((((w3.setCell ⟨w.heap.size + 1 + 1 + 1 + 1, 0, none⟩ (.int .i64 M.now)).setCell ⟨w.heap.size + 1 + 1 + 1 + 1, 1, none⟩ (.slice x.ca M.cpus.length x.cc)).setCell ⟨w.heap.size + 1 + 1 + 1 + 1, 2, none⟩ (.slice x.ta M.tasks.length x.tc)).setCell ⟨w.heap.size + 1 + 1 + 1 + 1, 3, none⟩ (.slice x.ga M.groups.length x.gc)) from ((((Keep.set _ _ _ (by rfl)).trans (Keep.set _ _ _ (by rfl))).trans (Keep.set _ _ _ (by rfl))).trans (Keep.set _ _ _ (by rfl))))
  refine bodyPost_ret (v := .tuple #[.agg #[.int .i64 M.now, .slice x.ca M.cpus.length x.cc, .slice x.ta M.tasks.length x.tc, .slice x.ga M.groups.length x.gc], .int .i64 code]) (by simp [results, Tryz.results95, go_sem, *]) rfl ⟨x, rfl, ?_, ?_⟩
  · exact BF.out.trans (kz.out.below BF.out.size fun i h => by omega)
  · exact OW.out.fin kz.out (fun i h => by have := S1.out; omega) (by have := S1.out; omega)
set_option maxRecDepth 100000 in
set_option maxHeartbeats 4000000 in
theorem iAG_done (h : WH) (M : WorldM) (w : World) (hs : WAt w h M) (hf : WFit M) (hx : NextOk M) (g : Int) (st : Bool) (F : FuncId) (cps : Array Value) (hF : ∀ (args : Array Value) (u : World), (callFunc F args).run Tryz.prog u = .ok (.enter F args) u) (hB : worldB M = true) (hst : st = true) (hz0 : g ≠ 0) (hu : usedI M g = true) (M' : WorldM) (hl : M'.groups.length = M.groups.length)
    (hc : ∀ (W : World) (p : Nat) (x : WH) (B : Nat), COn w W p x M B → Calls Tryz.prog F (#[.pointer (some ⟨p, 0, none⟩)] ++ cps) W (CDone p x M' B M.groups.length W)) :
    Calls Tryz.prog 95 #[.agg #[.int .i64 M.now, .slice h.ca M.cpus.length h.cc, .slice h.ta M.tasks.length h.tc, .slice h.ga M.groups.length h.gc], .int .i64 g, .bool st, .func (.func F) #[] cps] w (WPost M' 0 w) := by
  subst hst
  have HWB := Lib.hid hB
  have HZ := Lib.hid hz0
  have HU := Lib.hid hu
  have HC := Lib.hid hc
  have HL := Lib.hid hl
  clear hB hz0 hu hc hl
  go_enter Tryz.func95, Tryz.ntmps95
  go_upto_region 1 with (fail)
  refine gen5 (p := fun W => Code.wp _ _ _ _ W) ?_
  intro W b1 s1 k0 k1 k2 k3 k4
  have B1 := Lib.hid b1
  have K1 := Lib.hid k4
  have S1 := Lib.hid s1
  have G0 := Lib.hid (show W.cell? ⟨w.heap.size + 1, 0, none⟩ = some (.int .i64 g) from k1.cell 0)
  have T0 := Lib.hid (show W.cell? ⟨w.heap.size + 1 + 1, 0, none⟩ = some (.bool true) from k2.cell 0)
  have F0 := Lib.hid (show W.cell? ⟨w.heap.size + 1 + 1 + 1, 0, none⟩ = some (.func (.func F) #[] cps) from k3.cell 0)
  have hs1 := hs.keep b1
  have K0 := Lib.hid k0
  clear b1 k0 k1 k2 k3 k4 s1
  have c0 := K0.out.cell 0
  have c1 := K0.out.cell 1
  have c2 := K0.out.cell 2
  have c3 := K0.out.cell 3
  have cf := fun i => K0.out.frozen i
  simp at c0 c1 c2 c3
  go_wp2_with fail
  refine (iAttempt_done h M _ hs1 hf hx 162 #[.pointer (some ⟨w.heap.size + 1, 0, none⟩), .pointer (some ⟨w.heap.size + 1 + 1, 0, none⟩), .pointer (some ⟨w.heap.size + 1 + 1 + 1, 0, none⟩)] (fun args u => by kernel_rfl) HWB.out M' HL.out (fun W' p x B co => iAG1_call w W' p x M B ⟨B1.out.andThen co.bel, co.box, co.own, by have := co.low; have := S1.out; omega, by have := co.lowp; have := S1.out; omega, co.out⟩ _ _ _ g HZ.out HU.out (fitG_of hf) F cps hF (fun W e w' => CDone p x M' B M.groups.length W e w') (fun W'' hb'' => HC.out W'' p x B (COn.keep ⟨B1.out.andThen co.bel, co.box, co.own, by have := co.low; have := S1.out; omega, by have := co.lowp; have := S1.out; omega, co.out⟩ hb'')) (fun W1 e w1 hb hq => ⟨.nilIface, by obtain ⟨_, h1, _⟩ := hq; exact h1, by have z := hq.of hb; obtain ⟨_, h1, _⟩ := hq; rw [h1] at z; exact z⟩) ((co.bel.cell (p := ⟨w.heap.size + 1, 0, none⟩) (World.block_lt_of_cell? _ _ G0.out)).trans G0.out) ((co.bel.cell (p := ⟨w.heap.size + 1 + 1, 0, none⟩) (World.block_lt_of_cell? _ _ T0.out)).trans T0.out) ((co.bel.cell (p := ⟨w.heap.size + 1 + 1 + 1, 0, none⟩) (World.block_lt_of_cell? _ _ F0.out)).trans F0.out))).mono ?_
  rintro e w3 ⟨x, rfl, hb3, ow⟩
  have K1c := Lib.hid (K1.out.below hb3 K1.out.lt)
  have BF := Lib.hid (B1.out.andThen hb3)
  have OW := Lib.hid ow
  clear c0 c1 c2 c3 cf
  clear hs1 hb3 ow K0 K1 B1
  have d0 := K1c.out.cell 0
  have d1 := K1c.out.cell 1
  have d2 := K1c.out.cell 2
  have d3 := K1c.out.cell 3
  have df := fun i => K1c.out.frozen i
  simp at d0 d1 d2 d3
  go_wp2
  have kz := Lib.hid (show Keep (fun i => i = w.heap.size + 1 + 1 + 1 + 1) w3 ((((w3.setCell ⟨w.heap.size + 1 + 1 + 1 + 1, 0, none⟩ (.int .i64 M'.now)).setCell ⟨w.heap.size + 1 + 1 + 1 + 1, 1, none⟩ (.slice x.ca M'.cpus.length x.cc)).setCell ⟨w.heap.size + 1 + 1 + 1 + 1, 2, none⟩ (.slice x.ta M'.tasks.length x.tc)).setCell ⟨w.heap.size + 1 + 1 + 1 + 1, 3, none⟩ (.slice x.ga M'.groups.length x.gc)) from ((((Keep.set _ _ _ (by rfl)).trans (Keep.set _ _ _ (by rfl))).trans (Keep.set _ _ _ (by rfl))).trans (Keep.set _ _ _ (by rfl))))
  refine bodyPost_ret (v := .tuple #[.agg #[.int .i64 M'.now, .slice x.ca M'.cpus.length x.cc, .slice x.ta M'.tasks.length x.tc, .slice x.ga M'.groups.length x.gc], .int .i64 0]) (by simp [results, Tryz.results95, go_sem, *]) rfl ⟨x, rfl, ?_, ?_⟩
  · exact BF.out.trans (kz.out.below BF.out.size fun i h => by omega)
  · exact OW.out.fin kz.out (fun i h => by have := S1.out; omega) (by have := S1.out; omega)
end Go.Proofs.YtknfpigaognklaaGreatDoor
namespace Go.Proofs.YtknfpigaognklaaGreatDoor
open Go.RowKit Go.Sort
theorem drewBelow (w : World) : Below w.heap.size w w.drew := ⟨rfl, rfl, rfl, Nat.le_refl _, fun _ _ => rfl⟩
set_option maxRecDepth 100000 in
set_option maxHeartbeats 4000000 in
theorem iDrop1_busy (w W : World) (p : Nat) (x : WH) (M : WorldM) (B : Nat) (hc : COn w W p x M B) (hf : WFit M) (hB : worldB M = true) (gb g : Nat) (hg : g < 8) (hu : usedI M g = true) (g0 : W.cell? ⟨gb, 0, none⟩ = some (.int .i64 g)) (hh : (kidsB M g || memsB M g) = true) :
    Calls Tryz.prog 96 #[.pointer (some ⟨p, 0, none⟩), .pointer (some ⟨gb, 0, none⟩)] W (CRef p x 4 M.groups.length W) := by
  have HC := Lib.hid hc
  have HH := Lib.hid hh
  have HU := Lib.hid hu
  clear hh hu
  have HFG := Lib.hid (fitG_of hf)
  have HB := Lib.hid hB
  have HL := Lib.hid (facts_of hB).tree.len
  have htm := hf.2.1
  have gnn : (0 : Int) ≤ (g : Int) := by omega
  obtain ⟨q0, q1, q2, q3, q4, q5⟩ := hc.pa
  have GL := Lib.hid (World.block_lt_of_cell? _ _ g0)
  have G0 := Lib.hid g0
  clear hf hc hB g0 q5
  go_enter Tryz.func96, Tryz.ntmps96
  go_wp2
  clear q0 q1 q2 q3 q4
  go_loopw [11] (fun i wr => ∃ k : Nat, k ≤ M.tasks.length ∧ i = .int .i64 k ∧ (List.range k).any (memB M g) = false ∧ Below W.heap.size W wr) (fun i _ => M.tasks.length - (intOf i).toNat)
  case atStart => exact ⟨0, Nat.zero_le _, rfl, rfl, Below.refl _ _⟩
  case round =>
    obtain ⟨k, hk, rfl, hany, hb⟩ := hrel
    have HA := Lib.hid hany
    have HBE := Lib.hid hb
    have g0 := (hb.cell (p := ⟨gb, 0, none⟩) GL.out).trans G0.out
    clear hany
    by_cases hlt : k < M.tasks.length
    · obtain ⟨b, o, hta, hbl, c0, c1, c2, c3, c4, c5, c6, c7, c8⟩ := (HC.out.pa.wa.keep hb).task_ hlt
      have i0 : (0 : Int) ≤ (k : Int) := by omega
      have i1 : (k : Int) < (M.tasks.length : Int) := by omega
      have gbl : gb < wr.heap.size := Nat.lt_of_lt_of_le GL.out hb.size
      have HLT := Lib.hid hlt
      generalize hy : x.ta = ta at *
      subst hta
      clear hb
      by_cases hm : memB M g k = true
      · have HK := Lib.hid (show memsB M g = true from any_of hlt hm)
        simp only [memB, Bool.and_eq_true, Bool.not_eq_true', beq_eq_false_iff_ne, beq_iff_eq] at hm
        have hst : ((tsk M k).st == 0) = false := by simpa using hm.1
        have hst2 : ((tsk M k).st != 0) = true := by simpa using hm.1
        rw [hm.2] at c1
        generalize (tsk M k).st = ST at *
        clear hm hlt
        go_upto_region 4 with (fail)
        refine gen1 (p := fun W => Code.wp _ _ _ _ W) ?_
        intro W1 b1 s1 kx
        have y0 := kx.cell 0
        have y1 := kx.cell 1
        simp at y0 y1
        have g1 := (b1.cell (p := ⟨gb, 0, none⟩) gbl).trans g0
        have HB1 := Lib.hid (HBE.out.andThen b1)
        clear c0 c1 c2 c3 c4 c5 c6 c7 c8 b1 s1 kx g0
        go_wp2
        go_ret
        exact CRef.mk_ HB1.out
      · have HK := Lib.hid (show memB M g k = false by simpa using hm)
        by_cases hst : (tsk M k).st = 0
        · rw [hst] at c0
          clear hm hst
          go_upto_region 4 with (fail)
          refine gen1 (p := fun W => Code.wp _ _ _ _ W) ?_
          intro W1 b1 s1 kx
          have y0 := kx.cell 0
          simp at y0
          have HB1 := Lib.hid (HBE.out.andThen b1)
          clear c0 c1 c2 c3 c4 c5 c6 c7 c8 b1 s1 kx g0
          go_wp2
          go_roundw
          case rel => exact ⟨k + 1, by have := HLT.out; omega, by go_num, by rw [any_succ, HA.out, HK.out]; rfl, HB1.out⟩
          case measure => simp [intOf]; omega
        · have hst2 : ((tsk M k).st == 0) = false := by simpa using hst
          have hst3 : ((tsk M k).st != 0) = true := by simpa using hst
          have hp2 : ((tsk M k).gr == (g : Int)) = false := by
            rw [beq_eq_false_iff_ne]; intro e; apply hm; simp [memB, hst2, e]
          generalize (tsk M k).st = ST at *
          generalize (tsk M k).gr = GR at *
          clear hm hst
          go_upto_region 4 with (fail)
          refine gen1 (p := fun W => Code.wp _ _ _ _ W) ?_
          intro W1 b1 s1 kx
          have y0 := kx.cell 0
          have y1 := kx.cell 1
          simp at y0 y1
          have g1 := (b1.cell (p := ⟨gb, 0, none⟩) gbl).trans g0
          have HB1 := Lib.hid (HBE.out.andThen b1)
          clear c0 c1 c2 c3 c4 c5 c6 c7 c8 b1 s1 kx g0
          go_wp2
          go_roundw
          case rel => exact ⟨k + 1, by have := HLT.out; omega, by go_num, by rw [any_succ, HA.out, HK.out]; rfl, HB1.out⟩
          case measure => simp [intOf]; omega
    · obtain rfl : k = M.tasks.length := by omega
      have HM := Lib.hid (show memsB M g = false from HA.out)
      have CO := Lib.hid (HC.out.keep hb)
      clear hb hlt hk
      have HKB := Lib.hid (show kidsB M g = true by have := HH.out; rw [HM.out, Bool.or_false] at this; exact this)
      obtain ⟨n, hn⟩ : ∃ n, (kidsN M g 8).length = n := ⟨_, rfl⟩
      have HN := Lib.hid hn
      have hn1 : (0 : Int) < (n : Int) := by have := (kidsN_any M g 8).2 (by have := HKB.out; rw [kidsB, HL.out] at this; exact this); omega
      clear hn
      go_upto_region 7 with (fail)
      have bd : Below wr.heap.size wr wr.drew := ⟨rfl, rfl, rfl, Nat.le_refl _, fun _ _ => rfl⟩
      have n3 := CO.out.pa.groups
      have q_n3 := fun d os => cell_regrown n3 d os
      have q_g0 := fun d os => cell_regrown g0 d os
      refine region_by [false, false, false, false, false, true, false, false] (by kernel_rfl) (by kernel_rfl) (by kernel_rfl) ?_
      repeat (first | (refine wpR_skip (by rfl) ?_; simp only [Act.put, List.setIfInBounds_toArray, List.set_cons_zero, List.set_cons_succ]) | (refine wpR_det (by rfl) (fun K hK => ?_); go_big_quiet_op; refine hK _ ?_; clear hK K))
      refine wpR_bar (by rfl) (fun K hK => ?_)
      go_big_op
      go_at_call 97
      refine (iKids_any x.ca x.ta x.ga x.gc x.gh M _ (CO.out.keep bd).own.wa HFG.out HB.out g hg HU.out).mono ?_
      rintro e w3 ⟨A, c, rfl, hb3, hR⟩
      rw [HN.out]
      have HB3 := Lib.hid (bd.andThen hb3)
      refine hK _ _ (regrown_of_below (bd.andThen hb3)) ?_
      clear hK K
      repeat (first | (refine wpR_skip (by rfl) ?_; simp only [Act.put, List.setIfInBounds_toArray, List.set_cons_zero, List.set_cons_succ]) | (refine wpR_det (by rfl) (fun K hK => ?_); go_big_quiet_op; refine hK _ ?_; clear hK K))
      refine wpR_nil ?_
      have CO3 := Lib.hid (CO.out.keep HB3.out)
      clear q_n3 q_g0 n3 g0 hb3 hR bd CO
      go_wp2
      go_ret
      exact (CRef.mk_ (Below.refl _ _)).of (HBE.out.andThen HB3.out)
set_option maxRecDepth 100000 in
set_option maxHeartbeats 4000000 in
theorem iDrop1_end (w W : World) (p : Nat) (x : WH) (M : WorldM) (B : Nat) (hc : COn w W p x M B) (hf : WFit M) (hB : worldB M = true) (gb g : Nat) (hg : g < 8) (hu : usedI M g = true) (g0 : W.cell? ⟨gb, 0, none⟩ = some (.int .i64 g)) (hh : (kidsB M g || memsB M g) = false) (hR : roomM M = false) :
    Calls Tryz.prog 96 #[.pointer (some ⟨p, 0, none⟩), .pointer (some ⟨gb, 0, none⟩)] W (CRef p x 10 M.groups.length W) := by
  have HC := Lib.hid hc
  have HH := Lib.hid hh
  have HU := Lib.hid hu
  have HRM := Lib.hid hR
  clear hh hu hR
  have HFG := Lib.hid (fitG_of hf)
  have HB := Lib.hid hB
  have HL := Lib.hid (facts_of hB).tree.len
  have htm := hf.2.1
  have gnn : (0 : Int) ≤ (g : Int) := by omega
  obtain ⟨q0, q1, q2, q3, q4, q5⟩ := hc.pa
  have GL := Lib.hid (World.block_lt_of_cell? _ _ g0)
  have G0 := Lib.hid g0
  clear hf hc hB g0 q5
  go_enter Tryz.func96, Tryz.ntmps96
  go_wp2
  clear q0 q1 q2 q3 q4
  go_loopw [11] (fun i wr => ∃ k : Nat, k ≤ M.tasks.length ∧ i = .int .i64 k ∧ (List.range k).any (memB M g) = false ∧ Below W.heap.size W wr) (fun i _ => M.tasks.length - (intOf i).toNat)
  case atStart => exact ⟨0, Nat.zero_le _, rfl, rfl, Below.refl _ _⟩
  case round =>
    obtain ⟨k, hk, rfl, hany, hb⟩ := hrel
    have HA := Lib.hid hany
    have HBE := Lib.hid hb
    have g0 := (hb.cell (p := ⟨gb, 0, none⟩) GL.out).trans G0.out
    clear hany
    by_cases hlt : k < M.tasks.length
    · obtain ⟨b, o, hta, hbl, c0, c1, c2, c3, c4, c5, c6, c7, c8⟩ := (HC.out.pa.wa.keep hb).task_ hlt
      have i0 : (0 : Int) ≤ (k : Int) := by omega
      have i1 : (k : Int) < (M.tasks.length : Int) := by omega
      have gbl : gb < wr.heap.size := Nat.lt_of_lt_of_le GL.out hb.size
      have HLT := Lib.hid hlt
      generalize hy : x.ta = ta at *
      subst hta
      clear hb
      by_cases hm : memB M g k = true
      · have HK := Lib.hid (show memsB M g = true from any_of hlt hm)
        simp only [memB, Bool.and_eq_true, Bool.not_eq_true', beq_eq_false_iff_ne, beq_iff_eq] at hm
        have hst : ((tsk M k).st == 0) = false := by simpa using hm.1
        have hst2 : ((tsk M k).st != 0) = true := by simpa using hm.1
        rw [hm.2] at c1
        generalize (tsk M k).st = ST at *
        clear hm hlt
        go_upto_region 4 with (fail)
        refine gen1 (p := fun W => Code.wp _ _ _ _ W) ?_
        intro W1 b1 s1 kx
        have y0 := kx.cell 0
        have y1 := kx.cell 1
        simp at y0 y1
        have g1 := (b1.cell (p := ⟨gb, 0, none⟩) gbl).trans g0
        have HB1 := Lib.hid (HBE.out.andThen b1)
        clear c0 c1 c2 c3 c4 c5 c6 c7 c8 b1 s1 kx g0
        exfalso
        have h3 := HH.out
        rw [HK.out, Bool.or_true] at h3
        cases h3
      · have HK := Lib.hid (show memB M g k = false by simpa using hm)
        by_cases hst : (tsk M k).st = 0
        · rw [hst] at c0
          clear hm hst
          go_upto_region 4 with (fail)
          refine gen1 (p := fun W => Code.wp _ _ _ _ W) ?_
          intro W1 b1 s1 kx
          have y0 := kx.cell 0
          simp at y0
          have HB1 := Lib.hid (HBE.out.andThen b1)
          clear c0 c1 c2 c3 c4 c5 c6 c7 c8 b1 s1 kx g0
          go_wp2
          go_roundw
          case rel => exact ⟨k + 1, by have := HLT.out; omega, by go_num, by rw [any_succ, HA.out, HK.out]; rfl, HB1.out⟩
          case measure => simp [intOf]; omega
        · have hst2 : ((tsk M k).st == 0) = false := by simpa using hst
          have hst3 : ((tsk M k).st != 0) = true := by simpa using hst
          have hp2 : ((tsk M k).gr == (g : Int)) = false := by
            rw [beq_eq_false_iff_ne]; intro e; apply hm; simp [memB, hst2, e]
          generalize (tsk M k).st = ST at *
          generalize (tsk M k).gr = GR at *
          clear hm hst
          go_upto_region 4 with (fail)
          refine gen1 (p := fun W => Code.wp _ _ _ _ W) ?_
          intro W1 b1 s1 kx
          have y0 := kx.cell 0
          have y1 := kx.cell 1
          simp at y0 y1
          have g1 := (b1.cell (p := ⟨gb, 0, none⟩) gbl).trans g0
          have HB1 := Lib.hid (HBE.out.andThen b1)
          clear c0 c1 c2 c3 c4 c5 c6 c7 c8 b1 s1 kx g0
          go_wp2
          go_roundw
          case rel => exact ⟨k + 1, by have := HLT.out; omega, by go_num, by rw [any_succ, HA.out, HK.out]; rfl, HB1.out⟩
          case measure => simp [intOf]; omega
    · obtain rfl : k = M.tasks.length := by omega
      have HM := Lib.hid (show memsB M g = false from HA.out)
      have CO := Lib.hid (HC.out.keep hb)
      clear hb hlt hk
      have hn : (kidsN M g 8).length = 0 := by
        have h1 := (kidsN_any M g 8).1
        rcases Nat.eq_zero_or_pos (kidsN M g 8).length with h | h
        · exact h
        · have h2 := h1 h; have h3 := HH.out; rw [Bool.or_eq_false_iff] at h3; rw [kidsB, HL.out, h2] at h3; cases h3.1
      have HN := Lib.hid hn
      clear hn
      go_upto_region 7 with (fail)
      have bd : Below wr.heap.size wr wr.drew := ⟨rfl, rfl, rfl, Nat.le_refl _, fun _ _ => rfl⟩
      have n3 := CO.out.pa.groups
      have q_n3 := fun d os => cell_regrown n3 d os
      have q_g0 := fun d os => cell_regrown g0 d os
      refine region_by [false, false, false, false, false, true, false, false] (by kernel_rfl) (by kernel_rfl) (by kernel_rfl) ?_
      repeat (first | (refine wpR_skip (by rfl) ?_; simp only [Act.put, List.setIfInBounds_toArray, List.set_cons_zero, List.set_cons_succ]) | (refine wpR_det (by rfl) (fun K hK => ?_); go_big_quiet_op; refine hK _ ?_; clear hK K))
      refine wpR_bar (by rfl) (fun K hK => ?_)
      go_big_op
      go_at_call 97
      refine (iKids_any x.ca x.ta x.ga x.gc x.gh M _ (CO.out.keep bd).own.wa HFG.out HB.out g hg HU.out).mono ?_
      rintro e w3 ⟨A, c, rfl, hb3, hR⟩
      rw [HN.out]
      have HB3 := Lib.hid (bd.andThen hb3)
      refine hK _ _ (regrown_of_below (bd.andThen hb3)) ?_
      clear hK K
      repeat (first | (refine wpR_skip (by rfl) ?_; simp only [Act.put, List.setIfInBounds_toArray, List.set_cons_zero, List.set_cons_succ]) | (refine wpR_det (by rfl) (fun K hK => ?_); go_big_quiet_op; refine hK _ ?_; clear hK K))
      refine wpR_nil ?_
      have CO3 := Lib.hid (CO.out.keep HB3.out)
      clear q_n3 q_g0 n3 g0 hb3 hR bd CO
      go_wp2_with (go_at_call 98; refine (iRoom_any p x.ca x.cc x.ta x.tc x.ga x.gc x.gh M _ CO3.out.pa HFG.out).mono ?_; rintro e w4 ⟨rfl, hb4⟩; rw [HRM.out])
      go_ret
      exact (CRef.mk_ (Below.refl _ _)).of ((HBE.out.andThen HB3.out).andThen hb4)
set_option maxRecDepth 100000 in
set_option maxHeartbeats 4000000 in
theorem iDrop1_done (w W : World) (p : Nat) (x : WH) (M : WorldM) (B : Nat) (hc : COn w W p x M B) (hf : WFit M) (hB : worldB M = true) (gb g : Nat) (hg : g < 8) (hu : usedI M g = true) (g0 : W.cell? ⟨gb, 0, none⟩ = some (.int .i64 g)) (hh : (kidsB M g || memsB M g) = false) (hR : roomM M = true) :
    Calls Tryz.prog 96 #[.pointer (some ⟨p, 0, none⟩), .pointer (some ⟨gb, 0, none⟩)] W (CDone p x (setG M g group0) B M.groups.length W) := by
  have HC := Lib.hid hc
  have HH := Lib.hid hh
  have HU := Lib.hid hu
  have HRM := Lib.hid hR
  clear hh hu hR
  have HFG := Lib.hid (fitG_of hf)
  have HB := Lib.hid hB
  have HL := Lib.hid (facts_of hB).tree.len
  have htm := hf.2.1
  have gnn : (0 : Int) ≤ (g : Int) := by omega
  obtain ⟨q0, q1, q2, q3, q4, q5⟩ := hc.pa
  have GL := Lib.hid (World.block_lt_of_cell? _ _ g0)
  have G0 := Lib.hid g0
  clear hf hc hB g0 q5
  go_enter Tryz.func96, Tryz.ntmps96
  go_wp2
  clear q0 q1 q2 q3 q4
  go_loopw [11] (fun i wr => ∃ k : Nat, k ≤ M.tasks.length ∧ i = .int .i64 k ∧ (List.range k).any (memB M g) = false ∧ Below W.heap.size W wr) (fun i _ => M.tasks.length - (intOf i).toNat)
  case atStart => exact ⟨0, Nat.zero_le _, rfl, rfl, Below.refl _ _⟩
  case round =>
    obtain ⟨k, hk, rfl, hany, hb⟩ := hrel
    have HA := Lib.hid hany
    have HBE := Lib.hid hb
    have g0 := (hb.cell (p := ⟨gb, 0, none⟩) GL.out).trans G0.out
    clear hany
    by_cases hlt : k < M.tasks.length
    · obtain ⟨b, o, hta, hbl, c0, c1, c2, c3, c4, c5, c6, c7, c8⟩ := (HC.out.pa.wa.keep hb).task_ hlt
      have i0 : (0 : Int) ≤ (k : Int) := by omega
      have i1 : (k : Int) < (M.tasks.length : Int) := by omega
      have gbl : gb < wr.heap.size := Nat.lt_of_lt_of_le GL.out hb.size
      have HLT := Lib.hid hlt
      generalize hy : x.ta = ta at *
      subst hta
      clear hb
      by_cases hm : memB M g k = true
      · have HK := Lib.hid (show memsB M g = true from any_of hlt hm)
        simp only [memB, Bool.and_eq_true, Bool.not_eq_true', beq_eq_false_iff_ne, beq_iff_eq] at hm
        have hst : ((tsk M k).st == 0) = false := by simpa using hm.1
        have hst2 : ((tsk M k).st != 0) = true := by simpa using hm.1
        rw [hm.2] at c1
        generalize (tsk M k).st = ST at *
        clear hm hlt
        go_upto_region 4 with (fail)
        refine gen1 (p := fun W => Code.wp _ _ _ _ W) ?_
        intro W1 b1 s1 kx
        have y0 := kx.cell 0
        have y1 := kx.cell 1
        simp at y0 y1
        have g1 := (b1.cell (p := ⟨gb, 0, none⟩) gbl).trans g0
        have HB1 := Lib.hid (HBE.out.andThen b1)
        clear c0 c1 c2 c3 c4 c5 c6 c7 c8 b1 s1 kx g0
        exfalso
        have h3 := HH.out
        rw [HK.out, Bool.or_true] at h3
        cases h3
      · have HK := Lib.hid (show memB M g k = false by simpa using hm)
        by_cases hst : (tsk M k).st = 0
        · rw [hst] at c0
          clear hm hst
          go_upto_region 4 with (fail)
          refine gen1 (p := fun W => Code.wp _ _ _ _ W) ?_
          intro W1 b1 s1 kx
          have y0 := kx.cell 0
          simp at y0
          have HB1 := Lib.hid (HBE.out.andThen b1)
          clear c0 c1 c2 c3 c4 c5 c6 c7 c8 b1 s1 kx g0
          go_wp2
          go_roundw
          case rel => exact ⟨k + 1, by have := HLT.out; omega, by go_num, by rw [any_succ, HA.out, HK.out]; rfl, HB1.out⟩
          case measure => simp [intOf]; omega
        · have hst2 : ((tsk M k).st == 0) = false := by simpa using hst
          have hst3 : ((tsk M k).st != 0) = true := by simpa using hst
          have hp2 : ((tsk M k).gr == (g : Int)) = false := by
            rw [beq_eq_false_iff_ne]; intro e; apply hm; simp [memB, hst2, e]
          generalize (tsk M k).st = ST at *
          generalize (tsk M k).gr = GR at *
          clear hm hst
          go_upto_region 4 with (fail)
          refine gen1 (p := fun W => Code.wp _ _ _ _ W) ?_
          intro W1 b1 s1 kx
          have y0 := kx.cell 0
          have y1 := kx.cell 1
          simp at y0 y1
          have g1 := (b1.cell (p := ⟨gb, 0, none⟩) gbl).trans g0
          have HB1 := Lib.hid (HBE.out.andThen b1)
          clear c0 c1 c2 c3 c4 c5 c6 c7 c8 b1 s1 kx g0
          go_wp2
          go_roundw
          case rel => exact ⟨k + 1, by have := HLT.out; omega, by go_num, by rw [any_succ, HA.out, HK.out]; rfl, HB1.out⟩
          case measure => simp [intOf]; omega
    · obtain rfl : k = M.tasks.length := by omega
      have HM := Lib.hid (show memsB M g = false from HA.out)
      have CO := Lib.hid (HC.out.keep hb)
      clear hb hlt hk
      have hn : (kidsN M g 8).length = 0 := by
        have h1 := (kidsN_any M g 8).1
        rcases Nat.eq_zero_or_pos (kidsN M g 8).length with h | h
        · exact h
        · have h2 := h1 h; have h3 := HH.out; rw [Bool.or_eq_false_iff] at h3; rw [kidsB, HL.out, h2] at h3; cases h3.1
      have HN := Lib.hid hn
      clear hn
      go_upto_region 7 with (fail)
      have bd : Below wr.heap.size wr wr.drew := ⟨rfl, rfl, rfl, Nat.le_refl _, fun _ _ => rfl⟩
      have n3 := CO.out.pa.groups
      have q_n3 := fun d os => cell_regrown n3 d os
      have q_g0 := fun d os => cell_regrown g0 d os
      refine region_by [false, false, false, false, false, true, false, false] (by kernel_rfl) (by kernel_rfl) (by kernel_rfl) ?_
      repeat (first | (refine wpR_skip (by rfl) ?_; simp only [Act.put, List.setIfInBounds_toArray, List.set_cons_zero, List.set_cons_succ]) | (refine wpR_det (by rfl) (fun K hK => ?_); go_big_quiet_op; refine hK _ ?_; clear hK K))
      refine wpR_bar (by rfl) (fun K hK => ?_)
      go_big_op
      go_at_call 97
      refine (iKids_any x.ca x.ta x.ga x.gc x.gh M _ (CO.out.keep bd).own.wa HFG.out HB.out g hg HU.out).mono ?_
      rintro e w3 ⟨A, c, rfl, hb3, hR⟩
      rw [HN.out]
      have HB3 := Lib.hid (bd.andThen hb3)
      refine hK _ _ (regrown_of_below (bd.andThen hb3)) ?_
      clear hK K
      repeat (first | (refine wpR_skip (by rfl) ?_; simp only [Act.put, List.setIfInBounds_toArray, List.set_cons_zero, List.set_cons_succ]) | (refine wpR_det (by rfl) (fun K hK => ?_); go_big_quiet_op; refine hK _ ?_; clear hK K))
      refine wpR_nil ?_
      have CO3 := Lib.hid (CO.out.keep HB3.out)
      clear q_n3 q_g0 n3 g0 hb3 hR bd CO
      go_upto_region 11 with (go_at_call 98; refine (iRoom_any p x.ca x.cc x.ta x.tc x.ga x.gc x.gh M _ CO3.out.pa HFG.out).mono ?_; rintro e w4 ⟨rfl, hb4⟩; rw [HRM.out]; have HB4 := Lib.hid hb4; clear hb4)
      have CO4 := Lib.hid (CO3.out.keep HB4.out)
      have n3 := CO4.out.pa.groups
      have g1 := ((HBE.out.andThen HB3.out).andThen HB4.out).cell (p := ⟨gb, 0, none⟩) GL.out |>.trans G0.out
      have GLT := Lib.hid (show g < M.groups.length by rw [HL.out]; exact hg)
      have ig : (g : Int) < (M.groups.length : Int) := by have := GLT.out; omega
      obtain ⟨b, hxa, hbl, hbB, v0, f0⟩ := CO4.out.own.grps.cell (k := g) (i := 0) GLT.out (by omega)
      obtain ⟨_, e, _, _, v1, f1⟩ := CO4.out.own.grps.cell (k := g) (i := 1) GLT.out (by omega); cases hxa.symm.trans e; clear e
      obtain ⟨_, e, _, _, v2, f2⟩ := CO4.out.own.grps.cell (k := g) (i := 2) GLT.out (by omega); cases hxa.symm.trans e; clear e
      obtain ⟨_, e, _, _, v3, f3⟩ := CO4.out.own.grps.cell (k := g) (i := 3) GLT.out (by omega); cases hxa.symm.trans e; clear e
      obtain ⟨_, e, _, _, v4, f4⟩ := CO4.out.own.grps.cell (k := g) (i := 4) GLT.out (by omega); cases hxa.symm.trans e; clear e
      obtain ⟨_, e, _, _, v5, f5⟩ := CO4.out.own.grps.cell (k := g) (i := 5) GLT.out (by omega); cases hxa.symm.trans e; clear e
      obtain ⟨_, e, _, _, v6, f6⟩ := CO4.out.own.grps.cell (k := g) (i := 6) GLT.out (by omega); cases hxa.symm.trans e; clear e
      obtain ⟨_, e, _, _, v7, f7⟩ := CO4.out.own.grps.cell (k := g) (i := 7) GLT.out (by omega); cases hxa.symm.trans e; clear e
      obtain ⟨_, e, _, _, v8, f8⟩ := CO4.out.own.grps.cell (k := g) (i := 8) GLT.out (by omega); cases hxa.symm.trans e; clear e
      obtain ⟨_, e, _, _, v9, f9⟩ := CO4.out.own.grps.cell (k := g) (i := 9) GLT.out (by omega); cases hxa.symm.trans e; clear e
      obtain ⟨_, e, _, _, v10, f10⟩ := CO4.out.own.grps.cell (k := g) (i := 10) GLT.out (by omega); cases hxa.symm.trans e; clear e
      obtain ⟨_, e, _, _, v11, f11⟩ := CO4.out.own.grps.cell (k := g) (i := 11) GLT.out (by omega); cases hxa.symm.trans e; clear e
      obtain ⟨_, e, _, _, v12, f12⟩ := CO4.out.own.grps.cell (k := g) (i := 12) GLT.out (by omega); cases hxa.symm.trans e; clear e
      obtain ⟨_, e, _, _, v13, f13⟩ := CO4.out.own.grps.cell (k := g) (i := 13) GLT.out (by omega); cases hxa.symm.trans e; clear e
      simp only [Nat.add_zero] at v0 f0
      rw [hxa] at n3
      have HXA := Lib.hid hxa
      clear hxa
      have q_n3 := fun d os => cell_regrown n3 d os
      have q_g1 := fun d os => cell_regrown g1 d os
      have bd : Below w4.heap.size w4 w4.drew := ⟨rfl, rfl, rfl, Nat.le_refl _, fun _ _ => rfl⟩
      refine region_S 6 [0, 0, 0, 0, 0, 0, 1, 2] [0, 1, 2, 3, 4, 5, 6, 7] (by kernel_rfl) (by kernel_rfl) (by kernel_rfl) rfl (by kernel_rfl) (by kernel_rfl) ?_
      simp only [permL, List.getElem?_cons_zero, List.getElem?_cons_succ, Option.toList_some, List.cons_append, List.nil_append]
      repeat (first | (refine wpS_skip (by rfl) ?_; simp only [Act.put, List.setIfInBounds_toArray, List.set_cons_zero, List.set_cons_succ]) | (refine wpS_det (by rfl) (fun K hK => ?_); go_big_quiet_op; refine hK _ ?_; clear hK K))
      refine wpS_bar (by rfl) (fun K hK => ?_)
      go_big_op
      refine hK _ _ (regrown_of_below bd) ?_
      clear hK K
      refine wpS_end (by rfl) (fun K hK => ?_)
      go_big_op
      refine hK _ _ ?_
      clear hK K
      refine wpS_nil ?_
      go_upto_region 12 with (fail)
      refine genW (p := fun W => Code.wp _ _ _ _ W) ?_
      intro w6 hw6
      have e6 : (zl.foldl (fun w p => w.setCell ⟨b, g * 14 + p.1, none⟩ p.2) w4).drew = w6 := hw6
      have OW6 := Lib.hid (show Own w6 B x.ca x.ta x.ga (hset x.gh g nilH) (setG M g group0) by have o := CO4.out.own; rw [HXA.out] at o ⊢; have := (o.strike (g := g) GLT.out).below (drewBelow _); rw [e6] at this; exact this)
      have KK := Lib.hid (show Keep (fun j => j = b) w4 w6 by have := (Keep.sets (S := fun j => j = b) (n := 14) (k := g) (by rfl) zl w4).trans (Keep.of_below (drewBelow _)); rw [e6] at this; exact this)
      have HAS := Lib.hid (show Has x.ca x.ta x.ga x.gh M.groups.length b from .inr (.inr (.inl HXA.out)))
      have PB := Lib.hid (KK.out.blk CO4.out.box (fun e => CO4.out.out (e ▸ HAS.out)))
      have KT := Lib.hid ((Keep.of_below (S := fun j => j = p ∨ Has x.ca x.ta x.ga x.gh M.groups.length j) ((HBE.out.andThen HB3.out).andThen HB4.out)).then_ KK.out fun i _ e => .inr (by rw [e]; exact HAS.out))
      clear hw6 e6 KK n3 g1 q_n3 q_g1 bd v0 f0 v1 f1 v2 f2 v3 f3 v4 f4 v5 f5 v6 f6 v7 f7 v8 f8 v9 f9 v10 f10 v11 f11 v12 f12 v13 f13
      go_wp2
      go_ret
      exact ⟨hset x.gh g nilH, rfl, by
          have e : (setG M g group0).groups.length = M.groups.length := by simp [setG]
          show Blk w6 p 33 #[.int .i64 M.now, .slice x.ca M.cpus.length x.cc, .slice x.ta M.tasks.length x.tc, .slice x.ga (setG M g group0).groups.length x.gc]
          rw [e]
          exact PB.out, OW6.out, KT.out⟩
end Go.Proofs.YtknfpigaognklaaGreatDoor
namespace Go.Proofs.YtknfpigaognklaaGreatDoor
open Go.RowKit Go.Sort
set_option maxRecDepth 100000 in
set_option maxHeartbeats 4000000 in
theorem iDrop_gen (h : WH) (M : WorldM) (w : World) (hs : WAt w h M) (_hf : WFit M) (_hx : NextOk M) (g : Nat) (_hg8 : g < 8) (M' : WorldM) (c : Int)
    (hcall : ∀ W : World, Below w.heap.size w W → W.cell? ⟨w.heap.size + 1, 0, none⟩ = some (.int .i64 g) → Calls Tryz.prog 95 #[.agg #[.int .i64 M.now, .slice h.ca M.cpus.length h.cc, .slice h.ta M.tasks.length h.tc, .slice h.ga M.groups.length h.gc], .int .i64 g, .bool true, .func (.func 96) #[] #[.pointer (some ⟨w.heap.size + 1, 0, none⟩)]] W (WPost M' c W)) :
    Calls Tryz.prog 50 #[.agg #[.int .i64 M.now, .slice h.ca M.cpus.length h.cc, .slice h.ta M.tasks.length h.tc, .slice h.ga M.groups.length h.gc], .int .i64 g] w (WPost M' c w) := by
  have HCALL := Lib.hid hcall
  clear hcall
  go_enter Tryz.func50, Tryz.ntmps50
  go_upto_region 1 with (fail)
  refine gen3 (p := fun W => Code.wp _ _ _ _ W) ?_
  intro W b1 s1 k0 k1 k2
  have B1 := Lib.hid b1
  have S1 := Lib.hid s1
  have K2 := Lib.hid k2
  have K0 := Lib.hid k0
  have hs1 := Lib.hid (hs.keep b1)
  have c1_ := k1.cell 0
  simp at c1_
  have CC := Lib.hid (HCALL.out W b1 c1_)
  have Z1 := Lib.hid (Nat.le_refl W.heap.size)
  clear b1 k0 k1 k2 s1
  have c0 := K0.out.cell 0
  have c1 := K0.out.cell 1
  have c2 := K0.out.cell 2
  have c3 := K0.out.cell 3
  have cf := fun i => K0.out.frozen i
  simp at c0 c1 c2 c3
  go_wp2_with fail
  refine CC.out.mono ?_
  rintro e w3 ⟨x, rfl, hb3, ow⟩
  have K2c := Lib.hid (K2.out.below hb3 K2.out.lt)
  have BZ := Lib.hid (B1.out.andThen hb3)
  have OW := Lib.hid ow
  clear c0 c1 c2 c3 cf
  clear hb3 ow c1_
  have d0 := K2c.out.cell 0
  have d1 := K2c.out.cell 1
  have d2 := K2c.out.cell 2
  have d3 := K2c.out.cell 3
  have df := fun i => K2c.out.frozen i
  simp at d0 d1 d2 d3
  go_wp2
  have kz := Lib.hid (show Keep (fun i => i = w.heap.size + 1 + 1) w3 ((((w3.setCell ⟨w.heap.size + 1 + 1, 0, none⟩ (.int .i64 M'.now)).setCell ⟨w.heap.size + 1 + 1, 1, none⟩ (.slice x.ca M'.cpus.length x.cc)).setCell ⟨w.heap.size + 1 + 1, 2, none⟩ (.slice x.ta M'.tasks.length x.tc)).setCell ⟨w.heap.size + 1 + 1, 3, none⟩ (.slice x.ga M'.groups.length x.gc)) from ((((Keep.set _ _ _ (by rfl)).trans (Keep.set _ _ _ (by rfl))).trans (Keep.set _ _ _ (by rfl))).trans (Keep.set _ _ _ (by rfl))))
  refine bodyPost_ret (v := .tuple #[.agg #[.int .i64 M'.now, .slice x.ca M'.cpus.length x.cc, .slice x.ta M'.tasks.length x.tc, .slice x.ga M'.groups.length x.gc], .int .i64 c]) (by simp [results, Tryz.results50, go_sem, *]) rfl ⟨x, rfl, BZ.out.trans (kz.out.below BZ.out.size fun i h => by omega), ?_⟩
  exact OW.out.fin kz.out (fun i h => by have := S1.out; have := Z1.out; omega) (by have := S1.out; have := Z1.out; omega)
theorem iDrop_any (h : WH) (M : WorldM) (w : World) (hs : WAt w h M) (hf : WFit M) (hx : NextOk M) (hE : ErrIs w) (hB : worldB M = true) (g : Nat) (hg : g < 8) (hu : usedI M g = true) :
    Calls Tryz.prog 50 #[.agg #[.int .i64 M.now, .slice h.ca M.cpus.length h.cc, .slice h.ta M.tasks.length h.tc, .slice h.ga M.groups.length h.gc], .int .i64 g] w (WPost (dropW M g) (dropC M g) w) := by
  refine iDrop_gen h M w hs hf hx g hg _ _ fun W b1 g0 => ?_
  have hs1 := hs.keep b1
  have hE1 := hE.keep b1
  by_cases hz : g = 0
  · subst hz
    have e1 : dropC M 0 = 1 := rfl
    have e2 : dropW M 0 = M := rfl
    rw [e1, e2]
    exact iAG_root h M W hs1 hf hx _ true 96 _ (fun args u => by kernel_rfl) hE1 hB (.inl rfl)
  · have hgz : (g : Int) ≠ 0 := by omega
    by_cases hh : (kidsB M g || memsB M g) = true
    · have e1 : dropC M g = 4 := by rw [dropC, if_neg hz, if_pos hh]
      have e2 : dropW M g = M := by rw [dropW, e1]; rfl
      rw [e1, e2]
      exact iAG_ref h M W hs1 hf hx _ true 96 _ (fun args u => by kernel_rfl) hE1 hB rfl hgz hu 4 fun W' p x B hc => iDrop1_busy W W' p x M B hc hf hB _ g hg hu ((hc.bel.cell (p := ⟨w.heap.size + 1, 0, none⟩) (World.block_lt_of_cell? _ _ g0)).trans g0) hh
    · have hh' : (kidsB M g || memsB M g) = false := by simpa using hh
      by_cases hR : roomM M = true
      · have e1 : dropC M g = 0 := by rw [dropC, if_neg hz, if_neg hh, if_pos hR]
        have e2 : dropW M g = setG M g group0 := by rw [dropW, e1]; rfl
        rw [e1, e2]
        exact iAG_done h M W hs1 hf hx _ true 96 _ (fun args u => by kernel_rfl) hB rfl hgz hu _ (by simp [setG]) fun W' p x B hc => iDrop1_done W W' p x M B hc hf hB _ g hg hu ((hc.bel.cell (p := ⟨w.heap.size + 1, 0, none⟩) (World.block_lt_of_cell? _ _ g0)).trans g0) hh' hR
      · have e1 : dropC M g = 10 := by rw [dropC, if_neg hz, if_neg hh, if_neg hR]
        have e2 : dropW M g = M := by rw [dropW, e1]; rfl
        rw [e1, e2]
        exact iAG_ref h M W hs1 hf hx _ true 96 _ (fun args u => by kernel_rfl) hE1 hB rfl hgz hu 10 fun W' p x B hc => iDrop1_end W W' p x M B hc hf hB _ g hg hu ((hc.bel.cell (p := ⟨w.heap.size + 1, 0, none⟩) (World.block_lt_of_cell? _ _ g0)).trans g0) hh' (by simpa using hR)
set_option maxRecDepth 100000 in
set_option maxHeartbeats 4000000 in
theorem iFileDrop_bad (h : WH) (M : WorldM) (w : World) (hs : WAt w h M) (hf : WFit M) (hx : NextOk M) (q : ByteArray) (hB : worldB M = false) :
    Calls Tryz.prog 15 #[.agg #[.int .i64 M.now, .slice h.ca M.cpus.length h.cc, .slice h.ta M.tasks.length h.tc, .slice h.ga M.groups.length h.gc], .string q] w (WPost world0 1 w) := by
  have HWB := Lib.hid hB
  have HX := Lib.hid hx
  clear hB hx
  go_enter Tryz.func15, Tryz.ntmps15
  go_upto_region 1 with (fail)
  refine gen2 (p := fun W => Code.wp _ _ _ _ W) ?_
  intro W b1 s1 k0 k1
  have B1 := Lib.hid b1
  have K0 := Lib.hid k0
  have K1 := Lib.hid k1
  have S1 := Lib.hid s1
  have hs1 := hs.keep b1
  clear b1 k0 k1 s1
  have c0 := K0.out.cell 0
  have c1 := K0.out.cell 1
  have c2 := K0.out.cell 2
  have c3 := K0.out.cell 3
  have cf := fun i => K0.out.frozen i
  simp at c0 c1 c2 c3
  go_wp2_with fail
  refine (iWorldOk_any h.ca h.cc h.ta h.tc h.ga h.gc h.gh M _ (WA.of hs1) (fitG_of hf) HX.out).mono ?_
  rintro e w2 ⟨rfl, hb2⟩
  rw [HWB.out]
  have K1b := Lib.hid (K1.out.below hb2 K1.out.lt)
  clear c0 c1 c2 c3 cf
  have d0 := K1b.out.cell 0
  have d1 := K1b.out.cell 1
  have d2 := K1b.out.cell 2
  have d3 := K1b.out.cell 3
  have df := fun i => K1b.out.frozen i
  simp at d0 d1 d2 d3
  go_wp2
  refine bodyPost_ret (v := .tuple #[.agg #[.int .i64 0, .slice none 0 0, .slice none 0 0, .slice none 0 0], .int .i64 1]) (by simp [results, Tryz.results15, go_sem, *]) rfl ⟨⟨none, 0, none, 0, none, 0, h.gh⟩, rfl, ?_, own0 _ _ _⟩
  exact ((((B1.out.andThen hb2).setCell (by simp) _).setCell (by simp) _).setCell (by simp) _).setCell (by simp) _
set_option maxRecDepth 100000 in
set_option maxHeartbeats 4000000 in
theorem iFileDrop_ref (h : WH) (M : WorldM) (w : World) (hs : WAt w h M) (hf : WFit M) (hx : NextOk M) (q : ByteArray) (hB : worldB M = true) (c : Int) (hc : fgC M q = c) (hcz : c ≠ 0) (hg : fgG M q = 0) :
    Calls Tryz.prog 15 #[.agg #[.int .i64 M.now, .slice h.ca M.cpus.length h.cc, .slice h.ta M.tasks.length h.tc, .slice h.ga M.groups.length h.gc], .string q] w (WPost M c w) := by
  have HWB := Lib.hid hB
  have HX := Lib.hid hx
  have HC := Lib.hid hc
  have HG := Lib.hid hg
  have hz : (c == 0) = false := by simpa using hcz
  clear hB hx hc hg hcz
  go_enter Tryz.func15, Tryz.ntmps15
  go_upto_region 1 with (fail)
  refine gen2 (p := fun W => Code.wp _ _ _ _ W) ?_
  intro W b1 s1 k0 k1
  have B1 := Lib.hid b1
  have K0 := Lib.hid k0
  have K1 := Lib.hid k1
  have S1 := Lib.hid s1
  have hs1 := hs.keep b1
  clear b1 k0 k1 s1
  have c0 := K0.out.cell 0
  have c1 := K0.out.cell 1
  have c2 := K0.out.cell 2
  have c3 := K0.out.cell 3
  have cf := fun i => K0.out.frozen i
  simp at c0 c1 c2 c3
  go_wp2_with fail
  refine (iWorldOk_any h.ca h.cc h.ta h.tc h.ga h.gc h.gh M _ (WA.of hs1) (fitG_of hf) HX.out).mono ?_
  rintro e w2 ⟨rfl, hb2⟩
  rw [HWB.out]
  have K0b := Lib.hid (K0.out.below hb2 K0.out.lt)
  have K1b := Lib.hid (K1.out.below hb2 K1.out.lt)
  have HS2 := Lib.hid (hs1.keep hb2)
  have B2 := Lib.hid (B1.out.andThen hb2)
  have Z2 := Lib.hid hb2.size
  clear c0 c1 c2 c3 cf
  clear hs1 hb2 K0 K1 B1
  have c0 := K0b.out.cell 0
  have c1 := K0b.out.cell 1
  have c2 := K0b.out.cell 2
  have c3 := K0b.out.cell 3
  have cf := fun i => K0b.out.frozen i
  simp at c0 c1 c2 c3
  go_wp2_with fail
  refine (iFindGroup_any w.heap.size h.ca h.cc h.ta h.tc h.ga h.gc h.gh M _ ⟨by have := K0b.out.lt; exact this, by rw [K0b.out.cell 0]; rfl, by rw [K0b.out.cell 1]; rfl, by rw [K0b.out.cell 2]; rfl, by rw [K0b.out.cell 3]; rfl, WA.of HS2.out⟩ (fitG_of hf) HWB.out HX.out q).mono ?_
  rintro e w3 ⟨rfl, hb3⟩
  rw [HG.out, HC.out]
  have K0c := Lib.hid (K0b.out.below hb3 K0b.out.lt)
  have K1c := Lib.hid (K1b.out.below hb3 K1b.out.lt)
  have HS3 := Lib.hid (HS2.out.keep hb3)
  have B3 := Lib.hid (B2.out.andThen hb3)
  have Z3 := Lib.hid (Nat.le_trans Z2.out hb3.size)
  clear c0 c1 c2 c3 cf
  clear hb3 K0b K1b HS2 B2 Z2
  have c0 := K0c.out.cell 0
  have c1 := K0c.out.cell 1
  have c2 := K0c.out.cell 2
  have c3 := K0c.out.cell 3
  have cf := fun i => K0c.out.frozen i
  simp at c0 c1 c2 c3
  go_wp2_with fail
  refine (iRefused_any h M _ HS3.out hf c).mono ?_
  rintro e w9 ⟨x, rfl, hb9, ow⟩
  have K1z := Lib.hid (K1c.out.below hb9 K1c.out.lt)
  have BZ := Lib.hid (B3.out.andThen hb9)
  have OW := Lib.hid ow
  clear c0 c1 c2 c3 cf
  clear hb9 ow
  have d0 := K1z.out.cell 0
  have d1 := K1z.out.cell 1
  have d2 := K1z.out.cell 2
  have d3 := K1z.out.cell 3
  have df := fun i => K1z.out.frozen i
  simp at d0 d1 d2 d3
  go_wp2
  have kz := Lib.hid (show Keep (fun i => i = w.heap.size + 1) w9 ((((w9.setCell ⟨w.heap.size + 1, 0, none⟩ (.int .i64 M.now)).setCell ⟨w.heap.size + 1, 1, none⟩ (.slice x.ca M.cpus.length x.cc)).setCell ⟨w.heap.size + 1, 2, none⟩ (.slice x.ta M.tasks.length x.tc)).setCell ⟨w.heap.size + 1, 3, none⟩ (.slice x.ga M.groups.length x.gc)) from ((((Keep.set _ _ _ (by rfl)).trans (Keep.set _ _ _ (by rfl))).trans (Keep.set _ _ _ (by rfl))).trans (Keep.set _ _ _ (by rfl))))
  refine bodyPost_ret (v := .tuple #[.agg #[.int .i64 M.now, .slice x.ca M.cpus.length x.cc, .slice x.ta M.tasks.length x.tc, .slice x.ga M.groups.length x.gc], .int .i64 c]) (by simp [results, Tryz.results15, go_sem, *]) rfl ⟨x, rfl, BZ.out.trans (kz.out.below BZ.out.size fun i h => by omega), ?_⟩
  exact OW.out.fin kz.out (fun i h => by have := S1.out; have := Z3.out; omega) (by have := S1.out; have := Z3.out; omega)
set_option maxRecDepth 100000 in
set_option maxHeartbeats 4000000 in
theorem iFileDrop_some (h : WH) (M : WorldM) (w : World) (hs : WAt w h M) (hf : WFit M) (hx : NextOk M) (q : ByteArray) (hE : ErrIs w) (hB : worldB M = true) (hc : fgC M q = 0) (g : Nat) (hg8 : g < 8) (hu : usedI M g = true) (hg : fgG M q = (g : Int)) :
    Calls Tryz.prog 15 #[.agg #[.int .i64 M.now, .slice h.ca M.cpus.length h.cc, .slice h.ta M.tasks.length h.tc, .slice h.ga M.groups.length h.gc], .string q] w (WPost (dropW M g) (dropC M g) w) := by
  have HWB := Lib.hid hB
  have HX := Lib.hid hx
  have HC := Lib.hid hc
  have HG := Lib.hid hg
  have HU := Lib.hid hu
  have HE := Lib.hid hE
  have hg0 : (0 : Int) ≤ (g : Int) := by omega
  clear hB hx hc hg hE hu
  go_enter Tryz.func15, Tryz.ntmps15
  go_upto_region 1 with (fail)
  refine gen2 (p := fun W => Code.wp _ _ _ _ W) ?_
  intro W b1 s1 k0 k1
  have B1 := Lib.hid b1
  have K0 := Lib.hid k0
  have K1 := Lib.hid k1
  have S1 := Lib.hid s1
  have hs1 := hs.keep b1
  clear b1 k0 k1 s1
  have c0 := K0.out.cell 0
  have c1 := K0.out.cell 1
  have c2 := K0.out.cell 2
  have c3 := K0.out.cell 3
  have cf := fun i => K0.out.frozen i
  simp at c0 c1 c2 c3
  go_wp2_with fail
  refine (iWorldOk_any h.ca h.cc h.ta h.tc h.ga h.gc h.gh M _ (WA.of hs1) (fitG_of hf) HX.out).mono ?_
  rintro e w2 ⟨rfl, hb2⟩
  rw [HWB.out]
  have K0b := Lib.hid (K0.out.below hb2 K0.out.lt)
  have K1b := Lib.hid (K1.out.below hb2 K1.out.lt)
  have HS2 := Lib.hid (hs1.keep hb2)
  have B2 := Lib.hid (B1.out.andThen hb2)
  have Z2 := Lib.hid hb2.size
  clear c0 c1 c2 c3 cf
  clear hs1 hb2 K0 K1 B1
  have c0 := K0b.out.cell 0
  have c1 := K0b.out.cell 1
  have c2 := K0b.out.cell 2
  have c3 := K0b.out.cell 3
  have cf := fun i => K0b.out.frozen i
  simp at c0 c1 c2 c3
  go_wp2_with fail
  refine (iFindGroup_any w.heap.size h.ca h.cc h.ta h.tc h.ga h.gc h.gh M _ ⟨by have := K0b.out.lt; exact this, by rw [K0b.out.cell 0]; rfl, by rw [K0b.out.cell 1]; rfl, by rw [K0b.out.cell 2]; rfl, by rw [K0b.out.cell 3]; rfl, WA.of HS2.out⟩ (fitG_of hf) HWB.out HX.out q).mono ?_
  rintro e w3 ⟨rfl, hb3⟩
  rw [HG.out, HC.out]
  have K0c := Lib.hid (K0b.out.below hb3 K0b.out.lt)
  have K1c := Lib.hid (K1b.out.below hb3 K1b.out.lt)
  have HS3 := Lib.hid (HS2.out.keep hb3)
  have B3 := Lib.hid (B2.out.andThen hb3)
  have Z3 := Lib.hid (Nat.le_trans Z2.out hb3.size)
  clear c0 c1 c2 c3 cf
  clear hb3 K0b K1b HS2 B2 Z2
  have c0 := K0c.out.cell 0
  have c1 := K0c.out.cell 1
  have c2 := K0c.out.cell 2
  have c3 := K0c.out.cell 3
  have cf := fun i => K0c.out.frozen i
  simp at c0 c1 c2 c3
  go_wp2_with fail
  refine (iDrop_any h M _ HS3.out hf HX.out (HE.out.keep B3.out) HWB.out g hg8 HU.out).mono ?_
  rintro e w9 ⟨x, rfl, hb9, ow⟩
  have K1z := Lib.hid (K1c.out.below hb9 K1c.out.lt)
  have BZ := Lib.hid (B3.out.andThen hb9)
  have OW := Lib.hid ow
  clear c0 c1 c2 c3 cf
  clear hb9 ow
  generalize dropW M g = M' at *
  generalize dropC M g = c at *
  have d0 := K1z.out.cell 0
  have d1 := K1z.out.cell 1
  have d2 := K1z.out.cell 2
  have d3 := K1z.out.cell 3
  have df := fun i => K1z.out.frozen i
  simp at d0 d1 d2 d3
  go_wp2
  have kz := Lib.hid (show Keep (fun i => i = w.heap.size + 1) w9 ((((w9.setCell ⟨w.heap.size + 1, 0, none⟩ (.int .i64 M'.now)).setCell ⟨w.heap.size + 1, 1, none⟩ (.slice x.ca M'.cpus.length x.cc)).setCell ⟨w.heap.size + 1, 2, none⟩ (.slice x.ta M'.tasks.length x.tc)).setCell ⟨w.heap.size + 1, 3, none⟩ (.slice x.ga M'.groups.length x.gc)) from ((((Keep.set _ _ _ (by rfl)).trans (Keep.set _ _ _ (by rfl))).trans (Keep.set _ _ _ (by rfl))).trans (Keep.set _ _ _ (by rfl))))
  refine bodyPost_ret (v := .tuple #[.agg #[.int .i64 M'.now, .slice x.ca M'.cpus.length x.cc, .slice x.ta M'.tasks.length x.tc, .slice x.ga M'.groups.length x.gc], .int .i64 c]) (by simp [results, Tryz.results15, go_sem, *]) rfl ⟨x, rfl, BZ.out.trans (kz.out.below BZ.out.size fun i h => by omega), ?_⟩
  exact OW.out.fin kz.out (fun i h => by have := S1.out; have := Z3.out; omega) (by have := S1.out; have := Z3.out; omega)
theorem iFileDrop_any (h : WH) (M : WorldM) (w : World) (hs : WAt w h M) (hf : WFit M) (hx : NextOk M) (q : ByteArray) (hE : ErrIs w) :
    Calls Tryz.prog 15 #[.agg #[.int .i64 M.now, .slice h.ca M.cpus.length h.cc, .slice h.ta M.tasks.length h.tc, .slice h.ga M.groups.length h.gc], .string q] w (WPost (fdropW M q) (fdropC M q) w) := by
  by_cases hB : worldB M = true
  · by_cases hp : pathOk q = true
    · rw [fdropW, fdropC, if_pos hB, if_pos hB, if_pos hp, if_pos hp]
      cases hn : findM M q with
      | none => exact iFileDrop_ref h M w hs hf hx q hB 2 (by rw [fgC, if_pos hp, hn]) (by decide) (by rw [fgG, if_pos hp, hn])
      | some g =>
        have hgu := findN_some hn
        have hus : (grp M g).used = true := by have := hgu.2; rw [isAt, Bool.and_eq_true] at this; exact this.1
        exact iFileDrop_some h M w hs hf hx q hE hB (by rw [fgC, if_pos hp, hn]) g hgu.1 (by have := (facts_of hB).tree.len; have := hgu.1; simp only [usedI, Int.toNat_natCast, hus, Bool.and_true, Bool.and_eq_true, decide_eq_true_eq]; omega) (by rw [fgG, if_pos hp, hn])
    · rw [fdropW, fdropC, if_pos hB, if_pos hB, if_neg hp, if_neg hp]
      exact iFileDrop_ref h M w hs hf hx q hB 1 (by rw [fgC, if_neg hp]) (by decide) (by rw [fgG, if_neg hp])
  · rw [fdropW, fdropC, if_neg hB, if_neg hB]
    exact iFileDrop_bad h M w hs hf hx q (by simpa using hB)
end Go.Proofs.YtknfpigaognklaaGreatDoor
