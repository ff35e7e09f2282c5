/- The four laws on audits hold: the program's audits return what the reference's return, whatever comes in. No condition. -/
import Derived.Test.YtebehddkplmhiaaAudL
import Derived.Test.YtebehddkplmhiaaAudX
import Derived.Test.YtebehddkplmhiaaAudG
import Derived.Test.YtebehddkplmhiaaClose
namespace Go.Proofs.Ytebehddkplmhiaa
open Go.RowKit
set_option maxHeartbeats 400000 in
theorem FnAuditCpu_big (A : Option Addr) (n cap : Nat) (cpu : Int) (w : World) (hn : 1048576 < n) (hl : n ≤ 9223372036854775807) :
    Calls Try.prog 3 #[.slice A n cap, .int .i64 cpu] w fun e w' => e = .returned (.bool true) ∧ Below w.heap.size w w' := by
  have hz : szN n = -1 := by rw [szN, if_neg (by omega)]
  go_enter Try.func3, Try.ntmps3
  go_wp2_with (go_at_call 7; refine (szChargeS_any _ _ _ _ hl).mono ?_; rintro e w' ⟨rfl, rfl⟩; rw [hz])
  go_ret
  exact ⟨rfl, Below.refl _ _⟩
set_option maxHeartbeats 400000 in
theorem FnAuditCpu_fit (A : Option Addr) (cap : Nat) (L : List Ch) (cpu : Int) (w : World) (hl : L.length ≤ 1048576) (hs : ChS w A L) :
    Calls Try.prog 3 #[.slice A L.length cap, .int .i64 cpu] w fun e w' => e = .returned (.bool true) ∧ Below w.heap.size w w' := by
  have hz : 0 ≤ szN L.length := by rw [szN, if_pos (by omega)]; omega
  go_enter Try.func3, Try.ntmps3
  go_wp2_with (go_at_call 7; refine (szChargeS_any _ _ _ _ (by omega)).mono ?_; rintro e w' ⟨rfl, rfl⟩)
  refine (toChargeS_any A _ L _ hl hs).mono ?_
  rintro e w1 ⟨g1, rfl, hb1, hg1, hs1⟩
  go_wp2_with fail
  refine (sAuditCpu_any _ _ L cpu _ (by omega) hs1).mono ?_
  rintro e w2 ⟨rfl, hb2⟩
  have b2 := hb1.andThen hb2
  have l2 := hs.below b2
  go_wp2_with fail
  refine (toChargeS_any A _ L _ hl l2).mono ?_
  rintro e w3 ⟨g3, rfl, hb3, hg3, hs3⟩
  have b3 := b2.andThen hb3
  go_wp2_with fail
  refine (AuditCpu_any _ _ L cpu _ (by omega) hs3).mono ?_
  rintro e w4 ⟨rfl, hb4⟩
  have b4 := b3.andThen hb4
  have l4 := hs.below b4
  have s4 := hs3.below hb4
  go_wp2_with fail
  refine (toChargeS_any A _ L _ hl l4).mono ?_
  rintro e w5 ⟨g5, rfl, hb5, hg5, hs5⟩
  have b5 := b4.andThen hb5
  have s5 := s4.below hb5
  go_wp2_with fail
  refine (eqChargeS_any _ _ _ _ L _ hl s5 hs5).mono ?_
  rintro e w6 ⟨rfl, hb6⟩
  go_wp2
  go_ret
  exact ⟨rfl, b5.andThen hb6⟩
set_option maxHeartbeats 400000 in
theorem FnAuditTask_big (A : Option Addr) (n cap : Nat) (cpu : Int) (w : World) (hn : 1048576 < n) (hl : n ≤ 9223372036854775807) :
    Calls Try.prog 4 #[.slice A n cap, .int .i64 cpu] w fun e w' => e = .returned (.bool true) ∧ Below w.heap.size w w' := by
  have hz : szN n = -1 := by rw [szN, if_neg (by omega)]
  go_enter Try.func4, Try.ntmps4
  go_wp2_with (go_at_call 7; refine (szChargeS_any _ _ _ _ hl).mono ?_; rintro e w' ⟨rfl, rfl⟩; rw [hz])
  go_ret
  exact ⟨rfl, Below.refl _ _⟩
set_option maxHeartbeats 400000 in
theorem FnAuditTask_fit (A : Option Addr) (cap : Nat) (L : List Ch) (cpu : Int) (w : World) (hl : L.length ≤ 1048576) (hs : ChS w A L) :
    Calls Try.prog 4 #[.slice A L.length cap, .int .i64 cpu] w fun e w' => e = .returned (.bool true) ∧ Below w.heap.size w w' := by
  have hz : 0 ≤ szN L.length := by rw [szN, if_pos (by omega)]; omega
  go_enter Try.func4, Try.ntmps4
  go_wp2_with (go_at_call 7; refine (szChargeS_any _ _ _ _ (by omega)).mono ?_; rintro e w' ⟨rfl, rfl⟩)
  refine (toChargeS_any A _ L _ hl hs).mono ?_
  rintro e w1 ⟨g1, rfl, hb1, hg1, hs1⟩
  go_wp2_with fail
  refine (sAuditTask_any _ _ L cpu _ (by omega) hs1).mono ?_
  rintro e w2 ⟨rfl, hb2⟩
  have b2 := hb1.andThen hb2
  have l2 := hs.below b2
  go_wp2_with fail
  refine (toChargeS_any A _ L _ hl l2).mono ?_
  rintro e w3 ⟨g3, rfl, hb3, hg3, hs3⟩
  have b3 := b2.andThen hb3
  go_wp2_with fail
  refine (AuditTask_any _ _ L cpu _ (by omega) hs3).mono ?_
  rintro e w4 ⟨rfl, hb4⟩
  have b4 := b3.andThen hb4
  have l4 := hs.below b4
  have s4 := hs3.below hb4
  go_wp2_with fail
  refine (toChargeS_any A _ L _ hl l4).mono ?_
  rintro e w5 ⟨g5, rfl, hb5, hg5, hs5⟩
  have b5 := b4.andThen hb5
  have s5 := s4.below hb5
  go_wp2_with fail
  refine (eqChargeS_any _ _ _ _ L _ hl s5 hs5).mono ?_
  rintro e w6 ⟨rfl, hb6⟩
  go_wp2
  go_ret
  exact ⟨rfl, b5.andThen hb6⟩
set_option maxHeartbeats 400000 in
theorem FnAuditGroup_big (A : Option Addr) (n cap : Nat) (gr : Int) (w : World) (hn : 1048576 < n) (hl : n ≤ 9223372036854775807) :
    Calls Try.prog 5 #[.slice A n cap, .int .i64 gr] w fun e w' => e = .returned (.bool true) ∧ Below w.heap.size w w' := by
  have hz : szN n = -1 := by rw [szN, if_neg (by omega)]
  go_enter Try.func5, Try.ntmps5
  go_wp2_with (go_at_call 7; refine (szChargeS_any _ _ _ _ hl).mono ?_; rintro e w' ⟨rfl, rfl⟩; rw [hz])
  go_ret
  exact ⟨rfl, Below.refl _ _⟩
set_option maxHeartbeats 400000 in
theorem FnAuditGroup_fit (A : Option Addr) (cap : Nat) (L : List Ch) (gr : Int) (w : World) (hl : L.length ≤ 1048576) (hs : ChS w A L) :
    Calls Try.prog 5 #[.slice A L.length cap, .int .i64 gr] w fun e w' => e = .returned (.bool true) ∧ Below w.heap.size w w' := by
  have hz : 0 ≤ szN L.length := by rw [szN, if_pos (by omega)]; omega
  go_enter Try.func5, Try.ntmps5
  go_wp2_with (go_at_call 7; refine (szChargeS_any _ _ _ _ (by omega)).mono ?_; rintro e w' ⟨rfl, rfl⟩)
  refine (toChargeS_any A _ L _ hl hs).mono ?_
  rintro e w1 ⟨g1, rfl, hb1, hg1, hs1⟩
  go_wp2_with fail
  refine (sAuditGroup_any _ _ L gr _ (by omega) hs1).mono ?_
  rintro e w2 ⟨rfl, hb2⟩
  have b2 := hb1.andThen hb2
  have l2 := hs.below b2
  go_wp2_with fail
  refine (toChargeS_any A _ L _ hl l2).mono ?_
  rintro e w3 ⟨g3, rfl, hb3, hg3, hs3⟩
  have b3 := b2.andThen hb3
  go_wp2_with fail
  refine (AuditGroup_any _ _ L gr _ (by omega) hs3).mono ?_
  rintro e w4 ⟨rfl, hb4⟩
  have b4 := b3.andThen hb4
  have l4 := hs.below b4
  have s4 := hs3.below hb4
  go_wp2_with fail
  refine (toChargeS_any A _ L _ hl l4).mono ?_
  rintro e w5 ⟨g5, rfl, hb5, hg5, hs5⟩
  have b5 := b4.andThen hb5
  have s5 := s4.below hb5
  go_wp2_with fail
  refine (eqChargeS_any _ _ _ _ L _ hl s5 hs5).mono ?_
  rintro e w6 ⟨rfl, hb6⟩
  go_wp2
  go_ret
  exact ⟨rfl, b5.andThen hb6⟩
set_option maxHeartbeats 400000 in
theorem FnAuditGap_big (A : Option Addr) (n cap : Nat) (task cpu : Int) (w : World) (hn : 1048576 < n) (hl : n ≤ 9223372036854775807) :
    Calls Try.prog 6 #[.slice A n cap, .int .i64 task, .int .i64 cpu] w fun e w' => e = .returned (.bool true) ∧ Below w.heap.size w w' := by
  have hz : szN n = -1 := by rw [szN, if_neg (by omega)]
  go_enter Try.func6, Try.ntmps6
  go_wp2_with (go_at_call 7; refine (szChargeS_any _ _ _ _ hl).mono ?_; rintro e w' ⟨rfl, rfl⟩; rw [hz])
  go_ret
  exact ⟨rfl, Below.refl _ _⟩
set_option maxHeartbeats 400000 in
theorem FnAuditGap_fit (A : Option Addr) (cap : Nat) (L : List Ch) (task cpu : Int) (w : World) (hl : L.length ≤ 1048576) (hs : ChS w A L) :
    Calls Try.prog 6 #[.slice A L.length cap, .int .i64 task, .int .i64 cpu] w fun e w' => e = .returned (.bool true) ∧ Below w.heap.size w w' := by
  have hz : 0 ≤ szN L.length := by rw [szN, if_pos (by omega)]; omega
  go_enter Try.func6, Try.ntmps6
  go_wp2_with (go_at_call 7; refine (szChargeS_any _ _ _ _ (by omega)).mono ?_; rintro e w' ⟨rfl, rfl⟩)
  refine (toChargeS_any A _ L _ hl hs).mono ?_
  rintro e w1 ⟨g1, rfl, hb1, hg1, hs1⟩
  go_wp2_with fail
  refine (sAuditGap_any _ _ L task cpu _ (by omega) hs1).mono ?_
  rintro e w2 ⟨rfl, hb2⟩
  have b2 := hb1.andThen hb2
  have l2 := hs.below b2
  go_wp2_with fail
  refine (toChargeS_any A _ L _ hl l2).mono ?_
  rintro e w3 ⟨g3, rfl, hb3, hg3, hs3⟩
  have b3 := b2.andThen hb3
  go_wp2_with fail
  refine (AuditGap_any _ _ L task cpu _ (by omega) hs3).mono ?_
  rintro e w4 ⟨rfl, hb4⟩
  have b4 := b3.andThen hb4
  have l4 := hs.below b4
  have s4 := hs3.below hb4
  go_wp2_with fail
  refine (toChargeS_any A _ L _ hl l4).mono ?_
  rintro e w5 ⟨g5, rfl, hb5, hg5, hs5⟩
  have b5 := b4.andThen hb5
  have s5 := s4.below hb5
  go_wp2_with fail
  refine (eqChargeS_any _ _ _ _ L _ hl s5 hs5).mono ?_
  rintro e w6 ⟨rfl, hb6⟩
  go_wp2
  go_ret
  exact ⟨rfl, b5.andThen hb6⟩
open Go.ChangeShapes Go.WideShapes Go.ChangeAt Go.Deep
section
variable {H : Type} {enc : TypeId × Value → H} {P : Program} {w : World} {base : Nat} {spare : Nat → Bool} {held : Bool}
theorem open_slice_fields {t e : TypeId} {fs : Array Field} {fuel : Nat} {cs : List Value} {x : DataW H × List MemPlace} (ht : P.underlying t = some (.slice e)) (he : P.underlying e = some (.struct fs))
    (hone : oneCellFields P fs = true) (hC : P.cellsOf e = fs.size) (h : DataW.trod enc P w base spare held fuel t cs = some x) :
    (cs = [.slice none 0 0] ∧ x = (.nil, [])) ∨
    ∃ (a : Addr) (len cap m : Nat) (D : Nat → DataW H) (Pl : Nat → List MemPlace), cs = [.slice (some a) len cap] ∧ base ≤ a.block ∧ len ≤ cap ∧ cap ≤ maxLen ∧ m = (if spare a.block then cap else len) ∧
      x = (.slice ((List.range len).map D) ((List.range (m - len)).map fun j => D (len + j)), MemPlace.row a (m * fs.size) ++ (List.range m).flatMap Pl) ∧
      ∀ i, i < m → ∃ (ys : List (DataW H × List MemPlace)) (n : Nat), D i = .agg (ys.map (·.1)) ∧ Pl i = ys.flatMap (·.2) ∧ ys.length = fs.size ∧
        ∀ (j : Nat) (f : Field), fs[j]? = some f → ∃ (v : Value) (y : DataW H × List MemPlace), w.cell? (a.add (i * fs.size + j)) = some v ∧ ys[j]? = some y ∧ DataW.trod enc P w base spare held n f.type [v] = some y := by
  rcases open_slice ht h with h0 | ⟨a, len, cap, m, n, D, Pl, hcs, hb, hl, hm, hmm, hx, hi⟩
  · exact .inl h0
  · refine .inr ⟨a, len, cap, m, D, Pl, hcs, hb, hl, hm, hmm, by rw [hC] at hx; exact hx, fun i him => ?_⟩
    obtain ⟨cs', hc, ht'⟩ := hi i him
    rw [hC] at hc
    obtain ⟨ys, n', hn', hy, hlen, hyl, hf⟩ := DataW.trod_struct he ht'
    obtain ⟨_, hcl, hat⟩ := World.cells?_some hc
    simp only [Prod.mk.injEq] at hy
    refine ⟨ys, n', hy.1, hy.2, hyl, fun j f hj => ?_⟩
    obtain ⟨ho, hk⟩ := hone_of hone j f hj
    have hjl : j < fs.size := (Array.getElem?_eq_some_iff.1 hj).1
    have hcell := hat j hjl
    have hv : cs'[j]? = some (cs'[j]'(by omega)) := List.getElem?_eq_getElem (by omega)
    have h1 := hf j f hj
    rw [ho, hk] at h1
    have hone' : (cs'.drop j).take 1 = [cs'[j]'(by omega)] := by
      rw [List.drop_eq_getElem_cons (by omega)]
      rfl
    rw [hone'] at h1
    have hys : ys[j]? = some (ys[j]'(by omega)) := List.getElem?_eq_getElem (by omega)
    refine ⟨_, _, ?_, hys, h1.trans hys⟩
    rw [← Go.Deep.add_add, hcell, hv]
end
/-- what a slice of charges that came in holds -/
theorem open_charges {H : Type} {enc : TypeId × Value → H} {w : World} {base : Nat} {spare : Nat → Bool} {held : Bool} {fuel : Nat} {cs : List Value} {x : DataW H × List MemPlace}
    (h : DataW.trod enc Try.prog w base spare held fuel 22 cs = some x) :
    ∃ (A : Option Addr) (cap : Nat) (L : List Ch), cs = [.slice A L.length cap] ∧ L.length ≤ 9223372036854775807 ∧ ChS w A L := by
  rcases open_slice_fields Try.underlying22 Try.underlying35 (by kernel_rfl) (by kernel_rfl) h with ⟨h0, _⟩ | ⟨a, len, cap, m, D, Pl, hcs, _, hl, hm, hmm, _, hi⟩
  · exact ⟨none, 0, [], h0, by simp, ⟨fun k hk => absurd hk (by simp)⟩⟩
  · have hlm : len ≤ m := by rw [hmm]; split <;> omega
    by_cases h0 : len = 0
    · subst h0
      exact ⟨some a, cap, [], hcs, by simp, ⟨fun k hk => absurd hk (by simp)⟩⟩
    have ha : a = ⟨a.block, a.off, none⟩ := by
      obtain ⟨ys, n, _, _, _, hf⟩ := hi 0 (by omega)
      obtain ⟨v0, y0, c0, _, _⟩ := hf 0 _ rfl
      have : a.add (0 * 5 + 0) = a := by simp [Addr.add]
      rw [show (#[_, _, _, _, _] : Array Field).size = 5 from rfl, this] at c0
      obtain ⟨b, o, s⟩ := a
      cases s with
      | none => rfl
      | some s => simp [World.cell?] at c0; split at c0 <;> simp at c0
    have hblk : ∀ n v, w.cell? (a.add n) = some v → a.block < w.heap.size ∧ w.cell? ⟨a.block, a.off + n, none⟩ = some v := by
      intro n v hc
      rw [ha, addr_mid] at hc
      exact ⟨World.block_lt_of_cell? w ⟨a.block, a.off + n, none⟩ hc, hc⟩
    have hsp : ∀ i, ∃ x : Ch, i < len → a.block < w.heap.size ∧ w.cell? ⟨a.block, a.off + i * 5, none⟩ = some (.int .i64 x.n) ∧ w.cell? ⟨a.block, a.off + i * 5 + 1, none⟩ = some (.int .i64 x.c) ∧ w.cell? ⟨a.block, a.off + i * 5 + 2, none⟩ = some (.int .i64 x.t) ∧ w.cell? ⟨a.block, a.off + i * 5 + 3, none⟩ = some (.int .i64 x.i) ∧ w.cell? ⟨a.block, a.off + i * 5 + 4, none⟩ = some (.int .i64 x.k) := by
      intro i
      by_cases hil : i < len
      · obtain ⟨ys, n, _, _, _, hf⟩ := hi i (by omega)
        obtain ⟨v0, y0, c0, _, t0⟩ := hf 0 _ rfl
        obtain ⟨v1, y1, c1, _, t1⟩ := hf 1 _ rfl
        obtain ⟨v2, y2, c2, _, t2⟩ := hf 2 _ rfl
        obtain ⟨v3, y3, c3, _, t3⟩ := hf 3 _ rfl
        obtain ⟨v4, y4, c4, _, t4⟩ := hf 4 _ rfl
        obtain ⟨z0, e0, _⟩ := DataW.trod_int Try.underlying3 t0
        obtain ⟨z1, e1, _⟩ := DataW.trod_int Try.underlying3 t1
        obtain ⟨z2, e2, _⟩ := DataW.trod_int Try.underlying3 t2
        obtain ⟨z3, e3, _⟩ := DataW.trod_int Try.underlying3 t3
        obtain ⟨z4, e4, _⟩ := DataW.trod_int Try.underlying3 t4
        simp only [List.cons.injEq, and_true] at e0 e1 e2 e3 e4
        subst e0 e1 e2 e3 e4
        have q0 := hblk _ _ c0
        have q1 := hblk _ _ c1
        have q2 := hblk _ _ c2
        have q3 := hblk _ _ c3
        have q4 := hblk _ _ c4
        exact ⟨⟨z0, z1, z2, z3, z4⟩, fun _ => ⟨q0.1, q0.2, q1.2, q2.2, q3.2, q4.2⟩⟩
      · exact ⟨⟨0, 0, 0, 0, 0⟩, fun h => absurd h hil⟩
    obtain ⟨X, hX⟩ := Classical.skolem.1 hsp
    refine ⟨some a, cap, (List.range len).map X, by simpa using hcs, by simp; unfold maxLen at hm; omega, ⟨fun k hk => ?_⟩⟩
    have hk' : k < len := by simpa using hk
    refine ⟨a.block, a.off, by rw [← ha], ?_⟩
    simpa using hX k hk'
set_option maxRecDepth 100000 in
theorem FnAuditCpu_lifted (os : Os) (started : os.Started) (H : Type) (enc : TypeId × Value → H) :
    ReturnsInHanded {} Try.checked os 3 .any (Rows.fnExactAuditCpuSpec.pre6 enc Try.prog Try.f3 Rows.fnExactAuditCpuRow.domain false) (Rows.fnExactAuditCpuSpec.post enc Try.prog Try.f3 false true false false) := by
  refine returnsInHanded_of_change (C := Try.checked) own started (by kernel_rfl) Try.func3
    (ChangeSpec.witness6 (enc := enc) (C := Try.checked) false ⟨#[], #[.slice none 0 0, .int .i64 0], []⟩ 8 (by kernel_rfl) (by kernel_rfl) (by kernel_rfl) (by kernel_rfl)) ?_
  intro W base args ds gs before hval0 hW hcnd _
  have hval : ∀ (j : Nat) t v, Try.f3.params[j]? = some t → args[j]? = some v → Value.okWide Try.prog W .any base t v := hval0
  have hW' := hW
  obtain ⟨p, q, hA0, hV, rfl, hfz, hnd⟩ := hW
  have hA : DataW.TrodAll enc Try.prog W 0 (fun _ => true) true Try.f3.params.toList args.toList ds p := hA0
  have hA1 := hA
  rw [Try.params3] at hA1 hval
  obtain ⟨v0, v1, d0, d1, p0, p1, rfl, rfl, rfl, h0, h1⟩ := trodAll_two hA1
  obtain ⟨rfl, rfl⟩ := trodVars_none hV
  obtain ⟨a0, len, cap, rfl⟩ := okWide_slice Try.underlying22 (hval 0 22 _ rfl rfl)
  obtain ⟨fuel, hf⟩ := h0
  obtain ⟨A, cap', L, hcs, hlen, hchs⟩ := open_charges hf
  have hcs' : Value.slice a0 len cap = .slice A L.length cap' := by simpa [Value.cells] using hcs
  obtain ⟨x1, rfl, rfl, rfl, wa1⟩ := open_int Try.underlying3 (hval 1 3 v1 rfl rfl) h1
  clear hA0 hval0 hf
  simp only [List.append_nil] at hW' hA
  have key : Calls Try.prog 3 #[.slice A L.length cap', .int .i64 x1] W fun e w' => e = .returned (.bool true) ∧ Below W.heap.size W w' := by
    by_cases hbig : L.length ≤ 1048576
    · exact FnAuditCpu_fit A cap' L x1 W hbig hchs
    · exact FnAuditCpu_big A L.length cap' x1 W (by omega) hlen
  rw [← hcs'] at key
  refine key.mono fun e W' ⟨he, hb⟩ => ?_
  subst he
  exact ⟨_, rfl, law_post laidOut (by rw [Try.params3]; decide +kernel) (by kernel_rfl) Try.underlying4 rfl hW' hA rfl hb⟩
theorem FnAuditCpu_holds : Rows.FnExactAuditCpuSaid :=
  OpenClaim.holds_of_wide 3 Try.f3 rfl rfl rfl rfl rfl rfl rfl ⟨rfl, rfl, rfl, rfl, rfl⟩ rfl rfl rfl rfl rfl (by kernel_rfl) Try.func3 (by kernel_rfl)
    (of_decide_eq_true (by kernel_rfl)) (by unfold Func.isWrapper; first | (rw [if_pos (by decide +kernel)]; kernel_rfl) | (rw [if_neg (by decide +kernel)]; exact ⟨rfl, rfl⟩))
    (fun os started H enc _ => FnAuditCpu_lifted os started H enc)
set_option maxRecDepth 100000 in
theorem FnAuditTask_lifted (os : Os) (started : os.Started) (H : Type) (enc : TypeId × Value → H) :
    ReturnsInHanded {} Try.checked os 4 .any (Rows.fnExactAuditTaskSpec.pre6 enc Try.prog Try.f4 Rows.fnExactAuditTaskRow.domain false) (Rows.fnExactAuditTaskSpec.post enc Try.prog Try.f4 false true false false) := by
  refine returnsInHanded_of_change (C := Try.checked) own started (by kernel_rfl) Try.func4
    (ChangeSpec.witness6 (enc := enc) (C := Try.checked) false ⟨#[], #[.slice none 0 0, .int .i64 0], []⟩ 8 (by kernel_rfl) (by kernel_rfl) (by kernel_rfl) (by kernel_rfl)) ?_
  intro W base args ds gs before hval0 hW hcnd _
  have hval : ∀ (j : Nat) t v, Try.f4.params[j]? = some t → args[j]? = some v → Value.okWide Try.prog W .any base t v := hval0
  have hW' := hW
  obtain ⟨p, q, hA0, hV, rfl, hfz, hnd⟩ := hW
  have hA : DataW.TrodAll enc Try.prog W 0 (fun _ => true) true Try.f4.params.toList args.toList ds p := hA0
  have hA1 := hA
  rw [Try.params4] at hA1 hval
  obtain ⟨v0, v1, d0, d1, p0, p1, rfl, rfl, rfl, h0, h1⟩ := trodAll_two hA1
  obtain ⟨rfl, rfl⟩ := trodVars_none hV
  obtain ⟨a0, len, cap, rfl⟩ := okWide_slice Try.underlying22 (hval 0 22 _ rfl rfl)
  obtain ⟨fuel, hf⟩ := h0
  obtain ⟨A, cap', L, hcs, hlen, hchs⟩ := open_charges hf
  have hcs' : Value.slice a0 len cap = .slice A L.length cap' := by simpa [Value.cells] using hcs
  obtain ⟨x1, rfl, rfl, rfl, wa1⟩ := open_int Try.underlying3 (hval 1 3 v1 rfl rfl) h1
  clear hA0 hval0 hf
  simp only [List.append_nil] at hW' hA
  have key : Calls Try.prog 4 #[.slice A L.length cap', .int .i64 x1] W fun e w' => e = .returned (.bool true) ∧ Below W.heap.size W w' := by
    by_cases hbig : L.length ≤ 1048576
    · exact FnAuditTask_fit A cap' L x1 W hbig hchs
    · exact FnAuditTask_big A L.length cap' x1 W (by omega) hlen
  rw [← hcs'] at key
  refine key.mono fun e W' ⟨he, hb⟩ => ?_
  subst he
  exact ⟨_, rfl, law_post laidOut (by rw [Try.params4]; decide +kernel) (by kernel_rfl) Try.underlying4 rfl hW' hA rfl hb⟩
theorem FnAuditTask_holds : Rows.FnExactAuditTaskSaid :=
  OpenClaim.holds_of_wide 4 Try.f4 rfl rfl rfl rfl rfl rfl rfl ⟨rfl, rfl, rfl, rfl, rfl⟩ rfl rfl rfl rfl rfl (by kernel_rfl) Try.func4 (by kernel_rfl)
    (of_decide_eq_true (by kernel_rfl)) (by unfold Func.isWrapper; first | (rw [if_pos (by decide +kernel)]; kernel_rfl) | (rw [if_neg (by decide +kernel)]; exact ⟨rfl, rfl⟩))
    (fun os started H enc _ => FnAuditTask_lifted os started H enc)
set_option maxRecDepth 100000 in
theorem FnAuditGroup_lifted (os : Os) (started : os.Started) (H : Type) (enc : TypeId × Value → H) :
    ReturnsInHanded {} Try.checked os 5 .any (Rows.fnExactAuditGroupSpec.pre6 enc Try.prog Try.f5 Rows.fnExactAuditGroupRow.domain false) (Rows.fnExactAuditGroupSpec.post enc Try.prog Try.f5 false true false false) := by
  refine returnsInHanded_of_change (C := Try.checked) own started (by kernel_rfl) Try.func5
    (ChangeSpec.witness6 (enc := enc) (C := Try.checked) false ⟨#[], #[.slice none 0 0, .int .i64 0], []⟩ 8 (by kernel_rfl) (by kernel_rfl) (by kernel_rfl) (by kernel_rfl)) ?_
  intro W base args ds gs before hval0 hW hcnd _
  have hval : ∀ (j : Nat) t v, Try.f5.params[j]? = some t → args[j]? = some v → Value.okWide Try.prog W .any base t v := hval0
  have hW' := hW
  obtain ⟨p, q, hA0, hV, rfl, hfz, hnd⟩ := hW
  have hA : DataW.TrodAll enc Try.prog W 0 (fun _ => true) true Try.f5.params.toList args.toList ds p := hA0
  have hA1 := hA
  rw [Try.params5] at hA1 hval
  obtain ⟨v0, v1, d0, d1, p0, p1, rfl, rfl, rfl, h0, h1⟩ := trodAll_two hA1
  obtain ⟨rfl, rfl⟩ := trodVars_none hV
  obtain ⟨a0, len, cap, rfl⟩ := okWide_slice Try.underlying22 (hval 0 22 _ rfl rfl)
  obtain ⟨fuel, hf⟩ := h0
  obtain ⟨A, cap', L, hcs, hlen, hchs⟩ := open_charges hf
  have hcs' : Value.slice a0 len cap = .slice A L.length cap' := by simpa [Value.cells] using hcs
  obtain ⟨x1, rfl, rfl, rfl, wa1⟩ := open_int Try.underlying3 (hval 1 3 v1 rfl rfl) h1
  clear hA0 hval0 hf
  simp only [List.append_nil] at hW' hA
  have key : Calls Try.prog 5 #[.slice A L.length cap', .int .i64 x1] W fun e w' => e = .returned (.bool true) ∧ Below W.heap.size W w' := by
    by_cases hbig : L.length ≤ 1048576
    · exact FnAuditGroup_fit A cap' L x1 W hbig hchs
    · exact FnAuditGroup_big A L.length cap' x1 W (by omega) hlen
  rw [← hcs'] at key
  refine key.mono fun e W' ⟨he, hb⟩ => ?_
  subst he
  exact ⟨_, rfl, law_post laidOut (by rw [Try.params5]; decide +kernel) (by kernel_rfl) Try.underlying4 rfl hW' hA rfl hb⟩
theorem FnAuditGroup_holds : Rows.FnExactAuditGroupSaid :=
  OpenClaim.holds_of_wide 5 Try.f5 rfl rfl rfl rfl rfl rfl rfl ⟨rfl, rfl, rfl, rfl, rfl⟩ rfl rfl rfl rfl rfl (by kernel_rfl) Try.func5 (by kernel_rfl)
    (of_decide_eq_true (by kernel_rfl)) (by unfold Func.isWrapper; first | (rw [if_pos (by decide +kernel)]; kernel_rfl) | (rw [if_neg (by decide +kernel)]; exact ⟨rfl, rfl⟩))
    (fun os started H enc _ => FnAuditGroup_lifted os started H enc)
set_option maxRecDepth 100000 in
theorem FnAuditGap_lifted (os : Os) (started : os.Started) (H : Type) (enc : TypeId × Value → H) :
    ReturnsInHanded {} Try.checked os 6 .any (Rows.fnExactAuditGapSpec.pre6 enc Try.prog Try.f6 Rows.fnExactAuditGapRow.domain false) (Rows.fnExactAuditGapSpec.post enc Try.prog Try.f6 false true false false) := by
  refine returnsInHanded_of_change (C := Try.checked) own started (by kernel_rfl) Try.func6
    (ChangeSpec.witness6 (enc := enc) (C := Try.checked) false ⟨#[], #[.slice none 0 0, .int .i64 0, .int .i64 0], []⟩ 8 (by kernel_rfl) (by kernel_rfl) (by kernel_rfl) (by kernel_rfl)) ?_
  intro W base args ds gs before hval0 hW hcnd _
  have hval : ∀ (j : Nat) t v, Try.f6.params[j]? = some t → args[j]? = some v → Value.okWide Try.prog W .any base t v := hval0
  have hW' := hW
  obtain ⟨p, q, hA0, hV, rfl, hfz, hnd⟩ := hW
  have hA : DataW.TrodAll enc Try.prog W 0 (fun _ => true) true Try.f6.params.toList args.toList ds p := hA0
  have hA1 := hA
  rw [Try.params6] at hA1 hval
  obtain ⟨v0, v1, v2, d0, d1, d2, p0, p1, p2, rfl, rfl, rfl, h0, h1, h2⟩ := trodAll_three hA1
  obtain ⟨rfl, rfl⟩ := trodVars_none hV
  obtain ⟨a0, len, cap, rfl⟩ := okWide_slice Try.underlying22 (hval 0 22 _ rfl rfl)
  obtain ⟨fuel, hf⟩ := h0
  obtain ⟨A, cap', L, hcs, hlen, hchs⟩ := open_charges hf
  have hcs' : Value.slice a0 len cap = .slice A L.length cap' := by simpa [Value.cells] using hcs
  obtain ⟨x1, rfl, rfl, rfl, wa1⟩ := open_int Try.underlying3 (hval 1 3 v1 rfl rfl) h1
  obtain ⟨x2, rfl, rfl, rfl, wa2⟩ := open_int Try.underlying3 (hval 2 3 v2 rfl rfl) h2
  clear hA0 hval0 hf
  simp only [List.append_nil] at hW' hA
  have key : Calls Try.prog 6 #[.slice A L.length cap', .int .i64 x1, .int .i64 x2] W fun e w' => e = .returned (.bool true) ∧ Below W.heap.size W w' := by
    by_cases hbig : L.length ≤ 1048576
    · exact FnAuditGap_fit A cap' L x1 x2 W hbig hchs
    · exact FnAuditGap_big A L.length cap' x1 x2 W (by omega) hlen
  rw [← hcs'] at key
  refine key.mono fun e W' ⟨he, hb⟩ => ?_
  subst he
  exact ⟨_, rfl, law_post laidOut (by rw [Try.params6]; decide +kernel) (by kernel_rfl) Try.underlying4 rfl hW' hA rfl hb⟩
theorem FnAuditGap_holds : Rows.FnExactAuditGapSaid :=
  OpenClaim.holds_of_wide 6 Try.f6 rfl rfl rfl rfl rfl rfl rfl ⟨rfl, rfl, rfl, rfl, rfl⟩ rfl rfl rfl rfl rfl (by kernel_rfl) Try.func6 (by kernel_rfl)
    (of_decide_eq_true (by kernel_rfl)) (by unfold Func.isWrapper; first | (rw [if_pos (by decide +kernel)]; kernel_rfl) | (rw [if_neg (by decide +kernel)]; exact ⟨rfl, rfl⟩))
    (fun os started H enc _ => FnAuditGap_lifted os started H enc)
end Go.Proofs.Ytebehddkplmhiaa
