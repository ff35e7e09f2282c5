/- The laws' own helpers over the parts of a world: sizes, copies, comparisons. -/
import Derived.Test.YtknfpigaognklaaGreatDoorWm
import Derived.StillTailTactics
import Derived.Deep.QuietTactic
import Derived.BigQuiet
namespace Go.Proofs.YtknfpigaognklaaGreatDoor
open Go.RowKit
/-- what is left of a size -/
def szV (n : Nat) (left : Int) : Int := if (n : Int) ≤ left then left - n else -1
theorem szV_of {n : Nat} {left : Int} (h : 0 ≤ left) : (0 ≤ szV n left → (n : Int) ≤ left ∧ szV n left = left - n) ∧ -1 ≤ szV n left ∧ szV n left ≤ left := by
  unfold szV; split <;> omega
set_option maxHeartbeats 400000 in
theorem szCpuS_any (A : Option Addr) (n cap : Nat) (left : Int) (w : World) (hl : n ≤ 9223372036854775807) (h0 : 0 ≤ left) (h1 : left ≤ 1048576) :
    Calls Tryz.prog 20 #[.slice A n cap, .int .i64 left] w fun e w' => e = .returned (.int .i64 (szV n left)) ∧ w = w' := by
  go_enter Tryz.func20, Tryz.ntmps20
  go_wp2
  · have : left - (n : Int) < 0 := by assumption
    go_ret
    exact ⟨ret_int (by rw [szV, if_neg (by omega)]), rfl⟩
  · have : 0 ≤ left - (n : Int) := by assumption
    go_ret
    exact ⟨ret_int (by rw [szV, if_pos (by omega)]), rfl⟩
set_option maxHeartbeats 400000 in
theorem szTaskS_any (A : Option Addr) (n cap : Nat) (left : Int) (w : World) (hl : n ≤ 9223372036854775807) (h0 : 0 ≤ left) (h1 : left ≤ 1048576) :
    Calls Tryz.prog 21 #[.slice A n cap, .int .i64 left] w fun e w' => e = .returned (.int .i64 (szV n left)) ∧ w = w' := by
  go_enter Tryz.func21, Tryz.ntmps21
  go_wp2
  · have : left - (n : Int) < 0 := by assumption
    go_ret
    exact ⟨ret_int (by rw [szV, if_neg (by omega)]), rfl⟩
  · have : 0 ≤ left - (n : Int) := by assumption
    go_ret
    exact ⟨ret_int (by rw [szV, if_pos (by omega)]), rfl⟩
set_option maxHeartbeats 400000 in
theorem szIntS_any (A : Option Addr) (n cap : Nat) (left : Int) (w : World) (hl : n ≤ 9223372036854775807) (h0 : 0 ≤ left) (h1 : left ≤ 1048576) :
    Calls Tryz.prog 169 #[.slice A n cap, .int .i64 left] w fun e w' => e = .returned (.int .i64 (szV n left)) ∧ w = w' := by
  go_enter Tryz.func169, Tryz.ntmps169
  go_wp2
  · have : left - (n : Int) < 0 := by assumption
    go_ret
    exact ⟨ret_int (by rw [szV, if_neg (by omega)]), rfl⟩
  · have : 0 ≤ left - (n : Int) := by assumption
    go_ret
    exact ⟨ret_int (by rw [szV, if_pos (by omega)]), rfl⟩
set_option maxHeartbeats 400000 in
theorem szBoolS_any (A : Option Addr) (n cap : Nat) (left : Int) (w : World) (hl : n ≤ 9223372036854775807) (h0 : 0 ≤ left) (h1 : left ≤ 1048576) :
    Calls Tryz.prog 170 #[.slice A n cap, .int .i64 left] w fun e w' => e = .returned (.int .i64 (szV n left)) ∧ w = w' := by
  go_enter Tryz.func170, Tryz.ntmps170
  go_wp2
  · have : left - (n : Int) < 0 := by assumption
    go_ret
    exact ⟨ret_int (by rw [szV, if_neg (by omega)]), rfl⟩
  · have : 0 ≤ left - (n : Int) := by assumption
    go_ret
    exact ⟨ret_int (by rw [szV, if_pos (by omega)]), rfl⟩
set_option maxHeartbeats 400000 in
theorem szShelfS_any (A : Option Addr) (n cap : Nat) (left : Int) (w : World) (hl : n ≤ 9223372036854775807) (h0 : 0 ≤ left) (h1 : left ≤ 1048576) :
    Calls Tryz.prog 122 #[.slice A n cap, .int .i64 left] w fun e w' => e = .returned (.int .i64 (szV n left)) ∧ w = w' := by
  go_enter Tryz.func122, Tryz.ntmps122
  go_wp2
  · have : left - (n : Int) < 0 := by assumption
    go_ret
    exact ⟨ret_int (by rw [szV, if_neg (by omega)]), rfl⟩
  · have : 0 ≤ left - (n : Int) := by assumption
    go_ret
    exact ⟨ret_int (by rw [szV, if_pos (by omega)]), rfl⟩
set_option maxHeartbeats 400000 in
theorem toCpu_any (x : CpuM) (w : World) :
    Calls Tryz.prog 71 #[.agg #[.bool x.up, .int .i64 x.cur, .int .i64 x.ran, .int .i64 x.busy, .int .i64 x.idle]] w fun e w' => e = .returned (.agg #[.bool x.up, .int .i64 x.cur, .int .i64 x.ran, .int .i64 x.busy, .int .i64 x.idle]) ∧ Below w.heap.size w w' := by
  go_enter Tryz.func71, Tryz.ntmps71
  go_wp2
  exact bodyPost_ret (v := .agg #[.bool x.up, .int .i64 x.cur, .int .i64 x.ran, .int .i64 x.busy, .int .i64 x.idle]) (by simp [results, Tryz.results71, go_sem]) rfl ⟨rfl, (((Below.refl _ _).alloc (Nat.le_refl _) _).alloc (by simp) _).alloc (by simp; omega) _⟩
theorem infoCpu : (Tryz.prog.info? 48).map (fun i => (i.zero, i.size, i.bytes)) = some (some (.agg #[.bool false, .int .i64 0, .int .i64 0, .int .i64 0, .int .i64 0]), 5, 40) := by kernel_rfl
def CpuPut (C : Array Value) (L : List CpuM) (k : Nat) : Prop := ∀ j (h : j < L.length), j < k → C[j * 5]? = some (.bool L[j].up) ∧ C[j * 5 + 1]? = some (.int .i64 L[j].cur) ∧ C[j * 5 + 2]? = some (.int .i64 L[j].ran) ∧ C[j * 5 + 3]? = some (.int .i64 L[j].busy) ∧ C[j * 5 + 4]? = some (.int .i64 L[j].idle)
theorem CpuPut.step {C : Array Value} {L : List CpuM} {k : Nat} (hlt : k < L.length) (hC : C.size = L.length * 5) (h : CpuPut C L k) :
    CpuPut (((((C.setIfInBounds (k * 5) (.bool L[k].up)).setIfInBounds (k * 5 + 1) (.int .i64 L[k].cur)).setIfInBounds (k * 5 + 2) (.int .i64 L[k].ran)).setIfInBounds (k * 5 + 3) (.int .i64 L[k].busy)).setIfInBounds (k * 5 + 4) (.int .i64 L[k].idle)) L (k + 1) := by
  intro j hj hjk
  by_cases e : j = k
  · subst e
    refine ⟨?_, ?_, ?_, ?_, ?_⟩ <;> simp [Array.getElem?_setIfInBounds, hC] <;> omega
  · obtain ⟨h0, h1, h2, h3, h4⟩ := h j hj (by omega)
    refine ⟨?_, ?_, ?_, ?_, ?_⟩ <;> simp only [Array.getElem?_setIfInBounds] <;> repeat (rw [if_neg (by omega)])
    all_goals assumption
theorem CpuPut.at_ {w : World} {g : Nat} {C : Array Value} {L : List CpuM} {t : TypeId} (hb : Blk w g t C) (h : CpuPut C L L.length) : CpuS w (some ⟨g, 0, none⟩) L := ⟨fun k hk => by
  obtain ⟨h0, h1, h2, h3, h4⟩ := h k hk hk
  refine ⟨g, 0, rfl, hb.lt, ?_, ?_, ?_, ?_, ?_⟩ <;> (rw [hb.cell]; simp only [Nat.zero_add]; assumption)⟩
set_option maxHeartbeats 400000 in
theorem toCpuS_any (A : Option Addr) (cap : Nat) (L : List CpuM) (w : World) (hl : L.length ≤ 1048576) (hs : CpuS w A L) :
    Calls Tryz.prog 27 #[.slice A L.length cap] w fun e w' => ∃ g, e = .returned (.slice (some ⟨g, 0, none⟩) L.length L.length) ∧ Below w.heap.size w w' ∧ w.heap.size ≤ g ∧ CpuS w' (some ⟨g, 0, none⟩) L := by
  obtain ⟨C0, hsz, hmk⟩ := made (P := Tryz.prog) 29 48 _ _ _ Tryz.underlying29 infoCpu L.length (by omega) (by omega)
  have HZ := Lib.hid hsz
  clear hsz
  go_enter Tryz.func27, Tryz.ntmps27
  go_wp2
  go_loopw [4] (fun i wr => ∃ (k : Nat) (C : Array Value), k ≤ L.length ∧ i = .int .i64 k ∧ Blk wr w.heap.size 48 C ∧ C.size = L.length * 5 ∧ CpuPut C L k ∧ Below w.heap.size w wr) (fun i _ => L.length - (intOf i).toNat)
  case atStart => exact ⟨0, C0, Nat.zero_le _, rfl, Blk.new _ _ _, HZ.out, fun j _ h => by omega, (Below.refl _ _).alloc (Nat.le_refl _) _⟩
  case round =>
    obtain ⟨k, C, hk, rfl, hblk, hcs, hput, hb⟩ := hrel
    have HC := Lib.hid hcs
    have HP := Lib.hid hput
    have HB := Lib.hid hblk
    clear hcs hput hblk
    by_cases hlt : k < L.length
    · obtain ⟨b, o, rfl, hB, c0, c1, c2, c3, c4⟩ := (hs.keep hb).at_ k hlt
      have hg : w.heap.size < wr.heap.size := HB.out.lt
      go_wp2_with fail
      refine (toCpu_any L[k] _).mono ?_
      rintro e w2 ⟨rfl, hb2⟩
      have hbl := HB.out.below hb2 hg
      have hCs := HC.out
      obtain ⟨v0, d0⟩ := hbl.in_ (k * 5) (by omega)
      obtain ⟨v1, d1⟩ := hbl.in_ (k * 5 + 1) (by omega)
      obtain ⟨v2, d2⟩ := hbl.in_ (k * 5 + 2) (by omega)
      obtain ⟨v3, d3⟩ := hbl.in_ (k * 5 + 3) (by omega)
      obtain ⟨v4, d4⟩ := hbl.in_ (k * 5 + 4) (by omega)
      have f := fun i => hbl.frozen i
      clear hCs
      have HB2 := Lib.hid hbl
      clear hbl
      go_wp2
      go_roundw
      case rel => exact ⟨k + 1, _, by omega, by go_num, ((((HB2.out.set_ _ _).set_ _ _).set_ _ _).set_ _ _).set_ _ _, by simp [HC.out], CpuPut.step hlt HC.out HP.out, (((((hb.andThen hb2).setCell (Nat.le_refl _) _).setCell (Nat.le_refl _) _).setCell (Nat.le_refl _) _).setCell (Nat.le_refl _) _).setCell (Nat.le_refl _) _⟩
      case measure => simp [intOf]; omega
    · go_wp2
      go_ret
      exact ⟨_, rfl, hb, Nat.le_refl _, CpuPut.at_ HB.out (by rw [show k = L.length by omega] at HP; exact HP.out)⟩
set_option maxHeartbeats 400000 in
theorem eqCpu_any (x : CpuM) (w : World) :
    Calls Tryz.prog 80 #[.agg #[.bool x.up, .int .i64 x.cur, .int .i64 x.ran, .int .i64 x.busy, .int .i64 x.idle], .agg #[.bool x.up, .int .i64 x.cur, .int .i64 x.ran, .int .i64 x.busy, .int .i64 x.idle]] w fun e w' => e = .returned (.bool true) ∧ Below w.heap.size w w' := by
  go_enter Tryz.func80, Tryz.ntmps80
  go_wp2
  go_ret
  exact ⟨rfl, ((Below.refl _ _).alloc (Nat.le_refl _) _).alloc (by simp) _⟩
set_option maxRecDepth 100000 in
set_option maxHeartbeats 400000 in
theorem eqCpuS_any (A B : Option Addr) (cap cap' : Nat) (L : List CpuM) (w : World) (hl : L.length ≤ 1048576) (hs : CpuS w A L) (ht : CpuS w B L) :
    Calls Tryz.prog 36 #[.slice A L.length cap, .slice B L.length cap'] w fun e w' => e = .returned (.bool true) ∧ Below w.heap.size w w' := by
  go_enter Tryz.func36, Tryz.ntmps36
  go_wp2
  go_loopw [4, 5] (fun r i wr => ∃ k : Nat, k ≤ L.length ∧ i = .int .i64 k ∧ r = .bool false ∧ Below w.heap.size w wr) (fun _ i _ => L.length - (intOf i).toNat)
  case atStart => exact ⟨0, Nat.zero_le _, rfl, rfl, Below.refl _ _⟩
  case round =>
    obtain ⟨k, hk, rfl, rfl, hb⟩ := hrel
    by_cases hlt : k < L.length
    · obtain ⟨b, o, rfl, hB, c0, c1, c2, c3, c4⟩ := (hs.keep hb).at_ k hlt
      obtain ⟨b', o', rfl, hB', c0', c1', c2', c3', c4'⟩ := (ht.keep hb).at_ k hlt
      go_wp2_with fail
      go_still_tail 8, (by kernel_rfl)
      change wpList _ _ _ _ _ wr.drew
      have hb1 := hb.drew
      generalize wr.drew = w2 at *
      go_wp2_with (go_at_call 80; refine (eqCpu_any L[k] _).mono ?_; rintro e w3 ⟨rfl, hb3⟩)
      go_roundw
      case rel => exact ⟨k + 1, by omega, by go_num, rfl, hb1.andThen hb3⟩
      case measure => simp [intOf]; omega
    · go_wp2
      go_ret
      exact ⟨rfl, hb⟩
set_option maxHeartbeats 400000 in
theorem toTask_any (x : TaskM) (w : World) :
    Calls Tryz.prog 72 #[.agg #[.int .i64 x.st, .int .i64 x.gr, .int .i64 x.cpu, .int .i64 x.nice, .int .i64 x.mask, .int .i64 x.v, .int .i64 x.sum, .int .i64 x.used, .int .i64 x.load]] w fun e w' => e = .returned (.agg #[.int .i64 x.st, .int .i64 x.gr, .int .i64 x.cpu, .int .i64 x.nice, .int .i64 x.mask, .int .i64 x.v, .int .i64 x.sum, .int .i64 x.used, .int .i64 x.load]) ∧ Below w.heap.size w w' := by
  go_enter Tryz.func72, Tryz.ntmps72
  go_wp2
  exact bodyPost_ret (v := .agg #[.int .i64 x.st, .int .i64 x.gr, .int .i64 x.cpu, .int .i64 x.nice, .int .i64 x.mask, .int .i64 x.v, .int .i64 x.sum, .int .i64 x.used, .int .i64 x.load]) (by simp [results, Tryz.results72, go_sem]) rfl ⟨rfl, (((Below.refl _ _).alloc (Nat.le_refl _) _).alloc (by simp) _).alloc (by simp; omega) _⟩
theorem infoTask : (Tryz.prog.info? 58).map (fun i => (i.zero, i.size, i.bytes)) = some (some (.agg #[.int .i64 0, .int .i64 0, .int .i64 0, .int .i64 0, .int .i64 0, .int .i64 0, .int .i64 0, .int .i64 0, .int .i64 0]), 9, 72) := by kernel_rfl
def TaskPut (C : Array Value) (L : List TaskM) (k : Nat) : Prop := ∀ j (h : j < L.length), j < k → C[j * 9]? = some (.int .i64 L[j].st) ∧ C[j * 9 + 1]? = some (.int .i64 L[j].gr) ∧ C[j * 9 + 2]? = some (.int .i64 L[j].cpu) ∧ C[j * 9 + 3]? = some (.int .i64 L[j].nice) ∧ C[j * 9 + 4]? = some (.int .i64 L[j].mask) ∧ C[j * 9 + 5]? = some (.int .i64 L[j].v) ∧ C[j * 9 + 6]? = some (.int .i64 L[j].sum) ∧ C[j * 9 + 7]? = some (.int .i64 L[j].used) ∧ C[j * 9 + 8]? = some (.int .i64 L[j].load)
theorem TaskPut.step {C : Array Value} {L : List TaskM} {k : Nat} (hlt : k < L.length) (hC : C.size = L.length * 9) (h : TaskPut C L k) :
    TaskPut (((((((((C.setIfInBounds (k * 9) (.int .i64 L[k].st)).setIfInBounds (k * 9 + 1) (.int .i64 L[k].gr)).setIfInBounds (k * 9 + 2) (.int .i64 L[k].cpu)).setIfInBounds (k * 9 + 3) (.int .i64 L[k].nice)).setIfInBounds (k * 9 + 4) (.int .i64 L[k].mask)).setIfInBounds (k * 9 + 5) (.int .i64 L[k].v)).setIfInBounds (k * 9 + 6) (.int .i64 L[k].sum)).setIfInBounds (k * 9 + 7) (.int .i64 L[k].used)).setIfInBounds (k * 9 + 8) (.int .i64 L[k].load)) L (k + 1) := by
  intro j hj hjk
  by_cases e : j = k
  · subst e
    refine ⟨?_, ?_, ?_, ?_, ?_, ?_, ?_, ?_, ?_⟩ <;> simp [Array.getElem?_setIfInBounds, hC] <;> omega
  · obtain ⟨h0, h1, h2, h3, h4, h5, h6, h7, h8⟩ := h j hj (by omega)
    refine ⟨?_, ?_, ?_, ?_, ?_, ?_, ?_, ?_, ?_⟩ <;> simp only [Array.getElem?_setIfInBounds] <;> repeat (rw [if_neg (by omega)])
    all_goals assumption
theorem TaskPut.at_ {w : World} {g : Nat} {C : Array Value} {L : List TaskM} {t : TypeId} (hb : Blk w g t C) (h : TaskPut C L L.length) : TaskS w (some ⟨g, 0, none⟩) L := ⟨fun k hk => by
  obtain ⟨h0, h1, h2, h3, h4, h5, h6, h7, h8⟩ := h k hk hk
  refine ⟨g, 0, rfl, hb.lt, ?_, ?_, ?_, ?_, ?_, ?_, ?_, ?_, ?_⟩ <;> (rw [hb.cell]; simp only [Nat.zero_add]; assumption)⟩
set_option maxHeartbeats 400000 in
theorem toTaskS_any (A : Option Addr) (cap : Nat) (L : List TaskM) (w : World) (hl : L.length ≤ 1048576) (hs : TaskS w A L) :
    Calls Tryz.prog 28 #[.slice A L.length cap] w fun e w' => ∃ g, e = .returned (.slice (some ⟨g, 0, none⟩) L.length L.length) ∧ Below w.heap.size w w' ∧ w.heap.size ≤ g ∧ TaskS w' (some ⟨g, 0, none⟩) L := by
  obtain ⟨C0, hsz, hmk⟩ := made (P := Tryz.prog) 30 58 _ _ _ Tryz.underlying30 infoTask L.length (by omega) (by omega)
  have HZ := Lib.hid hsz
  clear hsz
  go_enter Tryz.func28, Tryz.ntmps28
  go_wp2
  go_loopw [4] (fun i wr => ∃ (k : Nat) (C : Array Value), k ≤ L.length ∧ i = .int .i64 k ∧ Blk wr w.heap.size 58 C ∧ C.size = L.length * 9 ∧ TaskPut C L k ∧ Below w.heap.size w wr) (fun i _ => L.length - (intOf i).toNat)
  case atStart => exact ⟨0, C0, Nat.zero_le _, rfl, Blk.new _ _ _, HZ.out, fun j _ h => by omega, (Below.refl _ _).alloc (Nat.le_refl _) _⟩
  case round =>
    obtain ⟨k, C, hk, rfl, hblk, hcs, hput, hb⟩ := hrel
    have HC := Lib.hid hcs
    have HP := Lib.hid hput
    have HB := Lib.hid hblk
    clear hcs hput hblk
    by_cases hlt : k < L.length
    · obtain ⟨b, o, rfl, hB, c0, c1, c2, c3, c4, c5, c6, c7, c8⟩ := (hs.keep hb).at_ k hlt
      have hg : w.heap.size < wr.heap.size := HB.out.lt
      go_wp2_with fail
      refine (toTask_any L[k] _).mono ?_
      rintro e w2 ⟨rfl, hb2⟩
      have hbl := HB.out.below hb2 hg
      have hCs := HC.out
      obtain ⟨v0, d0⟩ := hbl.in_ (k * 9) (by omega)
      obtain ⟨v1, d1⟩ := hbl.in_ (k * 9 + 1) (by omega)
      obtain ⟨v2, d2⟩ := hbl.in_ (k * 9 + 2) (by omega)
      obtain ⟨v3, d3⟩ := hbl.in_ (k * 9 + 3) (by omega)
      obtain ⟨v4, d4⟩ := hbl.in_ (k * 9 + 4) (by omega)
      obtain ⟨v5, d5⟩ := hbl.in_ (k * 9 + 5) (by omega)
      obtain ⟨v6, d6⟩ := hbl.in_ (k * 9 + 6) (by omega)
      obtain ⟨v7, d7⟩ := hbl.in_ (k * 9 + 7) (by omega)
      obtain ⟨v8, d8⟩ := hbl.in_ (k * 9 + 8) (by omega)
      have f := fun i => hbl.frozen i
      clear hCs
      have HB2 := Lib.hid hbl
      clear hbl
      go_wp2
      go_roundw
      case rel => exact ⟨k + 1, _, by omega, by go_num, ((((((((HB2.out.set_ _ _).set_ _ _).set_ _ _).set_ _ _).set_ _ _).set_ _ _).set_ _ _).set_ _ _).set_ _ _, by simp [HC.out], TaskPut.step hlt HC.out HP.out, (((((((((hb.andThen hb2).setCell (Nat.le_refl _) _).setCell (Nat.le_refl _) _).setCell (Nat.le_refl _) _).setCell (Nat.le_refl _) _).setCell (Nat.le_refl _) _).setCell (Nat.le_refl _) _).setCell (Nat.le_refl _) _).setCell (Nat.le_refl _) _).setCell (Nat.le_refl _) _⟩
      case measure => simp [intOf]; omega
    · go_wp2
      go_ret
      exact ⟨_, rfl, hb, Nat.le_refl _, TaskPut.at_ HB.out (by rw [show k = L.length by omega] at HP; exact HP.out)⟩
set_option maxHeartbeats 400000 in
theorem eqTask_any (x : TaskM) (w : World) :
    Calls Tryz.prog 81 #[.agg #[.int .i64 x.st, .int .i64 x.gr, .int .i64 x.cpu, .int .i64 x.nice, .int .i64 x.mask, .int .i64 x.v, .int .i64 x.sum, .int .i64 x.used, .int .i64 x.load], .agg #[.int .i64 x.st, .int .i64 x.gr, .int .i64 x.cpu, .int .i64 x.nice, .int .i64 x.mask, .int .i64 x.v, .int .i64 x.sum, .int .i64 x.used, .int .i64 x.load]] w fun e w' => e = .returned (.bool true) ∧ Below w.heap.size w w' := by
  go_enter Tryz.func81, Tryz.ntmps81
  go_wp2
  go_ret
  exact ⟨rfl, ((Below.refl _ _).alloc (Nat.le_refl _) _).alloc (by simp) _⟩
set_option maxRecDepth 100000 in
set_option maxHeartbeats 400000 in
theorem eqTaskS_any (A B : Option Addr) (cap cap' : Nat) (L : List TaskM) (w : World) (hl : L.length ≤ 1048576) (hs : TaskS w A L) (ht : TaskS w B L) :
    Calls Tryz.prog 37 #[.slice A L.length cap, .slice B L.length cap'] w fun e w' => e = .returned (.bool true) ∧ Below w.heap.size w w' := by
  go_enter Tryz.func37, Tryz.ntmps37
  go_wp2
  go_loopw [4, 5] (fun r i wr => ∃ k : Nat, k ≤ L.length ∧ i = .int .i64 k ∧ r = .bool false ∧ Below w.heap.size w wr) (fun _ i _ => L.length - (intOf i).toNat)
  case atStart => exact ⟨0, Nat.zero_le _, rfl, rfl, Below.refl _ _⟩
  case round =>
    obtain ⟨k, hk, rfl, rfl, hb⟩ := hrel
    by_cases hlt : k < L.length
    · obtain ⟨b, o, rfl, hB, c0, c1, c2, c3, c4, c5, c6, c7, c8⟩ := (hs.keep hb).at_ k hlt
      obtain ⟨b', o', rfl, hB', c0', c1', c2', c3', c4', c5', c6', c7', c8'⟩ := (ht.keep hb).at_ k hlt
      go_wp2_with fail
      go_still_tail 8, (by kernel_rfl)
      change wpList _ _ _ _ _ wr.drew
      have hb1 := hb.drew
      generalize wr.drew = w2 at *
      go_wp2_with (go_at_call 81; refine (eqTask_any L[k] _).mono ?_; rintro e w3 ⟨rfl, hb3⟩)
      go_roundw
      case rel => exact ⟨k + 1, by omega, by go_num, rfl, hb1.andThen hb3⟩
      case measure => simp [intOf]; omega
    · go_wp2
      go_ret
      exact ⟨rfl, hb⟩
set_option maxHeartbeats 400000 in
theorem toShelf_any (x : ShelfM) (w : World) :
    Calls Tryz.prog 177 #[.agg #[.int .i64 x.floor, .bool x.on, .int .i64 x.v, .int .i64 x.w, .int .i64 x.sum]] w fun e w' => e = .returned (.agg #[.int .i64 x.floor, .bool x.on, .int .i64 x.v, .int .i64 x.w, .int .i64 x.sum]) ∧ Below w.heap.size w w' := by
  go_enter Tryz.func177, Tryz.ntmps177
  go_wp2
  exact bodyPost_ret (v := .agg #[.int .i64 x.floor, .bool x.on, .int .i64 x.v, .int .i64 x.w, .int .i64 x.sum]) (by simp [results, Tryz.results177, go_sem]) rfl ⟨rfl, (((Below.refl _ _).alloc (Nat.le_refl _) _).alloc (by simp) _).alloc (by simp; omega) _⟩
theorem infoShelf : (Tryz.prog.info? 103).map (fun i => (i.zero, i.size, i.bytes)) = some (some (.agg #[.int .i64 0, .bool false, .int .i64 0, .int .i64 0, .int .i64 0]), 5, 40) := by kernel_rfl
def ShelfPut (C : Array Value) (L : List ShelfM) (k : Nat) : Prop := ∀ j (h : j < L.length), j < k → C[j * 5]? = some (.int .i64 L[j].floor) ∧ C[j * 5 + 1]? = some (.bool L[j].on) ∧ C[j * 5 + 2]? = some (.int .i64 L[j].v) ∧ C[j * 5 + 3]? = some (.int .i64 L[j].w) ∧ C[j * 5 + 4]? = some (.int .i64 L[j].sum)
theorem ShelfPut.step {C : Array Value} {L : List ShelfM} {k : Nat} (hlt : k < L.length) (hC : C.size = L.length * 5) (h : ShelfPut C L k) :
    ShelfPut (((((C.setIfInBounds (k * 5) (.int .i64 L[k].floor)).setIfInBounds (k * 5 + 1) (.bool L[k].on)).setIfInBounds (k * 5 + 2) (.int .i64 L[k].v)).setIfInBounds (k * 5 + 3) (.int .i64 L[k].w)).setIfInBounds (k * 5 + 4) (.int .i64 L[k].sum)) L (k + 1) := by
  intro j hj hjk
  by_cases e : j = k
  · subst e
    refine ⟨?_, ?_, ?_, ?_, ?_⟩ <;> simp [Array.getElem?_setIfInBounds, hC] <;> omega
  · obtain ⟨h0, h1, h2, h3, h4⟩ := h j hj (by omega)
    refine ⟨?_, ?_, ?_, ?_, ?_⟩ <;> simp only [Array.getElem?_setIfInBounds] <;> repeat (rw [if_neg (by omega)])
    all_goals assumption
theorem ShelfPut.at_ {w : World} {g : Nat} {C : Array Value} {L : List ShelfM} {t : TypeId} (hb : Blk w g t C) (h : ShelfPut C L L.length) : ShelfS w (some ⟨g, 0, none⟩) L := ⟨fun k hk => by
  obtain ⟨h0, h1, h2, h3, h4⟩ := h k hk hk
  refine ⟨g, 0, rfl, hb.lt, ?_, ?_, ?_, ?_, ?_⟩ <;> (rw [hb.cell]; simp only [Nat.zero_add]; assumption)⟩
set_option maxHeartbeats 400000 in
theorem toShelfS_any (A : Option Addr) (cap : Nat) (L : List ShelfM) (w : World) (hl : L.length ≤ 1048576) (hs : ShelfS w A L) :
    Calls Tryz.prog 136 #[.slice A L.length cap] w fun e w' => ∃ g, e = .returned (.slice (some ⟨g, 0, none⟩) L.length L.length) ∧ Below w.heap.size w w' ∧ w.heap.size ≤ g ∧ ShelfS w' (some ⟨g, 0, none⟩) L := by
  obtain ⟨C0, hsz, hmk⟩ := made (P := Tryz.prog) 53 103 _ _ _ Tryz.underlying53 infoShelf L.length (by omega) (by omega)
  have HZ := Lib.hid hsz
  clear hsz
  go_enter Tryz.func136, Tryz.ntmps136
  go_wp2
  go_loopw [4] (fun i wr => ∃ (k : Nat) (C : Array Value), k ≤ L.length ∧ i = .int .i64 k ∧ Blk wr w.heap.size 103 C ∧ C.size = L.length * 5 ∧ ShelfPut C L k ∧ Below w.heap.size w wr) (fun i _ => L.length - (intOf i).toNat)
  case atStart => exact ⟨0, C0, Nat.zero_le _, rfl, Blk.new _ _ _, HZ.out, fun j _ h => by omega, (Below.refl _ _).alloc (Nat.le_refl _) _⟩
  case round =>
    obtain ⟨k, C, hk, rfl, hblk, hcs, hput, hb⟩ := hrel
    have HC := Lib.hid hcs
    have HP := Lib.hid hput
    have HB := Lib.hid hblk
    clear hcs hput hblk
    by_cases hlt : k < L.length
    · obtain ⟨b, o, rfl, hB, c0, c1, c2, c3, c4⟩ := (hs.keep hb).at_ k hlt
      have hg : w.heap.size < wr.heap.size := HB.out.lt
      go_wp2_with fail
      refine (toShelf_any L[k] _).mono ?_
      rintro e w2 ⟨rfl, hb2⟩
      have hbl := HB.out.below hb2 hg
      have hCs := HC.out
      obtain ⟨v0, d0⟩ := hbl.in_ (k * 5) (by omega)
      obtain ⟨v1, d1⟩ := hbl.in_ (k * 5 + 1) (by omega)
      obtain ⟨v2, d2⟩ := hbl.in_ (k * 5 + 2) (by omega)
      obtain ⟨v3, d3⟩ := hbl.in_ (k * 5 + 3) (by omega)
      obtain ⟨v4, d4⟩ := hbl.in_ (k * 5 + 4) (by omega)
      have f := fun i => hbl.frozen i
      clear hCs
      have HB2 := Lib.hid hbl
      clear hbl
      go_wp2
      go_roundw
      case rel => exact ⟨k + 1, _, by omega, by go_num, ((((HB2.out.set_ _ _).set_ _ _).set_ _ _).set_ _ _).set_ _ _, by simp [HC.out], ShelfPut.step hlt HC.out HP.out, (((((hb.andThen hb2).setCell (Nat.le_refl _) _).setCell (Nat.le_refl _) _).setCell (Nat.le_refl _) _).setCell (Nat.le_refl _) _).setCell (Nat.le_refl _) _⟩
      case measure => simp [intOf]; omega
    · go_wp2
      go_ret
      exact ⟨_, rfl, hb, Nat.le_refl _, ShelfPut.at_ HB.out (by rw [show k = L.length by omega] at HP; exact HP.out)⟩
set_option maxHeartbeats 400000 in
theorem eqShelf_any (x : ShelfM) (w : World) :
    Calls Tryz.prog 189 #[.agg #[.int .i64 x.floor, .bool x.on, .int .i64 x.v, .int .i64 x.w, .int .i64 x.sum], .agg #[.int .i64 x.floor, .bool x.on, .int .i64 x.v, .int .i64 x.w, .int .i64 x.sum]] w fun e w' => e = .returned (.bool true) ∧ Below w.heap.size w w' := by
  go_enter Tryz.func189, Tryz.ntmps189
  go_wp2
  go_ret
  exact ⟨rfl, ((Below.refl _ _).alloc (Nat.le_refl _) _).alloc (by simp) _⟩
set_option maxRecDepth 100000 in
set_option maxHeartbeats 400000 in
theorem eqShelfS_any (A B : Option Addr) (cap cap' : Nat) (L : List ShelfM) (w : World) (hl : L.length ≤ 1048576) (hs : ShelfS w A L) (ht : ShelfS w B L) :
    Calls Tryz.prog 157 #[.slice A L.length cap, .slice B L.length cap'] w fun e w' => e = .returned (.bool true) ∧ Below w.heap.size w w' := by
  go_enter Tryz.func157, Tryz.ntmps157
  go_wp2
  go_loopw [4, 5] (fun r i wr => ∃ k : Nat, k ≤ L.length ∧ i = .int .i64 k ∧ r = .bool false ∧ Below w.heap.size w wr) (fun _ i _ => L.length - (intOf i).toNat)
  case atStart => exact ⟨0, Nat.zero_le _, rfl, rfl, Below.refl _ _⟩
  case round =>
    obtain ⟨k, hk, rfl, rfl, hb⟩ := hrel
    by_cases hlt : k < L.length
    · obtain ⟨b, o, rfl, hB, c0, c1, c2, c3, c4⟩ := (hs.keep hb).at_ k hlt
      obtain ⟨b', o', rfl, hB', c0', c1', c2', c3', c4'⟩ := (ht.keep hb).at_ k hlt
      go_wp2_with fail
      go_still_tail 8, (by kernel_rfl)
      change wpList _ _ _ _ _ wr.drew
      have hb1 := hb.drew
      generalize wr.drew = w2 at *
      go_wp2_with (go_at_call 189; refine (eqShelf_any L[k] _).mono ?_; rintro e w3 ⟨rfl, hb3⟩)
      go_roundw
      case rel => exact ⟨k + 1, by omega, by go_num, rfl, hb1.andThen hb3⟩
      case measure => simp [intOf]; omega
    · go_wp2
      go_ret
      exact ⟨rfl, hb⟩
theorem infoIntS : (Tryz.prog.info? 3).map (fun i => (i.zero, i.size, i.bytes)) = some (some (.int .i64 0), 1, 8) := by kernel_rfl
def IntSPut (C : Array Value) (L : List Int) (k : Nat) : Prop := ∀ j (h : j < L.length), j < k → C[j]? = some (.int .i64 L[j])
theorem IntSPut.step {C : Array Value} {L : List Int} {k : Nat} (hlt : k < L.length) (hC : C.size = L.length) (h : IntSPut C L k) :
    IntSPut (C.setIfInBounds k (.int .i64 L[k])) L (k + 1) := by
  intro j hj hjk
  by_cases e : j = k
  · subst e
    rw [Array.getElem?_setIfInBounds, if_pos rfl, if_pos (by omega)]
  · have h0 := h j hj (by omega)
    rw [Array.getElem?_setIfInBounds, if_neg (by omega)]
    exact h0
theorem IntSPut.at_ {w : World} {g : Nat} {C : Array Value} {L : List Int} {t : TypeId} (hb : Blk w g t C) (h : IntSPut C L L.length) : IntS w (some ⟨g, 0, none⟩) L := ⟨fun k hk => by
  have h0 := h k hk hk
  refine ⟨g, 0, rfl, hb.lt, ?_⟩
  rw [hb.cell]; simp only [Nat.zero_add]; assumption⟩
set_option maxHeartbeats 400000 in
theorem toIntS_any (A : Option Addr) (cap : Nat) (L : List Int) (w : World) (hl : L.length ≤ 1048576) (hs : IntS w A L) :
    Calls Tryz.prog 175 #[.slice A L.length cap] w fun e w' => ∃ g, e = .returned (.slice (some ⟨g, 0, none⟩) L.length L.length) ∧ Below w.heap.size w w' ∧ w.heap.size ≤ g ∧ IntS w' (some ⟨g, 0, none⟩) L := by
  obtain ⟨C0, hsz, hmk⟩ := made (P := Tryz.prog) 46 3 _ _ _ Tryz.underlying46 infoIntS L.length (by omega) (by omega)
  have HZ := Lib.hid hsz
  clear hsz
  go_enter Tryz.func175, Tryz.ntmps175
  go_wp2
  go_loopw [4] (fun i wr => ∃ (k : Nat) (C : Array Value), k ≤ L.length ∧ i = .int .i64 k ∧ Blk wr w.heap.size 3 C ∧ C.size = L.length ∧ IntSPut C L k ∧ Below w.heap.size w wr) (fun i _ => L.length - (intOf i).toNat)
  case atStart => exact ⟨0, C0, Nat.zero_le _, rfl, Blk.new _ _ _, by simpa using HZ.out, fun j _ h => by omega, (Below.refl _ _).alloc (Nat.le_refl _) _⟩
  case round =>
    obtain ⟨k, C, hk, rfl, hblk, hcs, hput, hb⟩ := hrel
    have HC := Lib.hid hcs
    have HP := Lib.hid hput
    by_cases hlt : k < L.length
    · obtain ⟨b, o, rfl, hB, c0⟩ := (hs.keep hb).at_ k hlt
      have hg : w.heap.size < wr.heap.size := hblk.lt
      obtain ⟨v0, d0⟩ := hblk.in_ k (by omega)
      have f := fun i => hblk.frozen i
      have HB := Lib.hid hblk
      clear hcs hput hblk
      go_wp2
      go_roundw
      case rel => exact ⟨k + 1, _, by omega, by go_num, HB.out.set_ _ _, by simp [HC.out], IntSPut.step hlt HC.out HP.out, hb.setCell (Nat.le_refl _) _⟩
      case measure => simp [intOf]; omega
    · go_wp2
      go_ret
      exact ⟨_, rfl, hb, Nat.le_refl _, IntSPut.at_ hblk (by rw [show k = L.length by omega] at HP; exact HP.out)⟩
set_option maxRecDepth 100000 in
set_option maxHeartbeats 400000 in
theorem eqIntS_any (A B : Option Addr) (cap cap' : Nat) (L : List Int) (w : World) (hl : L.length ≤ 1048576) (hs : IntS w A L) (ht : IntS w B L) :
    Calls Tryz.prog 187 #[.slice A L.length cap, .slice B L.length cap'] w fun e w' => e = .returned (.bool true) ∧ Below w.heap.size w w' := by
  go_enter Tryz.func187, Tryz.ntmps187
  go_wp2
  go_loopw [4, 5] (fun r i wr => ∃ k : Nat, k ≤ L.length ∧ i = .int .i64 k ∧ r = .bool false ∧ Below w.heap.size w wr) (fun _ i _ => L.length - (intOf i).toNat)
  case atStart => exact ⟨0, Nat.zero_le _, rfl, rfl, Below.refl _ _⟩
  case round =>
    obtain ⟨k, hk, rfl, rfl, hb⟩ := hrel
    by_cases hlt : k < L.length
    · obtain ⟨b, o, rfl, hB, c0⟩ := (hs.keep hb).at_ k hlt
      obtain ⟨b', o', rfl, hB', c0'⟩ := (ht.keep hb).at_ k hlt
      go_wp2_with fail
      go_quiet (fail)
      go_wp2
      go_roundw
      case rel => exact ⟨k + 1, by omega, by go_num, rfl, hb.drewN _⟩
      case measure => simp [intOf]; omega
    · go_wp2
      go_ret
      exact ⟨rfl, hb⟩
theorem infoBoolS : (Tryz.prog.info? 4).map (fun i => (i.zero, i.size, i.bytes)) = some (some (.bool false), 1, 1) := by kernel_rfl
def BoolSPut (C : Array Value) (L : List Bool) (k : Nat) : Prop := ∀ j (h : j < L.length), j < k → C[j]? = some (.bool L[j])
theorem BoolSPut.step {C : Array Value} {L : List Bool} {k : Nat} (hlt : k < L.length) (hC : C.size = L.length) (h : BoolSPut C L k) :
    BoolSPut (C.setIfInBounds k (.bool L[k])) L (k + 1) := by
  intro j hj hjk
  by_cases e : j = k
  · subst e
    rw [Array.getElem?_setIfInBounds, if_pos rfl, if_pos (by omega)]
  · have h0 := h j hj (by omega)
    rw [Array.getElem?_setIfInBounds, if_neg (by omega)]
    exact h0
theorem BoolSPut.at_ {w : World} {g : Nat} {C : Array Value} {L : List Bool} {t : TypeId} (hb : Blk w g t C) (h : BoolSPut C L L.length) : BoolS w (some ⟨g, 0, none⟩) L := ⟨fun k hk => by
  have h0 := h k hk hk
  refine ⟨g, 0, rfl, hb.lt, ?_⟩
  rw [hb.cell]; simp only [Nat.zero_add]; assumption⟩
set_option maxHeartbeats 400000 in
theorem toBoolS_any (A : Option Addr) (cap : Nat) (L : List Bool) (w : World) (hl : L.length ≤ 1048576) (hs : BoolS w A L) :
    Calls Tryz.prog 176 #[.slice A L.length cap] w fun e w' => ∃ g, e = .returned (.slice (some ⟨g, 0, none⟩) L.length L.length) ∧ Below w.heap.size w w' ∧ w.heap.size ≤ g ∧ BoolS w' (some ⟨g, 0, none⟩) L := by
  obtain ⟨C0, hsz, hmk⟩ := made (P := Tryz.prog) 50 4 _ _ _ Tryz.underlying50 infoBoolS L.length (by omega) (by omega)
  have HZ := Lib.hid hsz
  clear hsz
  go_enter Tryz.func176, Tryz.ntmps176
  go_wp2
  go_loopw [4] (fun i wr => ∃ (k : Nat) (C : Array Value), k ≤ L.length ∧ i = .int .i64 k ∧ Blk wr w.heap.size 4 C ∧ C.size = L.length ∧ BoolSPut C L k ∧ Below w.heap.size w wr) (fun i _ => L.length - (intOf i).toNat)
  case atStart => exact ⟨0, C0, Nat.zero_le _, rfl, Blk.new _ _ _, by simpa using HZ.out, fun j _ h => by omega, (Below.refl _ _).alloc (Nat.le_refl _) _⟩
  case round =>
    obtain ⟨k, C, hk, rfl, hblk, hcs, hput, hb⟩ := hrel
    have HC := Lib.hid hcs
    have HP := Lib.hid hput
    by_cases hlt : k < L.length
    · obtain ⟨b, o, rfl, hB, c0⟩ := (hs.keep hb).at_ k hlt
      have hg : w.heap.size < wr.heap.size := hblk.lt
      obtain ⟨v0, d0⟩ := hblk.in_ k (by omega)
      have f := fun i => hblk.frozen i
      have HB := Lib.hid hblk
      clear hcs hput hblk
      go_wp2
      go_roundw
      case rel => exact ⟨k + 1, _, by omega, by go_num, HB.out.set_ _ _, by simp [HC.out], BoolSPut.step hlt HC.out HP.out, hb.setCell (Nat.le_refl _) _⟩
      case measure => simp [intOf]; omega
    · go_wp2
      go_ret
      exact ⟨_, rfl, hb, Nat.le_refl _, BoolSPut.at_ hblk (by rw [show k = L.length by omega] at HP; exact HP.out)⟩
set_option maxRecDepth 100000 in
set_option maxHeartbeats 400000 in
theorem eqBoolS_any (A B : Option Addr) (cap cap' : Nat) (L : List Bool) (w : World) (hl : L.length ≤ 1048576) (hs : BoolS w A L) (ht : BoolS w B L) :
    Calls Tryz.prog 188 #[.slice A L.length cap, .slice B L.length cap'] w fun e w' => e = .returned (.bool true) ∧ Below w.heap.size w w' := by
  go_enter Tryz.func188, Tryz.ntmps188
  go_wp2
  go_loopw [4, 5] (fun r i wr => ∃ k : Nat, k ≤ L.length ∧ i = .int .i64 k ∧ r = .bool false ∧ Below w.heap.size w wr) (fun _ i _ => L.length - (intOf i).toNat)
  case atStart => exact ⟨0, Nat.zero_le _, rfl, rfl, Below.refl _ _⟩
  case round =>
    obtain ⟨k, hk, rfl, rfl, hb⟩ := hrel
    by_cases hlt : k < L.length
    · obtain ⟨b, o, rfl, hB, c0⟩ := (hs.keep hb).at_ k hlt
      obtain ⟨b', o', rfl, hB', c0'⟩ := (ht.keep hb).at_ k hlt
      go_wp2_with fail
      go_quiet (fail)
      go_wp2
      go_roundw
      case rel => exact ⟨k + 1, by omega, by go_num, rfl, hb.drewN _⟩
      case measure => simp [intOf]; omega
    · go_wp2
      go_ret
      exact ⟨rfl, hb⟩
end Go.Proofs.YtknfpigaognklaaGreatDoor
