/- The laws' own helpers: sizes, copies, comparison of slices of charges. -/
import Derived.Test.YtebehddkplmhiaaAudW
import Derived.StillTailTactics
namespace Go.Proofs.Ytebehddkplmhiaa
open Go.RowKit
/-- what is left of the size -/
def szN (n : Nat) : Int := if n ≤ 1048576 then 1048576 - n else -1
set_option maxHeartbeats 400000 in
theorem szChargeS_any (A : Option Addr) (n cap : Nat) (w : World) (hl : n ≤ 9223372036854775807) :
    Calls Try.prog 7 #[.slice A n cap, .int .i64 1048576] w fun e w' => e = .returned (.int .i64 (szN n)) ∧ w = w' := by
  go_enter Try.func7, Try.ntmps7
  go_wp2
  · have : 1048576 - (n : Int) < 0 := by assumption
    go_ret
    exact ⟨ret_int (by rw [szN, if_neg (by omega)]), rfl⟩
  · have : 0 ≤ 1048576 - (n : Int) := by assumption
    go_ret
    exact ⟨ret_int (by rw [szN, if_pos (by omega)]), rfl⟩
set_option maxHeartbeats 400000 in
theorem toCharge_any (x : Ch) (w : World) :
    Calls Try.prog 19 #[.agg #[.int .i64 x.n, .int .i64 x.c, .int .i64 x.t, .int .i64 x.i, .int .i64 x.k]] w fun e w' => e = .returned (.agg #[.int .i64 x.n, .int .i64 x.c, .int .i64 x.t, .int .i64 x.i, .int .i64 x.k]) ∧ Below w.heap.size w w' := by
  go_enter Try.func19, Try.ntmps19
  go_wp2
  exact bodyPost_ret (v := .agg #[.int .i64 x.n, .int .i64 x.c, .int .i64 x.t, .int .i64 x.i, .int .i64 x.k]) (by simp [results, Try.results19, go_sem]) rfl ⟨rfl, (((Below.refl _ _).alloc (Nat.le_refl _) _).alloc (by simp) _).alloc (by simp; omega) _⟩
theorem infoCh : (Try.prog.info? 33).map (fun i => (i.zero, i.size, i.bytes)) = some (some (.agg #[.int .i64 0, .int .i64 0, .int .i64 0, .int .i64 0, .int .i64 0]), 5, 40) := by kernel_rfl
def ChPut (C : Array Value) (L : List Ch) (k : Nat) : Prop := ∀ j (h : j < L.length), j < k → C[j * 5]? = some (.int .i64 L[j].n) ∧ C[j * 5 + 1]? = some (.int .i64 L[j].c) ∧ C[j * 5 + 2]? = some (.int .i64 L[j].t) ∧ C[j * 5 + 3]? = some (.int .i64 L[j].i) ∧ C[j * 5 + 4]? = some (.int .i64 L[j].k)
theorem chPut_step {C : Array Value} {L : List Ch} {k : Nat} (hlt : k < L.length) (hC : C.size = L.length * 5) (h : ChPut C L k) :
    ChPut (((((C.setIfInBounds (k * 5) (.int .i64 L[k].n)).setIfInBounds (k * 5 + 1) (.int .i64 L[k].c)).setIfInBounds (k * 5 + 2) (.int .i64 L[k].t)).setIfInBounds (k * 5 + 3) (.int .i64 L[k].i)).setIfInBounds (k * 5 + 4) (.int .i64 L[k].k)) L (k + 1) := by
  intro j hj hjk
  by_cases e : j = k
  · subst e
    refine ⟨?_, ?_, ?_, ?_, ?_⟩ <;> simp [Array.getElem?_setIfInBounds, hC] <;> omega
  · obtain ⟨h0, h1, h2, h3, h4⟩ := h j hj (by omega)
    refine ⟨?_, ?_, ?_, ?_, ?_⟩ <;> simp only [Array.getElem?_setIfInBounds] <;> repeat (rw [if_neg (by omega)])
    all_goals assumption
theorem chs_of_put {w : World} {g : Nat} {C : Array Value} {L : List Ch} {t : TypeId} (hb : Blk w g t C) (h : ChPut C L L.length) : ChS w (some ⟨g, 0, none⟩) L := ⟨fun k hk => by
  obtain ⟨h0, h1, h2, h3, h4⟩ := h k hk hk
  refine ⟨g, 0, rfl, hb.lt, ?_, ?_, ?_, ?_, ?_⟩ <;> (rw [hb.cell]; simp only [Nat.zero_add]; assumption)⟩
set_option maxHeartbeats 400000 in
theorem toChargeS_any (A : Option Addr) (cap : Nat) (L : List Ch) (w : World) (hl : L.length ≤ 1048576) (hs : ChS w A L) :
    Calls Try.prog 9 #[.slice A L.length cap] w fun e w' => ∃ g, e = .returned (.slice (some ⟨g, 0, none⟩) L.length L.length) ∧ Below w.heap.size w w' ∧ w.heap.size ≤ g ∧ ChS w' (some ⟨g, 0, none⟩) L := by
  obtain ⟨C0, hsz, hmk⟩ := made (P := Try.prog) 25 33 _ _ _ Try.underlying25 infoCh L.length (by omega) (by omega)
  have HZ := Lib.hid hsz
  clear hsz
  go_enter Try.func9, Try.ntmps9
  go_wp2
  go_loopw [4] (fun i wr => ∃ (k : Nat) (C : Array Value), k ≤ L.length ∧ i = .int .i64 k ∧ Blk wr w.heap.size 33 C ∧ C.size = L.length * 5 ∧ ChPut C L k ∧ Below w.heap.size w wr) (fun i _ => L.length - (intOf i).toNat)
  case atStart => exact ⟨0, C0, Nat.zero_le _, rfl, Blk.new _ _ _, HZ.out, fun j _ h => by omega, (Below.refl _ _).alloc (Nat.le_refl _) _⟩
  case round =>
    obtain ⟨k, C, hk, rfl, hblk, hcs, hput, hb⟩ := hrel
    have HC := Lib.hid hcs
    have HP := Lib.hid hput
    have HB := Lib.hid hblk
    clear hcs hput hblk
    by_cases hlt : k < L.length
    · obtain ⟨b, o, rfl, hB, c0, c1, c2, c3, c4⟩ := (hs.below hb).at_ k hlt
      have hg : w.heap.size < wr.heap.size := HB.out.lt
      go_wp2_with fail
      refine (toCharge_any L[k] _).mono ?_
      rintro e w2 ⟨rfl, hb2⟩
      have hbl := HB.out.below hb2 hg
      have hCs := HC.out
      obtain ⟨v0, d0⟩ := hbl.in_ (k * 5) (by omega)
      obtain ⟨v1, d1⟩ := hbl.in_ (k * 5 + 1) (by omega)
      obtain ⟨v2, d2⟩ := hbl.in_ (k * 5 + 2) (by omega)
      obtain ⟨v3, d3⟩ := hbl.in_ (k * 5 + 3) (by omega)
      obtain ⟨v4, d4⟩ := hbl.in_ (k * 5 + 4) (by omega)
      have f := fun i => hbl.frozen i
      clear hCs
      have HB2 := Lib.hid hbl
      clear hbl
      go_wp2
      go_roundw
      case rel => exact ⟨k + 1, _, by omega, by go_num, ((((HB2.out.set_ _ _).set_ _ _).set_ _ _).set_ _ _).set_ _ _, by simp [HC.out], chPut_step hlt HC.out HP.out, (((((hb.andThen hb2).setCell (Nat.le_refl _) _).setCell (Nat.le_refl _) _).setCell (Nat.le_refl _) _).setCell (Nat.le_refl _) _).setCell (Nat.le_refl _) _⟩
      case measure => simp [intOf]; omega
    · go_wp2
      go_ret
      exact ⟨_, rfl, hb, Nat.le_refl _, chs_of_put HB.out (by rw [show k = L.length by omega] at HP; exact HP.out)⟩
set_option maxHeartbeats 400000 in
theorem eqCharge_any (x : Ch) (w : World) :
    Calls Try.prog 22 #[.agg #[.int .i64 x.n, .int .i64 x.c, .int .i64 x.t, .int .i64 x.i, .int .i64 x.k], .agg #[.int .i64 x.n, .int .i64 x.c, .int .i64 x.t, .int .i64 x.i, .int .i64 x.k]] w fun e w' => e = .returned (.bool true) ∧ Below w.heap.size w w' := by
  go_enter Try.func22, Try.ntmps22
  go_wp2
  go_ret
  exact ⟨rfl, ((Below.refl _ _).alloc (Nat.le_refl _) _).alloc (by simp) _⟩
set_option maxHeartbeats 400000 in
theorem eqChargeS_any (A B : Option Addr) (cap cap' : Nat) (L : List Ch) (w : World) (hl : L.length ≤ 1048576) (hs : ChS w A L) (ht : ChS w B L) :
    Calls Try.prog 11 #[.slice A L.length cap, .slice B L.length cap'] w fun e w' => e = .returned (.bool true) ∧ Below w.heap.size w w' := by
  go_enter Try.func11, Try.ntmps11
  go_wp2
  go_loopw [4, 5] (fun r i wr => ∃ k : Nat, k ≤ L.length ∧ i = .int .i64 k ∧ r = .bool false ∧ Below w.heap.size w wr) (fun _ i _ => L.length - (intOf i).toNat)
  case atStart => exact ⟨0, Nat.zero_le _, rfl, rfl, Below.refl _ _⟩
  case round =>
    obtain ⟨k, hk, rfl, rfl, hb⟩ := hrel
    by_cases hlt : k < L.length
    · obtain ⟨b, o, rfl, hB, c0, c1, c2, c3, c4⟩ := (hs.below hb).at_ k hlt
      obtain ⟨b', o', rfl, hB', c0', c1', c2', c3', c4'⟩ := (ht.below hb).at_ k hlt
      go_wp2_with fail
      go_still_tail 8, (by kernel_rfl)
      change wpList _ _ _ _ _ wr.drew
      have hb1 := hb.drew
      generalize wr.drew = w2 at *
      go_wp2_with (go_at_call 22; refine (eqCharge_any L[k] _).mono ?_; rintro e w3 ⟨rfl, hb3⟩)
      go_roundw
      case rel => exact ⟨k + 1, by omega, by go_num, rfl, hb1.andThen hb3⟩
      case measure => simp [intOf]; omega
    · go_wp2
      go_ret
      exact ⟨rfl, hb⟩
end Go.Proofs.Ytebehddkplmhiaa
