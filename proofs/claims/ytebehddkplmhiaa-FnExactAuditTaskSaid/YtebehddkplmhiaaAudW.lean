/- The walks of the functions that audits reach: what each call returns, and that what was in memory stays. -/
import Derived.Test.YtebehddkplmhiaaBase
namespace Go.Proofs.Ytebehddkplmhiaa
open Go.RowKit
structure Ch where
  n : Int
  c : Int
  t : Int
  i : Int
  k : Int
def chOk (x : Ch) : Bool := inR x.n 0 100000000000000000 && inR x.c 0 3 && inR x.t 0 11 && inR x.i 0 255 && inR x.k 1 40000
/-- the cells of a slice of charges -/
structure ChS (w : World) (A : Option Addr) (L : List Ch) : Prop where
  at_ : ∀ k (h : k < L.length), ∃ b o, A = some ⟨b, o, none⟩ ∧ b < w.heap.size ∧ w.cell? ⟨b, o + k * 5, none⟩ = some (.int .i64 L[k].n) ∧ w.cell? ⟨b, o + k * 5 + 1, none⟩ = some (.int .i64 L[k].c) ∧ w.cell? ⟨b, o + k * 5 + 2, none⟩ = some (.int .i64 L[k].t) ∧ w.cell? ⟨b, o + k * 5 + 3, none⟩ = some (.int .i64 L[k].i) ∧ w.cell? ⟨b, o + k * 5 + 4, none⟩ = some (.int .i64 L[k].k)
theorem ChS.below {w w' : World} {A : Option Addr} {L : List Ch} (h : ChS w A L) (hb : Below w.heap.size w w') : ChS w' A L := ⟨fun k hk => by
  obtain ⟨b, o, e, h0, h1, h2, h3, h4, h5⟩ := h.at_ k hk
  exact ⟨b, o, e, Nat.lt_of_lt_of_le h0 hb.size, (hb.cell h0).trans h1, (hb.cell h0).trans h2, (hb.cell h0).trans h3, (hb.cell h0).trans h4, (hb.cell h0).trans h5⟩⟩

set_option maxHeartbeats 400000 in
theorem l1In_any (n a b : Int) (w : World) :
    Calls Try.prog 24 #[.int .i64 n, .int .i64 a, .int .i64 b] w fun e w' => e = .returned (.bool (inR n a b)) ∧ w = w' := by
  go_enter Try.func24, Try.ntmps24
  go_wp2
  all_goals go_ret
  all_goals exact ⟨ret_bool (by simp [inR]; try omega), rfl⟩
set_option maxHeartbeats 400000 in
theorem inRange_any (n a b : Int) (w : World) :
    Calls Try.prog 25 #[.int .i64 n, .int .i64 a, .int .i64 b] w fun e w' => e = .returned (.bool (inR n a b)) ∧ w = w' := by
  go_enter Try.func25, Try.ntmps25
  go_wp2
  all_goals go_ret
  all_goals exact ⟨ret_bool (by simp [inR]; try omega), rfl⟩
set_option maxHeartbeats 400000 in
theorem l4Time_any (n : Int) (w : World) :
    Calls Try.prog 31 #[.int .i64 n] w fun e w' => e = .returned (.bool (inR n 0 100000000000000000)) ∧ w = w' := by
  go_enter Try.func31, Try.ntmps31
  go_wp2_with (go_at_call 24; refine (l1In_any _ _ _ _).mono ?_; rintro e w' ⟨rfl, rfl⟩)
  go_ret
  exact ⟨rfl, rfl⟩
set_option maxHeartbeats 400000 in
theorem l17Ok_any (x : Ch) (w : World) :
    Calls Try.prog 29 #[.agg #[.int .i64 x.n, .int .i64 x.c, .int .i64 x.t, .int .i64 x.i, .int .i64 x.k]] w fun e w' => e = .returned (.bool (chOk x)) ∧ Below w.heap.size w w' := by
  go_enter Try.func29, Try.ntmps29
  go_wp2_with (first | (go_at_call 31; refine (l4Time_any _ _).mono ?_; rintro e w' ⟨rfl, rfl⟩) | (go_at_call 24; refine (l1In_any _ _ _ _).mono ?_; rintro e w' ⟨rfl, rfl⟩))
  all_goals go_ret
  all_goals exact ⟨ret_bool (by simp [chOk, *]), (Below.refl _ _).alloc (Nat.le_refl _) _⟩
set_option maxHeartbeats 400000 in
theorem l17All_any (A : Option Addr) (cap : Nat) (L : List Ch) (w : World) (hl : L.length ≤ 9223372036854775807) (hs : ChS w A L) :
    Calls Try.prog 18 #[.slice A L.length cap] w fun e w' => e = .returned (.bool (decide (L.length ≤ 40000) && L.all chOk)) ∧ Below w.heap.size w w' := by
  go_enter Try.func18, Try.ntmps18
  go_wp2
  · go_ret
    exact ⟨ret_bool (by simp; omega), Below.refl _ _⟩
  · have h4 : L.length ≤ 40000 := by have : (L.length : Int) ≤ 40000 := by assumption
                                     omega
    go_loopw [2,3] (fun r i wr => ∃ k : Nat, k ≤ L.length ∧ i = .int .i64 k ∧ r = .bool false ∧ (L.take k).all chOk = true ∧ Below w.heap.size w wr) (fun _ i _ => L.length - (intOf i).toNat)
    case atStart => exact ⟨0, Nat.zero_le _, rfl, rfl, by simp, Below.refl _ _⟩
    case round =>
      obtain ⟨k, hk, rfl, rfl, hall, hb⟩ := hrel
      have H := Lib.hid hall
      clear hall
      by_cases hlt : k < L.length
      · obtain ⟨b, o, rfl, hB, c0, c1, c2, c3, c4⟩ := (hs.below hb).at_ k hlt
        go_wp2_with (go_at_call 29; refine (l17Ok_any _ _).mono ?_; rintro e w' ⟨rfl, hb1⟩)
        · have hf : (!chOk L[k]) = true := by assumption
          go_ret
          refine ⟨ret_bool ?_, hb.trans (hb1.mono hb.size)⟩
          rw [all_not hlt (by simpa using hf)]; simp
        · have hf : (!chOk L[k]) = false := by assumption
          go_roundw
          case rel => exact ⟨k + 1, by omega, by go_num, rfl, all_snoc hlt H.out (by simpa using hf), hb.trans (hb1.mono hb.size)⟩
          case measure => simp [intOf]; omega
      · go_wp2
        go_ret
        refine ⟨ret_bool ?_, hb⟩
        rw [List.take_of_length_le (by omega)] at H
        simp [H.out, h4]
/-- the cells of a slice of numbers -/
structure IntS (w : World) (A : Option Addr) (L : List Int) : Prop where
  at_ : ∀ k (h : k < L.length), ∃ b o, A = some ⟨b, o, none⟩ ∧ b < w.heap.size ∧ w.cell? ⟨b, o + k, none⟩ = some (.int .i64 L[k])
theorem IntS.one (w : World) (a : Int) (t : TypeId) : IntS (w.alloc (.cells #[.int .i64 a] t)) (some ⟨w.heap.size, 0, none⟩) [a] := ⟨fun k hk => by
  obtain rfl : k = 0 := by simpa using hk
  exact ⟨_, _, rfl, by simp, by simp [World.cell?_alloc_at]⟩⟩
set_option maxHeartbeats 400000 in
theorem timeOk_any (A : Option Addr) (n c : Nat) (L : List Int) (w : World) (hn : n = L.length) (hl : n ≤ 9223372036854775807) (hs : IntS w A L) :
    Calls Try.prog 32 #[.slice A n c] w fun e w' => e = .returned (.bool (L.all fun n => inR n 0 100000000000000000)) ∧ w = w' := by
  have HN := Lib.hid hn
  clear hn
  go_enter Try.func32, Try.ntmps32
  go_wp2
  go_loop [2, 4, 7] (fun r t i => ∃ k : Nat, k ≤ n ∧ i = .int .i64 k ∧ r = .bool false ∧ (L.take k).all (fun n => inR n 0 100000000000000000) = true) (fun _ _ i => n - (intOf i).toNat)
  case atStart => exact ⟨0, by omega, rfl, rfl, by simp⟩
  case round =>
    obtain ⟨k, hk, rfl, rfl, hall⟩ := hrel
    have H := Lib.hid hall
    clear hall
    by_cases hlt : k < n
    · have hlt' : k < L.length := by rw [← HN.out]; exact hlt
      obtain ⟨b, o, rfl, hB, c0⟩ := hs.at_ k hlt'
      go_wp2_with (go_at_call 25; refine (inRange_any _ _ _ _).mono ?_; rintro e w' ⟨rfl, rfl⟩)
      · have hf : (!inR L[k] 0 100000000000000000) = true := by assumption
        go_ret
        exact ⟨ret_bool (all_not hlt' (by simpa using hf)).symm, rfl⟩
      · have hf : (!inR L[k] 0 100000000000000000) = false := by assumption
        go_round
        case rel => exact ⟨k + 1, by omega, by go_num, rfl, all_snoc hlt' H.out (by simpa using hf)⟩
        case measure => simp [intOf]; omega
    · go_wp2
      go_ret
      have := HN.out
      rw [List.take_of_length_le (by omega)] at H
      exact ⟨ret_bool H.out.symm, rfl⟩
theorem timeOk1 (a : Int) (g : Nat) (w : World) (hg : g < w.heap.size) (hc : w.cell? ⟨g, 0, none⟩ = some (.int .i64 a)) :
    Calls Try.prog 32 #[.slice (some ⟨g, 0, none⟩) 1 1] w fun e w' => e = .returned (.bool (inR a 0 100000000000000000)) ∧ w = w' :=
  (timeOk_any _ 1 1 [a] _ rfl (by omega) ⟨fun k hk => by
    obtain rfl : k = 0 := by simpa using hk
    exact ⟨_, _, rfl, hg, by simpa using hc⟩⟩).mono fun e w' ⟨h1, h2⟩ => ⟨by rw [h1]; simp, h2⟩
set_option maxHeartbeats 400000 in
theorem chargeOk_any (x : Ch) (w : World) :
    Calls Try.prog 30 #[.agg #[.int .i64 x.n, .int .i64 x.c, .int .i64 x.t, .int .i64 x.i, .int .i64 x.k]] w fun e w' => e = .returned (.bool (chOk x)) ∧ Below w.heap.size w w' := by
  go_enter Try.func30, Try.ntmps30
  go_wp2_with (first | (go_at_call 32; refine (timeOk1 x.n _ _ (by simp) (by simp [World.cell?_alloc_at])).mono ?_; rintro e w' ⟨rfl, rfl⟩) | (go_at_call 25; refine (inRange_any _ _ _ _).mono ?_; rintro e w' ⟨rfl, rfl⟩))
  all_goals go_ret
  all_goals exact ⟨ret_bool (by simp [chOk, *]), ((Below.refl _ _).alloc (Nat.le_refl _) _).alloc (by simp) _⟩
set_option maxHeartbeats 400000 in
theorem recordOk_any (A : Option Addr) (cap : Nat) (L : List Ch) (w : World) (hl : L.length ≤ 9223372036854775807) (hs : ChS w A L) :
    Calls Try.prog 28 #[.slice A L.length cap] w fun e w' => e = .returned (.bool (decide (L.length ≤ 40000) && L.all chOk)) ∧ Below w.heap.size w w' := by
  go_enter Try.func28, Try.ntmps28
  go_wp2
  · go_ret
    exact ⟨ret_bool (by simp; omega), Below.refl _ _⟩
  · have h4 : L.length ≤ 40000 := by have : (L.length : Int) ≤ 40000 := by assumption
                                     omega
    go_loopw [2, 4, 10] (fun r t i wr => ∃ k : Nat, k ≤ L.length ∧ i = .int .i64 k ∧ r = .bool false ∧ (L.take k).all chOk = true ∧ Below w.heap.size w wr) (fun _ _ i _ => L.length - (intOf i).toNat)
    case atStart => exact ⟨0, Nat.zero_le _, rfl, rfl, by simp, Below.refl _ _⟩
    case round =>
      obtain ⟨k, hk, rfl, rfl, hall, hb⟩ := hrel
      have H := Lib.hid hall
      clear hall
      by_cases hlt : k < L.length
      · obtain ⟨b, o, rfl, hB, c0, c1, c2, c3, c4⟩ := (hs.below hb).at_ k hlt
        go_wp2_with (go_at_call 30; refine (chargeOk_any L[k] _).mono ?_; rintro e w' ⟨rfl, hb1⟩)
        · have hf : (!chOk L[k]) = true := by assumption
          go_ret
          refine ⟨ret_bool ?_, (hb.alloc hb.size _).andThen hb1⟩
          rw [all_not hlt (by simpa using hf)]; simp
        · have hf : (!chOk L[k]) = false := by assumption
          go_roundw
          case rel => exact ⟨k + 1, by omega, by go_num, rfl, all_snoc hlt H.out (by simpa using hf), (hb.alloc hb.size _).andThen hb1⟩
          case measure => simp [intOf]; omega
      · go_wp2
        go_ret
        refine ⟨ret_bool ?_, hb⟩
        rw [List.take_of_length_le (by omega)] at H
        simp [H.out, h4]
def auS (p : Ch → Bool) (L : List Ch) : Int := (L.map fun x => if p x then x.k else 0).sum
theorem auS_snoc (p : Ch → Bool) (L : List Ch) (x : Ch) : auS p (L ++ [x]) = auS p L + if p x then x.k else 0 := by
  unfold auS; rw [List.map_append, List.sum_append]; simp
theorem auS_bd (p : Ch → Bool) (L : List Ch) (h : L.all chOk = true) : 0 ≤ auS p L ∧ auS p L ≤ L.length * 40000 := by
  induction L with
  | nil => simp [auS]
  | cons x l ih =>
    rw [List.all_cons, Bool.and_eq_true] at h
    have h2 := ih h.2
    have hx : 1 ≤ x.k ∧ x.k ≤ 40000 := by
      have := h.1
      simp only [chOk, Bool.and_eq_true, inR_iff] at this
      exact this.2
    have e : auS p (x :: l) = (if p x then x.k else 0) + auS p l := by simp [auS]
    rw [e, List.length_cons]
    split <;> omega
def auN (p : Ch → Bool) (L : List Ch) : Int := if decide (L.length ≤ 40000) && L.all chOk then auS p L else 0
set_option maxHeartbeats 400000 in
theorem audit_any (F : FuncId) (cpd : Value) (p : Ch → Bool) (A : Option Addr) (cap : Nat) (L : List Ch) (w : World) (hl : L.length ≤ 9223372036854775807) (hs : ChS w A L)
    (hF : ∀ (args : Array Value) (u : World), (callFunc F args).run Try.prog u = .ok (.enter F args) u)
    (hf : ∀ (x : Ch) (wa : World), Below w.heap.size w wa → Calls Try.prog F #[.agg #[.int .i64 x.n, .int .i64 x.c, .int .i64 x.t, .int .i64 x.i, .int .i64 x.k], cpd] wa fun e wb => e = .returned (.bool (p x)) ∧ Below wa.heap.size wa wb) :
    Calls Try.prog 20 #[.slice A L.length cap, .func (.func F) #[] #[cpd]] w fun e w' => e = .returned (.int .i64 (auN p L)) ∧ Below w.heap.size w w' := by
  have HF := Lib.hid hf
  clear hf
  by_cases hok : (decide (L.length ≤ 40000) && L.all chOk) = true
  · have en : auN p L = auS p L := by rw [auN, if_pos hok]
    have EN := Lib.hid en
    clear en
    have hok' : L.length ≤ 40000 ∧ L.all chOk = true := by simpa using hok
    obtain ⟨h4, hall⟩ := hok'
    have HA := Lib.hid hall
    clear hall
    go_enter Try.func20, Try.ntmps20
    go_wp2_with (go_at_call 28; refine (recordOk_any _ _ L _ hl hs).mono ?_; rintro e w1 ⟨rfl, hb0⟩; rw [hok])
    go_loopw [5, 7, 13] (fun r t i wr => ∃ k : Nat, k ≤ L.length ∧ i = .int .i64 k ∧ r = .int .i64 (auS p (L.take k)) ∧ Below w.heap.size w wr) (fun _ _ i _ => L.length - (intOf i).toNat)
    case atStart => exact ⟨0, Nat.zero_le _, rfl, rfl, hb0⟩
    case round =>
      obtain ⟨k, hk, rfl, rfl, hb⟩ := hrel
      by_cases hlt : k < L.length
      · obtain ⟨b, o, rfl, hB, c0, c1, c2, c3, c4⟩ := (hs.below hb).at_ k hlt
        have hbd := auS_bd p (L.take k) (by rw [List.all_eq_true]; intro x hx; exact List.all_eq_true.1 HA.out x (List.mem_of_mem_take hx))
        rw [List.length_take_of_le hk] at hbd
        have hk1 : 1 ≤ L[k].k ∧ L[k].k ≤ 40000 := by
          have := List.all_eq_true.1 HA.out L[k] (List.getElem_mem _)
          simp only [chOk, Bool.and_eq_true, inR_iff] at this
          exact this.2
        have hsn := Lib.hid (auS_snoc p (L.take k) L[k])
        rw [← take_snoc hlt] at hsn
        go_wp2_with fail
        refine (HF.out L[k] _ (hb.alloc hb.size _)).mono ?_
        rintro e w2 ⟨rfl, hb2⟩
        have c5 : w2.cell? ⟨wr.heap.size, 4, none⟩ = some (.int .i64 L[k].k) := (hb2.cell (by simp)).trans (by simp [World.cell?_alloc_at])
        have hb3 := (hb.alloc hb.size _).andThen hb2
        clear hb2
        go_wp2
        · have hp : p L[k] = true := by assumption
          go_roundw
          case rel => exact ⟨k + 1, by omega, by go_num, by rw [hsn.out, hp]; rfl, hb3⟩
          case measure => simp [intOf]; omega
        · have hp : p L[k] = false := by assumption
          go_roundw
          case rel => exact ⟨k + 1, by omega, by go_num, by rw [hsn.out, hp]; simp, hb3⟩
          case measure => simp [intOf]; omega
      · go_wp2
        go_ret
        rw [List.take_of_length_le (by omega)]
        exact ⟨ret_int EN.out.symm, hb⟩
  · have en : auN p L = 0 := by rw [auN, if_neg hok]
    have EN := Lib.hid en
    clear en
    have hok' : (decide (L.length ≤ 40000) && L.all chOk) = false := by simpa using hok
    go_enter Try.func20, Try.ntmps20
    go_wp2_with (go_at_call 28; refine (recordOk_any _ _ L _ hl hs).mono ?_; rintro e w1 ⟨rfl, hb0⟩; rw [hok'])
    go_ret
    exact ⟨ret_int EN.out.symm, hb0⟩
end Go.Proofs.Ytebehddkplmhiaa
