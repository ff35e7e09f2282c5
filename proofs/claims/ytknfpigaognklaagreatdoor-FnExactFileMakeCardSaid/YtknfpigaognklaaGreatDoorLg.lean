/- The laws' own helpers over groups and worlds: sizes, copies, comparisons. -/
import Derived.Test.YtknfpigaognklaaGreatDoorLw
namespace Go.Proofs.YtknfpigaognklaaGreatDoor
open Go.RowKit
def SzPost (w : World) (left : Int) (F : Prop) (e : Ending) (w' : World) : Prop := ∃ r : Int, e = .returned (.int .i64 r) ∧ Below w.heap.size w w' ∧ -1 ≤ r ∧ r ≤ left ∧ (0 ≤ r → F)
def BFit (x : BandM) : Prop := x.locals.length ≤ 1048576 ∧ x.dry.length ≤ 1048576
def BMax (x : BandM) : Prop := x.locals.length ≤ 9223372036854775807 ∧ x.dry.length ≤ 9223372036854775807
def GFit (x : GroupM) : Prop := x.name.size ≤ 1048576 ∧ BFit x.band ∧ x.shelves.length ≤ 1048576
def GMax (x : GroupM) : Prop := x.name.size ≤ 9223372036854775807 ∧ BMax x.band ∧ x.shelves.length ≤ 9223372036854775807
def WMax (M : WorldM) : Prop := M.cpus.length ≤ 9223372036854775807 ∧ M.tasks.length ≤ 9223372036854775807 ∧ M.groups.length ≤ 9223372036854775807 ∧ ∀ k (h : k < M.groups.length), GMax M.groups[k]
def WFit (M : WorldM) : Prop := M.cpus.length ≤ 1048576 ∧ M.tasks.length ≤ 1048576 ∧ M.groups.length ≤ 1048576 ∧ ∀ k (h : k < M.groups.length), GFit M.groups[k]
set_option maxHeartbeats 400000 in
theorem szBand_any (x : BandM) (h : GH) (left : Int) (w : World) (hl : BMax x) (h0 : 0 ≤ left) (h1 : left ≤ 1048576) :
    Calls Tryz.prog 121 #[.agg #[.int .i64 x.quota, .int .i64 x.pool, .int .i64 x.spent, .slice h.la x.locals.length h.lc, .slice h.da x.dry.length h.dc], .int .i64 left] w (SzPost w left (BFit x)) := by
  have a1 := Lib.hid (szV_of (n := x.locals.length) h0)
  go_enter Tryz.func121, Tryz.ntmps121
  go_wp2_with fail
  refine (szIntS_any _ _ _ _ _ hl.1 h0 h1).mono ?_
  rintro e w1 ⟨rfl, rfl⟩
  by_cases hn : 0 ≤ szV x.locals.length left
  · have a2 := Lib.hid (szV_of (n := x.dry.length) hn)
    have hn2 : szV x.locals.length left ≤ 1048576 := by have := a1.out; omega
    go_wp2_with (go_at_call 170; refine (szBoolS_any _ _ _ _ _ hl.2 hn hn2).mono ?_; rintro e w1 ⟨rfl, rfl⟩)
    all_goals go_ret
    all_goals refine ⟨_, rfl, (Below.refl _ _).alloc (Nat.le_refl _) _, ?_, ?_, fun hr => ?_⟩
    all_goals have b1 := a1.out
    all_goals have b2 := a2.out
    all_goals first | omega | (simp at hr; done) | exact ⟨by omega, by omega⟩
  · have hn' : szV x.locals.length left < 0 := by omega
    go_wp2
    all_goals go_ret
    all_goals refine ⟨_, rfl, (Below.refl _ _).alloc (Nat.le_refl _) _, by omega, by omega, fun hr => by simp at hr⟩
set_option maxHeartbeats 400000 in
theorem szGroup_any (x : GroupM) (h : GH) (left : Int) (w : World) (hl : GMax x) (h0 : 0 ≤ left) (h1 : left ≤ 1048576) :
    Calls Tryz.prog 63 #[.agg #[.bool x.used, .int .i64 x.parent, .string x.name, .int .i64 x.weight, .int .i64 x.cpus, .int .i64 x.period, .int .i64 x.next, .int .i64 x.sum, .int .i64 x.band.quota, .int .i64 x.band.pool, .int .i64 x.band.spent, .slice h.la x.band.locals.length h.lc, .slice h.da x.band.dry.length h.dc, .slice h.sa x.shelves.length h.sc], .int .i64 left] w (SzPost w left (GFit x)) := by
  obtain ⟨hl1, hl2, hl3⟩ := hl
  by_cases hn : (x.name.size : Int) ≤ left
  · have hn' : 0 ≤ left - (x.name.size : Int) := by omega
    go_enter Tryz.func63, Tryz.ntmps63
    go_wp2_with fail
    refine (szBand_any x.band h _ _ hl2 hn' (by omega)).mono ?_
    rintro e w1 ⟨r, rfl, hb1, r1, r2, r3⟩
    by_cases hr : 0 ≤ r
    · have hF := r3 hr
      have a2 := Lib.hid (szV_of (n := x.shelves.length) hr)
      clear r3
      have c4 : w1.cell? ⟨w.heap.size, 13, none⟩ = some (.slice h.sa x.shelves.length h.sc) := (hb1.cell (by simp)).trans (by simp [World.cell?_alloc_at])
      go_wp2_with (go_at_call 122; refine (szShelfS_any _ _ _ _ _ hl3 hr (by omega)).mono ?_; rintro e w2 ⟨rfl, rfl⟩)
      all_goals go_ret
      all_goals refine ⟨_, rfl, ((Below.refl _ _).alloc (Nat.le_refl _) _).andThen hb1, ?_, ?_, fun hr => ?_⟩
      all_goals have b2 := a2.out
      all_goals first | omega | (simp at hr; done) | exact ⟨by omega, hF, by omega⟩
    · have hr' : r < 0 := by omega
      clear r3
      go_wp2
      all_goals go_ret
      all_goals refine ⟨_, rfl, ((Below.refl _ _).alloc (Nat.le_refl _) _).andThen hb1, by omega, by omega, fun hr => by simp at hr⟩
  · have hn' : left - (x.name.size : Int) < 0 := by omega
    go_enter Tryz.func63, Tryz.ntmps63
    go_wp2
    all_goals go_ret
    all_goals refine ⟨_, rfl, (Below.refl _ _).alloc (Nat.le_refl _) _, by omega, by omega, fun hr => by simp at hr⟩
set_option maxHeartbeats 1000000 in
theorem szGroupS_any (A : Option Addr) (cap : Nat) (H : Nat → GH) (L : List GroupM) (left : Int) (w : World) (hs : GroupS w A H L) (hl : L.length ≤ 9223372036854775807) (hg : ∀ k (h : k < L.length), GMax L[k]) (h0 : 0 ≤ left) (h1 : left ≤ 1048576) :
    Calls Tryz.prog 22 #[.slice A L.length cap, .int .i64 left] w (SzPost w left (L.length ≤ 1048576 ∧ ∀ k (h : k < L.length), GFit L[k])) := by
  have HG := Lib.hid hg
  clear hg
  by_cases hn : (L.length : Int) ≤ left
  · have hn' : 0 ≤ left - (L.length : Int) := by omega
    go_enter Tryz.func22, Tryz.ntmps22
    go_wp2
    go_loopw [1, 4, 5] (fun l r i wr => ∃ (k : Nat) (q : Int), k ≤ L.length ∧ i = .int .i64 k ∧ r = .int .i64 0 ∧ l = .int .i64 q ∧ 0 ≤ q ∧ q ≤ left ∧ (∀ j (h : j < L.length), j < k → GFit L[j]) ∧ Below w.heap.size w wr) (fun _ _ i _ => L.length - (intOf i).toNat)
    case atStart => exact ⟨0, _, Nat.zero_le _, rfl, rfl, rfl, hn', by omega, fun j _ h => by omega, Below.refl _ _⟩
    case round =>
      obtain ⟨k, q, hk, rfl, rfl, rfl, q0, q1, hf, hb⟩ := hrel
      have HF := Lib.hid hf
      clear hf
      by_cases hlt : k < L.length
      · obtain ⟨b, o, rfl, hB, c0, c1, c2, c3, c4, c5, c6, c7, c8, c9, c10, c11, c12, c13⟩ := (hs.keep hb).at_ k hlt
        go_wp2_with fail
        refine (szGroup_any L[k] (H k) q _ (HG.out k hlt) q0 (by omega)).mono ?_
        rintro e w1 ⟨r, rfl, hb1, r1, r2, r3⟩
        have R3 := Lib.hid r3
        clear r3
        by_cases hr : 0 ≤ r
        · go_wp2
          go_roundw
          case rel => exact ⟨k + 1, r, by omega, by go_num, rfl, rfl, hr, by omega, fun j hj hjk => by
            by_cases e : j = k
            · subst e; exact R3.out hr
            · exact HF.out j hj (by omega), hb.andThen hb1⟩
          case measure => simp [intOf]; omega
        · have hr' : r < 0 := by omega
          go_wp2
          go_ret
          exact ⟨_, rfl, hb.andThen hb1, by omega, by omega, fun hr => by simp at hr⟩
      · go_wp2
        go_ret
        exact ⟨_, rfl, hb, by omega, by omega, fun _ => ⟨by omega, fun j hj => HF.out j hj (by omega)⟩⟩
  · have hn' : left - (L.length : Int) < 0 := by omega
    go_enter Tryz.func22, Tryz.ntmps22
    go_wp2
    all_goals go_ret
    all_goals refine ⟨_, rfl, Below.refl _ _, by omega, by omega, fun hr => by simp at hr⟩
set_option maxHeartbeats 1000000 in
theorem szWorld_any (h : WH) (M : WorldM) (w : World) (hs : WAt w h M) (hm : WMax M) :
    Calls Tryz.prog 7 #[.agg #[.int .i64 M.now, .slice h.ca M.cpus.length h.cc, .slice h.ta M.tasks.length h.tc, .slice h.ga M.groups.length h.gc], .int .i64 1048576] w (SzPost w 1048576 (WFit M)) := by
  obtain ⟨m1, m2, m3, m4⟩ := hm
  have M4 := Lib.hid m4
  clear m4
  have a1 := Lib.hid (szV_of (n := M.cpus.length) (left := 1048576) (by omega))
  have hx := (PAt.box hs 26)
  go_enter Tryz.func7, Tryz.ntmps7
  go_wp2_with fail
  refine (szCpuS_any _ _ _ _ _ m1 (by omega) (by omega)).mono ?_
  rintro e w1 ⟨rfl, rfl⟩
  by_cases hn : 0 ≤ szV M.cpus.length 1048576
  · have a2 := Lib.hid (szV_of (n := M.tasks.length) hn)
    have hn2 : szV M.cpus.length 1048576 ≤ 1048576 := by have := a1.out; omega
    go_wp2_with fail
    refine (szTaskS_any _ _ _ _ _ m2 hn hn2).mono ?_
    rintro e w1 ⟨rfl, rfl⟩
    by_cases hp : 0 ≤ szV M.tasks.length (szV M.cpus.length 1048576)
    · have hp2 : szV M.tasks.length (szV M.cpus.length 1048576) ≤ 1048576 := by have := a2.out; omega
      go_wp2_with fail
      refine (szGroupS_any _ _ h.gh M.groups _ _ hx.wat.group m3 M4.out hp hp2).mono ?_
      rintro e w2 ⟨r, rfl, hb1, r1, r2, r3⟩
      have R3 := Lib.hid r3
      clear r3
      have hb2 := ((Below.refl w.heap.size w).alloc (Nat.le_refl _) _).andThen hb1
      by_cases hr : 0 ≤ r
      · go_wp2
        go_ret
        refine ⟨_, rfl, hb2, by omega, by omega, fun hr => ?_⟩
        have b1 := a1.out
        have b2 := a2.out
        exact ⟨by omega, by omega, (R3.out hr).1, (R3.out hr).2⟩
      · have hr' : r < 0 := by omega
        go_wp2
        go_ret
        exact ⟨_, rfl, hb2, by omega, by omega, fun hr => by simp at hr⟩
    · have hp' : szV M.tasks.length (szV M.cpus.length 1048576) < 0 := by omega
      go_wp2
      go_ret
      exact ⟨_, rfl, (Below.refl _ _).alloc (Nat.le_refl _) _, by omega, by omega, fun hr => by simp at hr⟩
  · have hn' : szV M.cpus.length 1048576 < 0 := by omega
    go_wp2
    go_ret
    exact ⟨_, rfl, (Below.refl _ _).alloc (Nat.le_refl _) _, by omega, by omega, fun hr => by simp at hr⟩
end Go.Proofs.YtknfpigaognklaaGreatDoor
