/- Making groups: plain. Making groups: plain facts; a group is put into an owned world. The reference makes a group. The reference's GroupMake. The reference's FileMake. The program makes a group: the calls. The program makes a group: the closure. The program's GroupMake and FileMake. The law that compares worlds behind FileMake: its walk. The law that compares worlds behind FileMake holds. No condition, but that the library's tables are as the program lays them. -/
import Derived.Test.YtknfpigaognklaaGreatDoorZp
import Derived.Test.YtknfpigaognklaaGreatDoorZc
import Derived.Test.YtknfpigaognklaaGreatDoorZo
import Derived.Test.YtknfpigaognklaaGreatDoorZt
import Derived.Test.YtknfpigaognklaaGreatDoorTie
import Derived.Test.YtknfpigaognklaaGreatDoorCards
import Derived.SevenTiedAt
import Derived.ProofKit
import Derived.LaidMore
import Derived.OpenShut
import Derived.Stop.Joined
import Derived.Lib.LaidTab
import Derived.Stop.LaidErr
import Derived.LaidHandle
import Derived.LaidLaws
namespace Go.Proofs.YtknfpigaognklaaGreatDoor
open Go.RowKit Go.Sort
def shelfN : ShelfM := ⟨0, false, 0, 10, 0⟩
def newG (n : Nat) (p : Int) (s : ByteArray) : GroupM := ⟨true, p, s, 10, 15, 0, 0, 0, band0, List.replicate n shelfN⟩
def nkB (M : WorldM) (p : Int) (s : ByteArray) (h : Nat) : Bool := h != 0 && ((grp M h).used && ((grp M h).parent == p) && ((grp M h).name.toList == s.toList))
/-- has a group another one of that name directly in it -/
def thereB (M : WorldM) (p : Int) (s : ByteArray) : Bool := (List.range M.groups.length).any (nkB M p s)
/-- the first free slot from k on, of the n that follow -/
def freeF (M : WorldM) : Nat → Nat → Option Nat
  | 0, _ => none
  | n + 1, k => if (grp M k).used = false then some k else freeF M n (k + 1)
def freeM (M : WorldM) : Option Nat := freeF M 7 1
def makeC (M : WorldM) (p : Int) (s : ByteArray) : Int :=
  if nameB s = false then 1 else if usedI M p = false then 2 else if thereB M p s = true then 7 else if dp M p.toNat = 3 then 9 else
  match freeM M with
  | none => 3
  | some _ => if roomM M = true then 0 else 10
def makeS (M : WorldM) (p : Int) (s : ByteArray) : Int := if makeC M p s = 0 then (match freeM M with
  | none => -1
  | some h => (h : Int)) else -1
def makeW (M : WorldM) (p : Int) (s : ByteArray) : WorldM := if makeC M p s = 0 then (match freeM M with
  | none => M
  | some h => setG M h (newG M.cpus.length p s)) else M
def fmakeC (M : WorldM) (p : ByteArray) : Int := if worldB M = true then (if (pathOk p && nameB (splitF p)) = true then (match findM M (splitD p) with | some g => makeC M g (splitF p) | none => 2) else 1) else 1
def fmakeW (M : WorldM) (p : ByteArray) : WorldM := if worldB M = true then (if (pathOk p && nameB (splitF p)) = true then (match findM M (splitD p) with | some g => makeW M g (splitF p) | none => M) else M) else world0
end Go.Proofs.YtknfpigaognklaaGreatDoor
namespace Go.Proofs.YtknfpigaognklaaGreatDoor
open Go.RowKit Go.Sort
theorem depL_dp {M : WorldM} (h : Tree M) : ∀ (d r n g : Nat), g < 8 → (grp M g).used = true → dp M g = d → d < r → depL M r n g = ((n + d : Nat) : Int)
  | d, 0, n, g, _, _, _, hr => by omega
  | 0, r + 1, n, g, hg, hu, hd, _ => by
    have hui : usedI M (g : Int) = true := by have := h.len; simp only [usedI, Int.toNat_natCast, hu, Bool.and_true, Bool.and_eq_true, decide_eq_true_eq]; omega
    have hz : g = 0 := by
      rcases Nat.eq_zero_or_pos g with h0 | h0
      · exact h0
      · have := (h.up g hg hu (by omega)).2.2.2; omega
    subst hz
    rw [depL, if_pos hui, if_pos (by rfl)]; simp
  | d + 1, r + 1, n, g, hg, hu, hd, hr => by
    have hui : usedI M (g : Int) = true := by have := h.len; simp only [usedI, Int.toNat_natCast, hu, Bool.and_true, Bool.and_eq_true, decide_eq_true_eq]; omega
    have hz : g ≠ 0 := by intro e; subst e; rw [dp_zero] at hd; omega
    have hzi : (g : Int) ≠ 0 := by omega
    obtain ⟨h1, h2, h3, h4⟩ := h.up g hg hu hz
    rw [depL, if_pos hui, if_neg hzi, Int.toNat_natCast, h1]
    have := depL_dp h d r (n + 1) (par M g) h2 h3 (by omega) (by omega)
    rw [show ((n : Int) + 1) = ((n + 1 : Nat) : Int) by omega, this]
    omega
theorem depL_is {M : WorldM} (h : Tree M) {g : Nat} (hg : g < 8) (hu : (grp M g).used = true) : depL M 9 0 g = (dp M g : Int) := by
  have := depL_dp h (dp M g) 9 0 g hg hu rfl (by have := h.dp3 g hg hu; omega)
  simpa using this
theorem nkB_kid (M : WorldM) (g : Nat) (s : ByteArray) (h : Nat) : nkB M g s h = (kidB M g h && ((grp M h).name.toList == s.toList)) := by
  unfold nkB kidB; cases h != 0 <;> simp
/-- the first free slot, from slot k on -/
def freeI (M : WorldM) (k : Nat) : Int := match freeF M (7 - k) (k + 1) with
  | none => -1
  | some h => (h : Int)
theorem freeI_top (M : WorldM) : freeI M 7 = -1 := rfl
theorem freeI_step {M : WorldM} {k : Nat} (h1 : 1 ≤ k) (h7 : k ≤ 7) : freeI M (k - 1) = if (grp M k).used = false then (k : Int) else freeI M k := by
  unfold freeI
  rw [show 7 - (k - 1) = (7 - k) + 1 by omega, show k - 1 + 1 = k by omega, freeF]
  by_cases h : (grp M k).used = false
  · rw [if_pos h, if_pos h]
  · rw [if_neg h, if_neg h]
theorem freeF_bd {M : WorldM} : ∀ {n a h : Nat}, freeF M n a = some h → a ≤ h ∧ h < a + n ∧ (grp M h).used = false
  | 0, a, h, e => by simp [freeF] at e
  | n + 1, a, h, e => by
    rw [freeF] at e
    split at e
    · rename_i hu; cases e; exact ⟨Nat.le_refl _, by omega, hu⟩
    · have := freeF_bd e; exact ⟨by omega, by omega, this.2.2⟩
theorem freeF_first {M : WorldM} : ∀ {n a k : Nat}, a ≤ k → k < a + n → (∀ j, a ≤ j → j < k → (grp M j).used = true) → (grp M k).used = false → freeF M n a = some k
  | 0, a, k, h1, h2, _, _ => by omega
  | n + 1, a, k, h1, h2, hj, hk => by
    rw [freeF]
    by_cases e : a = k
    · subst e; rw [if_pos hk]
    · rw [if_neg (by rw [hj a (Nat.le_refl _) (by omega)]; decide)]
      exact freeF_first (by omega) (by omega) (fun j h1 h2 => hj j (by omega) h2) hk
theorem freeF_none {M : WorldM} : ∀ {n a : Nat}, (∀ j, a ≤ j → j < a + n → (grp M j).used = true) → freeF M n a = none
  | 0, _, _ => rfl
  | n + 1, a, h => by
    rw [freeF, if_neg (by rw [h a (Nat.le_refl _) (by omega)]; decide)]
    exact freeF_none fun j h1 h2 => h j (by omega) (by omega)
theorem freeI_zero (M : WorldM) : freeI M 0 = match freeM M with
  | none => -1
  | some h => (h : Int) := rfl
def newH (sa : Option Addr) (sc : Nat) : GH := ⟨none, 0, none, 0, sa, sc⟩
def nl (p : Int) (s : ByteArray) (n : Nat) (sa : Option Addr) (sc : Nat) : List (Nat × Value) := [(0, .bool true), (1, .int .i64 p), (2, .string s), (3, .int .i64 10), (4, .int .i64 15), (5, .int .i64 0), (6, .int .i64 0), (7, .int .i64 0), (8, .int .i64 0), (9, .int .i64 0), (10, .int .i64 0), (11, .slice none 0 0), (12, .slice none 0 0), (13, .slice sa n sc)]
theorem nl_cells (p : Int) (s : ByteArray) (n : Nat) (sa : Option Addr) (sc : Nat) (v : Nat → Value) : ∀ i, i < 14 → (nl p s n sa sc).foldl (fun v p => if p.1 = i then p.2 else v) (v i) = groupF (newG n p s) (newH sa sc) i
  | 0, _ => rfl
  | 1, _ => rfl
  | 2, _ => rfl
  | 3, _ => rfl
  | 4, _ => rfl
  | 5, _ => rfl
  | 6, _ => rfl
  | 7, _ => rfl
  | 8, _ => rfl
  | 9, _ => rfl
  | 10, _ => rfl
  | 11, _ => rfl
  | 12, _ => rfl
  | 13, _ => by show Value.slice sa n sc = .slice sa (List.replicate n shelfN).length sc; rw [List.length_replicate]
  | i + 14, h => absurd h (by omega)
/-- a new group is put into a slot; its shelves lie from N on, the world below N -/
theorem Own.put {w : World} {B N : Nat} {ca ta : Option Addr} {b : Nat} {gh : Nat → GH} {M : WorldM} (h : Own w B ca ta (some ⟨b, 0, none⟩) gh M) {g : Nat} (hg : g < M.groups.length) (p : Int) (s : ByteArray) (n : Nat) (sa : Option Addr) (sc : Nat)
    (hN : ∀ i, Has ca ta (some ⟨b, 0, none⟩) gh M.groups.length i → i < N) (hBN : B ≤ N) (hs : ShelfR w N sa (List.replicate n shelfN)) :
    Own ((nl p s n sa sc).foldl (fun w p => w.setCell ⟨b, g * 14 + p.1, none⟩ p.2) w) B ca ta (some ⟨b, 0, none⟩) (hset gh g (newH sa sc)) (setG M g (newG n p s)) := by
  have hk : Keep (fun j => some (⟨b, 0, none⟩ : Addr) = some ⟨j, 0, none⟩) w ((nl p s n sa sc).foldl (fun w p => w.setCell ⟨b, g * 14 + p.1, none⟩ p.2) w) := Keep.sets (by rfl) _ w
  refine h.setGroup hk ((RowR.sets rfl hg (nl p s n sa sc) h.grps (by simp [nl])).congr fun j i hj hi => ?_) RowR.nil RowR.nil ?_ (fun _ _ _ _ h => by cases h) (fun _ _ _ _ h => by cases h) fun j a hj hne ha e => ?_
  · by_cases e : j = g
    · subst e; rw [if_pos rfl, if_pos rfl]; exact nl_cells p s n sa sc (fun i => groupF (M.groups.getD j group0) (gh j) i) i hi
    · rw [if_neg e, if_neg e]; rfl
  · exact (hs.keep hk fun a ha e => by
      have h1 := (hs.lt ha).1
      have h2 := hN b (.inr (.inr (.inl rfl)))
      simp only [Option.some.injEq, Addr.mk.injEq] at e
      omega).mono hBN
  · have h1 := (hs.lt ha).1
    have h3 := (h.she j hj).form e
    have h2 := hN a.block (.inr (.inr (.inr ⟨j, hj, .inr (.inr (by rw [e, ← h3]))⟩)))
    omega
def WPost3 (M : WorldM) (s c : Int) (w : World) (e : Ending) (w' : World) : Prop := ∃ h : WH, e = .returned (.tuple #[.agg #[.int .i64 M.now, .slice h.ca M.cpus.length h.cc, .slice h.ta M.tasks.length h.tc, .slice h.ga M.groups.length h.gc], .int .i64 s, .int .i64 c]) ∧ Below w.heap.size w w' ∧ Own w' w.heap.size h.ca h.ta h.ga h.gh M
/-- what comes back of a call that makes a group -/
def GPost (p : Int) (s : ByteArray) (n : Nat) (w : World) (e : Ending) (w' : World) : Prop := ∃ (sa : Option Addr) (sc : Nat), e = .returned (.agg #[.bool true, .int .i64 p, .string s, .int .i64 10, .int .i64 15, .int .i64 0, .int .i64 0, .int .i64 0, .int .i64 0, .int .i64 0, .int .i64 0, .slice none 0 0, .slice none 0 0, .slice sa n sc]) ∧ Below w.heap.size w w' ∧ ShelfR w' w.heap.size sa (List.replicate n shelfN)
end Go.Proofs.YtknfpigaognklaaGreatDoor
namespace Go.Proofs.YtknfpigaognklaaGreatDoor
open Go.RowKit Go.Sort
def fN : Nat → Nat → Value := fun _ => shelfF shelfN
theorem fN_row {w : World} {B n : Nat} {A : Option Addr} (h : RowR w B A 103 5 n fN) : ShelfR w B A (List.replicate n shelfN) := by
  show RowR w B A 103 5 (List.replicate n shelfN).length _
  rw [List.length_replicate]
  exact h.congr fun k i hk hi => by simp [fN, hk]
/-- what holds in the loop -/
structure GI (p : Int) (s : ByteArray) (w wr : World) (k : Nat) (vs : Value) : Prop where
  b0 : Blk wr w.heap.size 55 #[.bool false, .int .i64 0, .string .empty, .int .i64 0, .int .i64 0, .int .i64 0, .int .i64 0, .int .i64 0, .int .i64 0, .int .i64 0, .int .i64 0, .slice none 0 0, .slice none 0 0, .slice none 0 0]
  b1 : Blk wr (w.heap.size + 1) 55 #[.bool true, .int .i64 p, .string s, .int .i64 10, .int .i64 15, .int .i64 0, .int .i64 0, .int .i64 0, .int .i64 0, .int .i64 0, .int .i64 0, .slice none 0 0, .slice none 0 0, vs]
  rs : wr.ownsRow (w.heap.size + 2) 103 5 vs k (rowL fN 5 k)
  bel : Below w.heap.size w wr
theorem GI.step {p : Int} {s : ByteArray} {w wr w5 : World} {k : Nat} {vs u : Value} (I : GI p s w wr k vs) (hk : Keep (fun j => vs.ownBlock = some j) wr w5) (ho : w5.ownsRow (w.heap.size + 2) 103 5 u (k + 1) (rowL fN 5 (k + 1))) :
    GI p s w (w5.setCell ⟨w.heap.size + 1, 13, none⟩ u) (k + 1) u :=
  ⟨(hk.blk I.b0 (own_far I.rs (by omega))).far (by simp) _, (hk.blk I.b1 (own_far I.rs (by omega))).set_ 13 u, own_set ho (by omega) _,
   (I.bel.trans ((hk.below (B := w.heap.size) I.bel.size fun j hj => by have := (I.rs.lt _ hj).1; omega))).setCell (by simp) _⟩
set_option maxRecDepth 100000 in
set_option maxHeartbeats 4000000 in
theorem sL8Group_any (p : Int) (s : ByteArray) (n : Nat) (hn : n ≤ 4) (w : World) :
    Calls Tryz.prog 110 #[.int .i64 n, .int .i64 p, .string s] w (GPost p s n w) := by
  go_enter Tryz.func110, Tryz.ntmps110
  go_upto_region 2 with (fail)
  refine gen2 (p := fun W => Code.wp _ _ _ _ W) ?_
  intro W b1 s1 k0 k1
  have I0 := Lib.hid (show GI p s w W 0 (.slice none 0 0) from ⟨k0, k1, World.ownsRow_nil _ _ _ _, b1⟩)
  clear b1 s1 k0 k1
  go_wp2
  go_loopw [8] (fun i wr => ∃ (k : Nat) (v : Value), k ≤ n ∧ i = .int .i64 k ∧ GI p s w wr k v) (fun i _ => n - (intOf i).toNat)
  case atStart => exact ⟨0, _, Nat.zero_le _, rfl, I0.out⟩
  case round =>
    obtain ⟨k, v, hk, rfl, hI⟩ := hrel
    have II := Lib.hid hI
    clear I0
    by_cases hlt : k < n
    · have d13 := hI.b1.cell 13
      simp at d13
      have i0 : (0 : Int) ≤ (k : Int) := by omega
      have i1 : (k : Int) < (n : Int) := by omega
      have HLT := Lib.hid hlt
      have hwl := hI.b1.lt
      obtain ⟨g5, cap5, w5, hrun, hown5, hkeep5, hg5, hlt5, hB5⟩ := app_one slShelf (by omega) (by omega) (ty := 53) (T' := 103) hI.rs (by omega) (by omega) [.int .i64 0, .bool false, .int .i64 0, .int .i64 10, .int .i64 0] rfl (by simp [Value.oneCell']) (W1 := wr.alloc (.cells #[.int .i64 0, .bool false, .int .i64 0, .int .i64 10, .int .i64 0] 103)) ((Below.refl _ _).alloc (Nat.le_refl _) _) (by simp) (Blk.new wr 103 _)
      have HRUN := Lib.hid hrun
      have I2 := Lib.hid (hI.step hkeep5 (u := .slice (some ⟨g5, 0, none⟩) (k + 1 : Nat) cap5) hown5)
      have f3 := fun i => (hkeep5.blk hI.b1 (own_far hI.rs (by omega))).frozen i
      have z3 := (hkeep5.blk hI.b1 (own_far hI.rs (by omega))).cell 13
      simp at z3
      clear hI hlt hk hrun hown5 hkeep5 hg5 hlt5 hB5
      go_wp2_with (at_builtin; refine wpList_append_run rfl rfl rfl rfl HRUN.out ?_)
      go_roundw
      case rel => exact ⟨k + 1, _, by have := HLT.out; omega, by go_num, I2.out⟩
      case measure => have := HLT.out; simp [intOf]; omega
    · obtain rfl : k = n := by omega
      obtain ⟨sa, sc, rfl, hR⟩ := row_of_own hI.rs
      have HR := Lib.hid hR
      have g0 := hI.b1.cell 0
      have g1 := hI.b1.cell 1
      have g2 := hI.b1.cell 2
      have g3 := hI.b1.cell 3
      have g4 := hI.b1.cell 4
      have g5 := hI.b1.cell 5
      have g6 := hI.b1.cell 6
      have g7 := hI.b1.cell 7
      have g8 := hI.b1.cell 8
      have g9 := hI.b1.cell 9
      have g10 := hI.b1.cell 10
      have g11 := hI.b1.cell 11
      have g12 := hI.b1.cell 12
      have g13 := hI.b1.cell 13
      have y0 := hI.b0.cell 0
      have y1 := hI.b0.cell 1
      have y2 := hI.b0.cell 2
      have y3 := hI.b0.cell 3
      have y4 := hI.b0.cell 4
      have y5 := hI.b0.cell 5
      have y6 := hI.b0.cell 6
      have y7 := hI.b0.cell 7
      have y8 := hI.b0.cell 8
      have y9 := hI.b0.cell 9
      have y10 := hI.b0.cell 10
      have y11 := hI.b0.cell 11
      have y12 := hI.b0.cell 12
      have y13 := hI.b0.cell 13
      have f1 := fun i => hI.b0.frozen i
      simp at g0 y0 g1 y1 g2 y2 g3 y3 g4 y4 g5 y5 g6 y6 g7 y7 g8 y8 g9 y9 g10 y10 g11 y11 g12 y12 g13 y13
      have HB := Lib.hid hI.bel
      clear hR hI II hk hlt
      go_wp2
      have kk := Lib.hid (show Keep (fun i => i = w.heap.size) wr ((((((((((((((wr.setCell ⟨w.heap.size, 0, none⟩ (.bool true)).setCell ⟨w.heap.size, 1, none⟩ (.int .i64 p)).setCell ⟨w.heap.size, 2, none⟩ (.string s)).setCell ⟨w.heap.size, 3, none⟩ (.int .i64 10)).setCell ⟨w.heap.size, 4, none⟩ (.int .i64 15)).setCell ⟨w.heap.size, 5, none⟩ (.int .i64 0)).setCell ⟨w.heap.size, 6, none⟩ (.int .i64 0)).setCell ⟨w.heap.size, 7, none⟩ (.int .i64 0)).setCell ⟨w.heap.size, 8, none⟩ (.int .i64 0)).setCell ⟨w.heap.size, 9, none⟩ (.int .i64 0)).setCell ⟨w.heap.size, 10, none⟩ (.int .i64 0)).setCell ⟨w.heap.size, 11, none⟩ (.slice none 0 0)).setCell ⟨w.heap.size, 12, none⟩ (.slice none 0 0)).setCell ⟨w.heap.size, 13, none⟩ (.slice sa k sc)) from ((((((((((((((Keep.set _ _ _ (by rfl)).trans (Keep.set _ _ _ (by rfl))).trans (Keep.set _ _ _ (by rfl))).trans (Keep.set _ _ _ (by rfl))).trans (Keep.set _ _ _ (by rfl))).trans (Keep.set _ _ _ (by rfl))).trans (Keep.set _ _ _ (by rfl))).trans (Keep.set _ _ _ (by rfl))).trans (Keep.set _ _ _ (by rfl))).trans (Keep.set _ _ _ (by rfl))).trans (Keep.set _ _ _ (by rfl))).trans (Keep.set _ _ _ (by rfl))).trans (Keep.set _ _ _ (by rfl))).trans (Keep.set _ _ _ (by rfl))))
      refine bodyPost_ret (v := .agg #[.bool true, .int .i64 p, .string s, .int .i64 10, .int .i64 15, .int .i64 0, .int .i64 0, .int .i64 0, .int .i64 0, .int .i64 0, .int .i64 0, .slice none 0 0, .slice none 0 0, .slice sa k sc]) (by simp [results, Tryz.results110, go_sem, *]) rfl ⟨sa, sc, rfl, HB.out.trans (kk.out.below HB.out.size fun _ h => by omega), ?_⟩
      exact fN_row ((HR.out.keep kk.out fun a ha h => by have := (HR.out.lt ha).1; omega).mono (by omega))
end Go.Proofs.YtknfpigaognklaaGreatDoor
namespace Go.Proofs.YtknfpigaognklaaGreatDoor
open Go.RowKit Go.Sort
set_option maxRecDepth 100000 in
set_option maxHeartbeats 4000000 in
theorem sMake_there (ca : Option Addr) (cc : Nat) (ta : Option Addr) (tc : Nat) (ga : Option Addr) (gc : Nat) (gh : Nat → GH) (M : WorldM) (w : World) (hs : WA w ca ta ga gh M) (hf : WFit M) (hB : worldB M = true) (s : ByteArray) (g : Nat) (hg8 : g < 8) (hu : usedI M g = true) (hn : nameB s = true) (hsm : s.size ≤ 1048576) (cq : Int) (hc0 : (cq == 1) = false) (hbg : ∀ W : World, WA W ca ta ga gh M → Calls Tryz.prog 107 #[.agg #[.int .i64 M.now, .slice ca M.cpus.length cc, .slice ta M.tasks.length tc, .slice ga M.groups.length gc]] W (WPost M cq W)) (ht : thereB M g s = true) :
    Calls Tryz.prog 58 #[.agg #[.int .i64 M.now, .slice ca M.cpus.length cc, .slice ta M.tasks.length tc, .slice ga M.groups.length gc], .int .i64 g, .string s] w (WPost3 M (-1) 7 w) := by
  have HU := Lib.hid hu
  have HNM := Lib.hid hn
  have HSM := Lib.hid hsm
  have BG := Lib.hid hbg
  have HLN := Lib.hid (facts_of hB).tree.len
  have hgu : (grp M g).used = true := by have := hu; simp only [usedI, Bool.and_eq_true, Int.toNat_natCast] at this; exact this.2
  have HDP := Lib.hid (depL_is (facts_of hB).tree hg8 hgu)
  have hgm := (fitG_of hf).group
  have HC4 := Lib.hid (facts_of hB).c4
  have HT := Lib.hid ht
  clear ht
  clear hu hn hsm hbg hB hgu
  go_enter Tryz.func58, Tryz.ntmps58
  go_upto_region 1 with (fail)
  refine gen2 (p := fun W => Code.wp _ _ _ _ W) ?_
  intro W b1 s1 k0 k1
  have B1 := Lib.hid b1
  have K0 := Lib.hid k0
  have K1 := Lib.hid k1
  have S1 := Lib.hid s1
  have hs1 := hs.keep b1
  clear b1 k0 k1 hs s1
  have c0 := K0.out.cell 0
  have c1 := K0.out.cell 1
  have c2 := K0.out.cell 2
  have c3 := K0.out.cell 3
  have cf := fun i => K0.out.frozen i
  simp at c0 c1 c2 c3
  go_wp2_with fail
  refine (BG.out W hs1).mono ?_
  rintro e w3 ⟨x, rfl, hb3, ow⟩
  have K0c := Lib.hid (K0.out.below hb3 K0.out.lt)
  have K1c := Lib.hid (K1.out.below hb3 K1.out.lt)
  have B3 := Lib.hid (B1.out.andThen hb3)
  have OW := Lib.hid ow
  clear c0 c1 c2 c3 cf
  clear hs1 hb3 ow K0 K1 B1
  have c0 := K0c.out.cell 0
  have c1 := K0c.out.cell 1
  have c2 := K0c.out.cell 2
  have c3 := K0c.out.cell 3
  have cf := fun i => K0c.out.frozen i
  simp at c0 c1 c2 c3
  go_upto_region 2 with (fail)
  refine genW (p := fun W => Code.wp _ _ _ _ W) ?_
  intro w4 hw4
  have KE := Lib.hid (show Keep (fun j => j = w.heap.size) w3 w4 by rw [← hw4]; exact ((((Keep.set _ _ _ (by rfl)).trans (Keep.set _ _ _ (by rfl))).trans (Keep.set _ _ _ (by rfl))).trans (Keep.set _ _ _ (by rfl))))
  have K0d := Lib.hid (show Blk w4 w.heap.size 33 #[.int .i64 M.now, .slice x.ca M.cpus.length x.cc, .slice x.ta M.tasks.length x.tc, .slice x.ga M.groups.length x.gc] by rw [← hw4]; exact ((((K0c.out.set_ 0 _).set_ 1 _).set_ 2 _).set_ 3 _))
  have K1d := Lib.hid (KE.out.blk K1c.out (by omega))
  have OW4 := Lib.hid (OW.out.fin (B := W.heap.size) KE.out (fun i h => by have := S1.out; omega) (Nat.le_refl _))
  have B4 := Lib.hid (B3.out.trans (KE.out.below B3.out.size fun i h => by omega))
  clear hw4 KE K0c K1c OW B3
  clear c0 c1 c2 c3 cf
  have c0 := K0d.out.cell 0
  have c1 := K0d.out.cell 1
  have c2 := K0d.out.cell 2
  have c3 := K0d.out.cell 3
  have cf := fun i => K0d.out.frozen i
  simp at c0 c1 c2 c3
  have HUS := Lib.hid (sl6Used_any x.ca x.ta x.ga x.gc x.gh M w4 OW4.out.wa (g : Int))
  have HDE := Lib.hid (sl6Depth_any x.ca x.ta x.ga x.gc x.gh M w4 OW4.out.wa (by have := HLN.out; omega) (by have := HLN.out; omega) (g : Int))
  have HW4 := Lib.hid OW4.out.wa
  go_wp2_with (first | (go_at_call 57; refine (sNameOk_any s _ HSM.out).mono ?_; rintro e w' ⟨rfl, rfl⟩; rw [HNM.out]) | (go_at_call 108; refine HUS.out.mono ?_; rintro e w' ⟨rfl, rfl⟩; rw [HU.out]))
  go_loopw [10] (fun i wr => ∃ k : Nat, 1 ≤ k ∧ k ≤ M.groups.length ∧ i = .int .i64 k ∧ (List.range k).any (nkB M g s) = false ∧ w4 = wr) (fun i _ => M.groups.length - (intOf i).toNat)
  case atStart => exact ⟨1, Nat.le_refl _, by have := HLN.out; omega, rfl, rfl, rfl⟩
  case round =>
    obtain ⟨k, h1, hk, rfl, hany, rfl⟩ := hrel
    have HA := Lib.hid hany
    clear hany
    by_cases hlt : k < M.groups.length
    · obtain ⟨b, o, hga, hBl, c0', c1', c2', _⟩ := HW4.out.group_ hlt
      have i0 : (0 : Int) ≤ (k : Int) := by omega
      have i1 : (k : Int) < (M.groups.length : Int) := by omega
      have HGA := Lib.hid hga
      rw [hga] at c3
      clear hga
      have hk0 : (k != 0) = true := by simp; omega
      by_cases hf : nkB M g s k = true
      · have HTH := Lib.hid (show thereB M g s = true from any_of hlt hf)
        simp only [nkB, Bool.and_eq_true, beq_iff_eq] at hf
        have hne : ((grp M k).name.toList == s.toList) = true := by simpa using hf.2.2
        rw [hf.2.1.1] at c0'
        rw [hf.2.1.2] at c1'
        clear hf
        generalize (grp M k).name = nm at *
        go_upto_region 10 with (fail)
        rw [← HGA.out] at c3
        have d0 := K1d.out.cell 0
        have d1 := K1d.out.cell 1
        have d2 := K1d.out.cell 2
        have d3 := K1d.out.cell 3
        have df := fun i => K1d.out.frozen i
        simp at d0 d1 d2 d3
        go_wp2
        have kz := Lib.hid (show Keep (fun i => i = w.heap.size + 1) w4 ((((w4.setCell ⟨w.heap.size + 1, 0, none⟩ (.int .i64 M.now)).setCell ⟨w.heap.size + 1, 1, none⟩ (.slice x.ca M.cpus.length x.cc)).setCell ⟨w.heap.size + 1, 2, none⟩ (.slice x.ta M.tasks.length x.tc)).setCell ⟨w.heap.size + 1, 3, none⟩ (.slice x.ga M.groups.length x.gc)) from ((((Keep.set _ _ _ (by rfl)).trans (Keep.set _ _ _ (by rfl))).trans (Keep.set _ _ _ (by rfl))).trans (Keep.set _ _ _ (by rfl))))
        refine bodyPost_ret (v := .tuple #[.agg #[.int .i64 M.now, .slice x.ca M.cpus.length x.cc, .slice x.ta M.tasks.length x.tc, .slice x.ga M.groups.length x.gc], .int .i64 (-1), .int .i64 7]) (by simp [results, Tryz.results58, go_sem, *]) rfl ⟨x, rfl, B4.out.trans (kz.out.below B4.out.size fun i h => by omega), ?_⟩
        exact OW4.out.fin kz.out (fun i h => by have := S1.out; omega) (by have := S1.out; omega)
      · have HK := Lib.hid (show nkB M g s k = false by simpa using hf)
        by_cases hu : (grp M k).used = true
        · rw [hu] at c0'
          by_cases hp : (grp M k).parent = (g : Int)
          · have hne : ((grp M k).name.toList == s.toList) = false := by
              have := HK.out; unfold nkB at this; rw [hk0, hu, hp] at this; simpa using this
            rw [hp] at c1'
            clear hp hu hf
            generalize (grp M k).name = nm at *
            go_wp2
            go_roundw
            case rel => exact ⟨k + 1, by omega, by omega, by go_num, by rw [any_succ, HA.out, HK.out]; rfl, by first | rfl | trivial⟩
            case measure => simp [intOf]; omega
          · have hp2 : ((grp M k).parent == (g : Int)) = false := by simpa using hp
            generalize (grp M k).parent = P at *
            clear hu hf
            go_wp2
            go_roundw
            case rel => exact ⟨k + 1, by omega, by omega, by go_num, by rw [any_succ, HA.out, HK.out]; rfl, by first | rfl | trivial⟩
            case measure => simp [intOf]; omega
        · have hu' : (grp M k).used = false := by simpa using hu
          rw [hu'] at c0'
          clear hu hu' hf
          go_wp2
          go_roundw
          case rel => exact ⟨k + 1, by omega, by omega, by go_num, by rw [any_succ, HA.out, HK.out]; rfl, by first | rfl | trivial⟩
          case measure => simp [intOf]; omega
    · obtain rfl : k = M.groups.length := by omega
      have HTH := Lib.hid (show thereB M g s = false from HA.out)
      clear HA hk h1
      exfalso
      exact absurd (HTH.out.symm.trans HT.out) (by decide)
set_option maxRecDepth 100000 in
set_option maxHeartbeats 4000000 in
theorem sMake_deep (ca : Option Addr) (cc : Nat) (ta : Option Addr) (tc : Nat) (ga : Option Addr) (gc : Nat) (gh : Nat → GH) (M : WorldM) (w : World) (hs : WA w ca ta ga gh M) (hf : WFit M) (hB : worldB M = true) (s : ByteArray) (g : Nat) (hg8 : g < 8) (hu : usedI M g = true) (hn : nameB s = true) (hsm : s.size ≤ 1048576) (cq : Int) (hc0 : (cq == 1) = false) (hbg : ∀ W : World, WA W ca ta ga gh M → Calls Tryz.prog 107 #[.agg #[.int .i64 M.now, .slice ca M.cpus.length cc, .slice ta M.tasks.length tc, .slice ga M.groups.length gc]] W (WPost M cq W)) (ht : thereB M g s = false) (hd : dp M g = 3) :
    Calls Tryz.prog 58 #[.agg #[.int .i64 M.now, .slice ca M.cpus.length cc, .slice ta M.tasks.length tc, .slice ga M.groups.length gc], .int .i64 g, .string s] w (WPost3 M (-1) 9 w) := by
  have HU := Lib.hid hu
  have HNM := Lib.hid hn
  have HSM := Lib.hid hsm
  have BG := Lib.hid hbg
  have HLN := Lib.hid (facts_of hB).tree.len
  have hgu : (grp M g).used = true := by have := hu; simp only [usedI, Bool.and_eq_true, Int.toNat_natCast] at this; exact this.2
  have HDP := Lib.hid (depL_is (facts_of hB).tree hg8 hgu)
  have hgm := (fitG_of hf).group
  have HC4 := Lib.hid (facts_of hB).c4
  have HT := Lib.hid ht
  clear ht
  have hd' : ((dp M g : Int) == 3) = true := by rw [hd]; rfl
  clear hd
  clear hu hn hsm hbg hB hgu
  go_enter Tryz.func58, Tryz.ntmps58
  go_upto_region 1 with (fail)
  refine gen2 (p := fun W => Code.wp _ _ _ _ W) ?_
  intro W b1 s1 k0 k1
  have B1 := Lib.hid b1
  have K0 := Lib.hid k0
  have K1 := Lib.hid k1
  have S1 := Lib.hid s1
  have hs1 := hs.keep b1
  clear b1 k0 k1 hs s1
  have c0 := K0.out.cell 0
  have c1 := K0.out.cell 1
  have c2 := K0.out.cell 2
  have c3 := K0.out.cell 3
  have cf := fun i => K0.out.frozen i
  simp at c0 c1 c2 c3
  go_wp2_with fail
  refine (BG.out W hs1).mono ?_
  rintro e w3 ⟨x, rfl, hb3, ow⟩
  have K0c := Lib.hid (K0.out.below hb3 K0.out.lt)
  have K1c := Lib.hid (K1.out.below hb3 K1.out.lt)
  have B3 := Lib.hid (B1.out.andThen hb3)
  have OW := Lib.hid ow
  clear c0 c1 c2 c3 cf
  clear hs1 hb3 ow K0 K1 B1
  have c0 := K0c.out.cell 0
  have c1 := K0c.out.cell 1
  have c2 := K0c.out.cell 2
  have c3 := K0c.out.cell 3
  have cf := fun i => K0c.out.frozen i
  simp at c0 c1 c2 c3
  go_upto_region 2 with (fail)
  refine genW (p := fun W => Code.wp _ _ _ _ W) ?_
  intro w4 hw4
  have KE := Lib.hid (show Keep (fun j => j = w.heap.size) w3 w4 by rw [← hw4]; exact ((((Keep.set _ _ _ (by rfl)).trans (Keep.set _ _ _ (by rfl))).trans (Keep.set _ _ _ (by rfl))).trans (Keep.set _ _ _ (by rfl))))
  have K0d := Lib.hid (show Blk w4 w.heap.size 33 #[.int .i64 M.now, .slice x.ca M.cpus.length x.cc, .slice x.ta M.tasks.length x.tc, .slice x.ga M.groups.length x.gc] by rw [← hw4]; exact ((((K0c.out.set_ 0 _).set_ 1 _).set_ 2 _).set_ 3 _))
  have K1d := Lib.hid (KE.out.blk K1c.out (by omega))
  have OW4 := Lib.hid (OW.out.fin (B := W.heap.size) KE.out (fun i h => by have := S1.out; omega) (Nat.le_refl _))
  have B4 := Lib.hid (B3.out.trans (KE.out.below B3.out.size fun i h => by omega))
  clear hw4 KE K0c K1c OW B3
  clear c0 c1 c2 c3 cf
  have c0 := K0d.out.cell 0
  have c1 := K0d.out.cell 1
  have c2 := K0d.out.cell 2
  have c3 := K0d.out.cell 3
  have cf := fun i => K0d.out.frozen i
  simp at c0 c1 c2 c3
  have HUS := Lib.hid (sl6Used_any x.ca x.ta x.ga x.gc x.gh M w4 OW4.out.wa (g : Int))
  have HDE := Lib.hid (sl6Depth_any x.ca x.ta x.ga x.gc x.gh M w4 OW4.out.wa (by have := HLN.out; omega) (by have := HLN.out; omega) (g : Int))
  have HW4 := Lib.hid OW4.out.wa
  go_wp2_with (first | (go_at_call 57; refine (sNameOk_any s _ HSM.out).mono ?_; rintro e w' ⟨rfl, rfl⟩; rw [HNM.out]) | (go_at_call 108; refine HUS.out.mono ?_; rintro e w' ⟨rfl, rfl⟩; rw [HU.out]))
  go_loopw [10] (fun i wr => ∃ k : Nat, 1 ≤ k ∧ k ≤ M.groups.length ∧ i = .int .i64 k ∧ (List.range k).any (nkB M g s) = false ∧ w4 = wr) (fun i _ => M.groups.length - (intOf i).toNat)
  case atStart => exact ⟨1, Nat.le_refl _, by have := HLN.out; omega, rfl, rfl, rfl⟩
  case round =>
    obtain ⟨k, h1, hk, rfl, hany, rfl⟩ := hrel
    have HA := Lib.hid hany
    clear hany
    by_cases hlt : k < M.groups.length
    · obtain ⟨b, o, hga, hBl, c0', c1', c2', _⟩ := HW4.out.group_ hlt
      have i0 : (0 : Int) ≤ (k : Int) := by omega
      have i1 : (k : Int) < (M.groups.length : Int) := by omega
      have HGA := Lib.hid hga
      rw [hga] at c3
      clear hga
      have hk0 : (k != 0) = true := by simp; omega
      by_cases hf : nkB M g s k = true
      · have HTH := Lib.hid (show thereB M g s = true from any_of hlt hf)
        exfalso
        exact absurd (HTH.out.symm.trans HT.out) (by decide)
      · have HK := Lib.hid (show nkB M g s k = false by simpa using hf)
        by_cases hu : (grp M k).used = true
        · rw [hu] at c0'
          by_cases hp : (grp M k).parent = (g : Int)
          · have hne : ((grp M k).name.toList == s.toList) = false := by
              have := HK.out; unfold nkB at this; rw [hk0, hu, hp] at this; simpa using this
            rw [hp] at c1'
            clear hp hu hf
            generalize (grp M k).name = nm at *
            go_wp2
            go_roundw
            case rel => exact ⟨k + 1, by omega, by omega, by go_num, by rw [any_succ, HA.out, HK.out]; rfl, by first | rfl | trivial⟩
            case measure => simp [intOf]; omega
          · have hp2 : ((grp M k).parent == (g : Int)) = false := by simpa using hp
            generalize (grp M k).parent = P at *
            clear hu hf
            go_wp2
            go_roundw
            case rel => exact ⟨k + 1, by omega, by omega, by go_num, by rw [any_succ, HA.out, HK.out]; rfl, by first | rfl | trivial⟩
            case measure => simp [intOf]; omega
        · have hu' : (grp M k).used = false := by simpa using hu
          rw [hu'] at c0'
          clear hu hu' hf
          go_wp2
          go_roundw
          case rel => exact ⟨k + 1, by omega, by omega, by go_num, by rw [any_succ, HA.out, HK.out]; rfl, by first | rfl | trivial⟩
          case measure => simp [intOf]; omega
    · obtain rfl : k = M.groups.length := by omega
      have HTH := Lib.hid (show thereB M g s = false from HA.out)
      clear HA hk h1
      clear hlt
      generalize (dp M g : Int) = dpi at *
      have d0 := K1d.out.cell 0
      have d1 := K1d.out.cell 1
      have d2 := K1d.out.cell 2
      have d3 := K1d.out.cell 3
      have df := fun i => K1d.out.frozen i
      simp at d0 d1 d2 d3
      go_wp2_with (go_at_call 109; refine HDE.out.mono ?_; rintro e w' ⟨rfl, rfl⟩; rw [HDP.out])
      have kz := Lib.hid (show Keep (fun i => i = w.heap.size + 1) w4 ((((w4.setCell ⟨w.heap.size + 1, 0, none⟩ (.int .i64 M.now)).setCell ⟨w.heap.size + 1, 1, none⟩ (.slice x.ca M.cpus.length x.cc)).setCell ⟨w.heap.size + 1, 2, none⟩ (.slice x.ta M.tasks.length x.tc)).setCell ⟨w.heap.size + 1, 3, none⟩ (.slice x.ga M.groups.length x.gc)) from ((((Keep.set _ _ _ (by rfl)).trans (Keep.set _ _ _ (by rfl))).trans (Keep.set _ _ _ (by rfl))).trans (Keep.set _ _ _ (by rfl))))
      refine bodyPost_ret (v := .tuple #[.agg #[.int .i64 M.now, .slice x.ca M.cpus.length x.cc, .slice x.ta M.tasks.length x.tc, .slice x.ga M.groups.length x.gc], .int .i64 (-1), .int .i64 9]) (by simp [results, Tryz.results58, go_sem, *]) rfl ⟨x, rfl, B4.out.trans (kz.out.below B4.out.size fun i h => by omega), ?_⟩
      exact OW4.out.fin kz.out (fun i h => by have := S1.out; omega) (by have := S1.out; omega)
set_option maxRecDepth 100000 in
set_option maxHeartbeats 4000000 in
theorem sMake_full (ca : Option Addr) (cc : Nat) (ta : Option Addr) (tc : Nat) (ga : Option Addr) (gc : Nat) (gh : Nat → GH) (M : WorldM) (w : World) (hs : WA w ca ta ga gh M) (hf : WFit M) (hB : worldB M = true) (s : ByteArray) (g : Nat) (hg8 : g < 8) (hu : usedI M g = true) (hn : nameB s = true) (hsm : s.size ≤ 1048576) (cq : Int) (hc0 : (cq == 1) = false) (hbg : ∀ W : World, WA W ca ta ga gh M → Calls Tryz.prog 107 #[.agg #[.int .i64 M.now, .slice ca M.cpus.length cc, .slice ta M.tasks.length tc, .slice ga M.groups.length gc]] W (WPost M cq W)) (ht : thereB M g s = false) (hd : dp M g ≠ 3) (hfr : freeM M = none) :
    Calls Tryz.prog 58 #[.agg #[.int .i64 M.now, .slice ca M.cpus.length cc, .slice ta M.tasks.length tc, .slice ga M.groups.length gc], .int .i64 g, .string s] w (WPost3 M (-1) 3 w) := by
  have HU := Lib.hid hu
  have HNM := Lib.hid hn
  have HSM := Lib.hid hsm
  have BG := Lib.hid hbg
  have HLN := Lib.hid (facts_of hB).tree.len
  have hgu : (grp M g).used = true := by have := hu; simp only [usedI, Bool.and_eq_true, Int.toNat_natCast] at this; exact this.2
  have HDP := Lib.hid (depL_is (facts_of hB).tree hg8 hgu)
  have hgm := (fitG_of hf).group
  have HC4 := Lib.hid (facts_of hB).c4
  have HT := Lib.hid ht
  clear ht
  have hd' : ((dp M g : Int) == 3) = false := by simp; omega
  clear hd
  have HFR := Lib.hid (show freeI M 0 = -1 by rw [freeI_zero, hfr])
  clear hfr
  clear hu hn hsm hbg hB hgu
  go_enter Tryz.func58, Tryz.ntmps58
  go_upto_region 1 with (fail)
  refine gen2 (p := fun W => Code.wp _ _ _ _ W) ?_
  intro W b1 s1 k0 k1
  have B1 := Lib.hid b1
  have K0 := Lib.hid k0
  have K1 := Lib.hid k1
  have S1 := Lib.hid s1
  have hs1 := hs.keep b1
  clear b1 k0 k1 hs s1
  have c0 := K0.out.cell 0
  have c1 := K0.out.cell 1
  have c2 := K0.out.cell 2
  have c3 := K0.out.cell 3
  have cf := fun i => K0.out.frozen i
  simp at c0 c1 c2 c3
  go_wp2_with fail
  refine (BG.out W hs1).mono ?_
  rintro e w3 ⟨x, rfl, hb3, ow⟩
  have K0c := Lib.hid (K0.out.below hb3 K0.out.lt)
  have K1c := Lib.hid (K1.out.below hb3 K1.out.lt)
  have B3 := Lib.hid (B1.out.andThen hb3)
  have OW := Lib.hid ow
  clear c0 c1 c2 c3 cf
  clear hs1 hb3 ow K0 K1 B1
  have c0 := K0c.out.cell 0
  have c1 := K0c.out.cell 1
  have c2 := K0c.out.cell 2
  have c3 := K0c.out.cell 3
  have cf := fun i => K0c.out.frozen i
  simp at c0 c1 c2 c3
  go_upto_region 2 with (fail)
  refine genW (p := fun W => Code.wp _ _ _ _ W) ?_
  intro w4 hw4
  have KE := Lib.hid (show Keep (fun j => j = w.heap.size) w3 w4 by rw [← hw4]; exact ((((Keep.set _ _ _ (by rfl)).trans (Keep.set _ _ _ (by rfl))).trans (Keep.set _ _ _ (by rfl))).trans (Keep.set _ _ _ (by rfl))))
  have K0d := Lib.hid (show Blk w4 w.heap.size 33 #[.int .i64 M.now, .slice x.ca M.cpus.length x.cc, .slice x.ta M.tasks.length x.tc, .slice x.ga M.groups.length x.gc] by rw [← hw4]; exact ((((K0c.out.set_ 0 _).set_ 1 _).set_ 2 _).set_ 3 _))
  have K1d := Lib.hid (KE.out.blk K1c.out (by omega))
  have OW4 := Lib.hid (OW.out.fin (B := W.heap.size) KE.out (fun i h => by have := S1.out; omega) (Nat.le_refl _))
  have B4 := Lib.hid (B3.out.trans (KE.out.below B3.out.size fun i h => by omega))
  clear hw4 KE K0c K1c OW B3
  clear c0 c1 c2 c3 cf
  have c0 := K0d.out.cell 0
  have c1 := K0d.out.cell 1
  have c2 := K0d.out.cell 2
  have c3 := K0d.out.cell 3
  have cf := fun i => K0d.out.frozen i
  simp at c0 c1 c2 c3
  have HUS := Lib.hid (sl6Used_any x.ca x.ta x.ga x.gc x.gh M w4 OW4.out.wa (g : Int))
  have HDE := Lib.hid (sl6Depth_any x.ca x.ta x.ga x.gc x.gh M w4 OW4.out.wa (by have := HLN.out; omega) (by have := HLN.out; omega) (g : Int))
  have HW4 := Lib.hid OW4.out.wa
  go_wp2_with (first | (go_at_call 57; refine (sNameOk_any s _ HSM.out).mono ?_; rintro e w' ⟨rfl, rfl⟩; rw [HNM.out]) | (go_at_call 108; refine HUS.out.mono ?_; rintro e w' ⟨rfl, rfl⟩; rw [HU.out]))
  go_loopw [10] (fun i wr => ∃ k : Nat, 1 ≤ k ∧ k ≤ M.groups.length ∧ i = .int .i64 k ∧ (List.range k).any (nkB M g s) = false ∧ w4 = wr) (fun i _ => M.groups.length - (intOf i).toNat)
  case atStart => exact ⟨1, Nat.le_refl _, by have := HLN.out; omega, rfl, rfl, rfl⟩
  case round =>
    obtain ⟨k, h1, hk, rfl, hany, rfl⟩ := hrel
    have HA := Lib.hid hany
    clear hany
    by_cases hlt : k < M.groups.length
    · obtain ⟨b, o, hga, hBl, c0', c1', c2', _⟩ := HW4.out.group_ hlt
      have i0 : (0 : Int) ≤ (k : Int) := by omega
      have i1 : (k : Int) < (M.groups.length : Int) := by omega
      have HGA := Lib.hid hga
      rw [hga] at c3
      clear hga
      have hk0 : (k != 0) = true := by simp; omega
      by_cases hf : nkB M g s k = true
      · have HTH := Lib.hid (show thereB M g s = true from any_of hlt hf)
        exfalso
        exact absurd (HTH.out.symm.trans HT.out) (by decide)
      · have HK := Lib.hid (show nkB M g s k = false by simpa using hf)
        by_cases hu : (grp M k).used = true
        · rw [hu] at c0'
          by_cases hp : (grp M k).parent = (g : Int)
          · have hne : ((grp M k).name.toList == s.toList) = false := by
              have := HK.out; unfold nkB at this; rw [hk0, hu, hp] at this; simpa using this
            rw [hp] at c1'
            clear hp hu hf
            generalize (grp M k).name = nm at *
            go_wp2
            go_roundw
            case rel => exact ⟨k + 1, by omega, by omega, by go_num, by rw [any_succ, HA.out, HK.out]; rfl, by first | rfl | trivial⟩
            case measure => simp [intOf]; omega
          · have hp2 : ((grp M k).parent == (g : Int)) = false := by simpa using hp
            generalize (grp M k).parent = P at *
            clear hu hf
            go_wp2
            go_roundw
            case rel => exact ⟨k + 1, by omega, by omega, by go_num, by rw [any_succ, HA.out, HK.out]; rfl, by first | rfl | trivial⟩
            case measure => simp [intOf]; omega
        · have hu' : (grp M k).used = false := by simpa using hu
          rw [hu'] at c0'
          clear hu hu' hf
          go_wp2
          go_roundw
          case rel => exact ⟨k + 1, by omega, by omega, by go_num, by rw [any_succ, HA.out, HK.out]; rfl, by first | rfl | trivial⟩
          case measure => simp [intOf]; omega
    · obtain rfl : k = M.groups.length := by omega
      have HTH := Lib.hid (show thereB M g s = false from HA.out)
      clear HA hk h1
      clear hlt
      generalize (dp M g : Int) = dpi at *
      go_wp2_with (go_at_call 109; refine HDE.out.mono ?_; rintro e w' ⟨rfl, rfl⟩; rw [HDP.out])
      go_loopw [11, 12] (fun a i wr => ∃ k : Nat, k ≤ 7 ∧ i = .int .i64 k ∧ a = .int .i64 (freeI M k) ∧ w4 = wr) (fun _ i _ => (intOf i).toNat)
      case atStart => exact ⟨7, Nat.le_refl _, val_eq (by have := HLN.out; omega), rfl, rfl⟩
      case round =>
        obtain ⟨k, hk7, rfl, rfl, rfl⟩ := hrel
        by_cases hk0 : 0 < k
        · have hlt : k < M.groups.length := by have := HLN.out; omega
          obtain ⟨b, o, hga, hBl, c0', _⟩ := HW4.out.group_ hlt
          have i0 : (0 : Int) < (k : Int) := by omega
          have i1 : (k : Int) < (M.groups.length : Int) := by omega
          have i2 : (0 : Int) ≤ (k : Int) := by omega
          rw [hga] at c3
          clear hga
          have hst := Lib.hid (freeI_step (M := M) (k := k) hk0 hk7)
          by_cases hu : (grp M k).used = true
          · rw [hu] at c0'
            have HV := Lib.hid (show freeI M (k - 1) = freeI M k by rw [hst.out, if_neg (by rw [hu]; decide)])
            generalize freeI M k = fv at *
            clear hu hst
            go_wp2
            go_roundw
            case rel => exact ⟨k - 1, by omega, val_eq (by omega), by rw [HV.out], by first | rfl | trivial⟩
            case measure => simp [intOf]; omega
          · have hu' : (grp M k).used = false := by simpa using hu
            rw [hu'] at c0'
            have HV := Lib.hid (show freeI M (k - 1) = (k : Int) by rw [hst.out, if_pos hu'])
            clear hu hu' hst
            go_wp2
            go_roundw
            case rel => exact ⟨k - 1, by omega, val_eq (by omega), by rw [HV.out], by first | rfl | trivial⟩
            case measure => simp [intOf]; omega
        · obtain rfl : k = 0 := by omega
          rw [HFR.out]
          clear hk7 hk0
          have d0 := K1d.out.cell 0
          have d1 := K1d.out.cell 1
          have d2 := K1d.out.cell 2
          have d3 := K1d.out.cell 3
          have df := fun i => K1d.out.frozen i
          simp at d0 d1 d2 d3
          go_wp2
          have kz := Lib.hid (show Keep (fun i => i = w.heap.size + 1) w4 ((((w4.setCell ⟨w.heap.size + 1, 0, none⟩ (.int .i64 M.now)).setCell ⟨w.heap.size + 1, 1, none⟩ (.slice x.ca M.cpus.length x.cc)).setCell ⟨w.heap.size + 1, 2, none⟩ (.slice x.ta M.tasks.length x.tc)).setCell ⟨w.heap.size + 1, 3, none⟩ (.slice x.ga M.groups.length x.gc)) from ((((Keep.set _ _ _ (by rfl)).trans (Keep.set _ _ _ (by rfl))).trans (Keep.set _ _ _ (by rfl))).trans (Keep.set _ _ _ (by rfl))))
          refine bodyPost_ret (v := .tuple #[.agg #[.int .i64 M.now, .slice x.ca M.cpus.length x.cc, .slice x.ta M.tasks.length x.tc, .slice x.ga M.groups.length x.gc], .int .i64 (-1), .int .i64 3]) (by simp [results, Tryz.results58, go_sem, *]) rfl ⟨x, rfl, B4.out.trans (kz.out.below B4.out.size fun i h => by omega), ?_⟩
          exact OW4.out.fin kz.out (fun i h => by have := S1.out; omega) (by have := S1.out; omega)
set_option maxRecDepth 100000 in
set_option maxHeartbeats 4000000 in
theorem sMake_end (ca : Option Addr) (cc : Nat) (ta : Option Addr) (tc : Nat) (ga : Option Addr) (gc : Nat) (gh : Nat → GH) (M : WorldM) (w : World) (hs : WA w ca ta ga gh M) (hf : WFit M) (hB : worldB M = true) (s : ByteArray) (g : Nat) (hg8 : g < 8) (hu : usedI M g = true) (hn : nameB s = true) (hsm : s.size ≤ 1048576) (cq : Int) (hc0 : (cq == 1) = false) (hbg : ∀ W : World, WA W ca ta ga gh M → Calls Tryz.prog 107 #[.agg #[.int .i64 M.now, .slice ca M.cpus.length cc, .slice ta M.tasks.length tc, .slice ga M.groups.length gc]] W (WPost M cq W)) (ht : thereB M g s = false) (hd : dp M g ≠ 3) (f : Nat) (hfr : freeM M = some f) (hcz : (cq == 0) = false) :
    Calls Tryz.prog 58 #[.agg #[.int .i64 M.now, .slice ca M.cpus.length cc, .slice ta M.tasks.length tc, .slice ga M.groups.length gc], .int .i64 g, .string s] w (WPost3 M (-1) cq w) := by
  have HU := Lib.hid hu
  have HNM := Lib.hid hn
  have HSM := Lib.hid hsm
  have BG := Lib.hid hbg
  have HLN := Lib.hid (facts_of hB).tree.len
  have hgu : (grp M g).used = true := by have := hu; simp only [usedI, Bool.and_eq_true, Int.toNat_natCast] at this; exact this.2
  have HDP := Lib.hid (depL_is (facts_of hB).tree hg8 hgu)
  have hgm := (fitG_of hf).group
  have HC4 := Lib.hid (facts_of hB).c4
  have HT := Lib.hid ht
  clear ht
  have hd' : ((dp M g : Int) == 3) = false := by simp; omega
  clear hd
  have hf0 : (0 : Int) ≤ (f : Int) := by omega
  have hfb := freeF_bd hfr
  have HFB := Lib.hid hfb
  have HFR := Lib.hid (show freeI M 0 = (f : Int) by rw [freeI_zero, hfr])
  clear hfr hfb
  clear hu hn hsm hbg hB hgu
  go_enter Tryz.func58, Tryz.ntmps58
  go_upto_region 1 with (fail)
  refine gen2 (p := fun W => Code.wp _ _ _ _ W) ?_
  intro W b1 s1 k0 k1
  have B1 := Lib.hid b1
  have K0 := Lib.hid k0
  have K1 := Lib.hid k1
  have S1 := Lib.hid s1
  have hs1 := hs.keep b1
  clear b1 k0 k1 hs s1
  have c0 := K0.out.cell 0
  have c1 := K0.out.cell 1
  have c2 := K0.out.cell 2
  have c3 := K0.out.cell 3
  have cf := fun i => K0.out.frozen i
  simp at c0 c1 c2 c3
  go_wp2_with fail
  refine (BG.out W hs1).mono ?_
  rintro e w3 ⟨x, rfl, hb3, ow⟩
  have K0c := Lib.hid (K0.out.below hb3 K0.out.lt)
  have K1c := Lib.hid (K1.out.below hb3 K1.out.lt)
  have B3 := Lib.hid (B1.out.andThen hb3)
  have OW := Lib.hid ow
  clear c0 c1 c2 c3 cf
  clear hs1 hb3 ow K0 K1 B1
  have c0 := K0c.out.cell 0
  have c1 := K0c.out.cell 1
  have c2 := K0c.out.cell 2
  have c3 := K0c.out.cell 3
  have cf := fun i => K0c.out.frozen i
  simp at c0 c1 c2 c3
  go_upto_region 2 with (fail)
  refine genW (p := fun W => Code.wp _ _ _ _ W) ?_
  intro w4 hw4
  have KE := Lib.hid (show Keep (fun j => j = w.heap.size) w3 w4 by rw [← hw4]; exact ((((Keep.set _ _ _ (by rfl)).trans (Keep.set _ _ _ (by rfl))).trans (Keep.set _ _ _ (by rfl))).trans (Keep.set _ _ _ (by rfl))))
  have K0d := Lib.hid (show Blk w4 w.heap.size 33 #[.int .i64 M.now, .slice x.ca M.cpus.length x.cc, .slice x.ta M.tasks.length x.tc, .slice x.ga M.groups.length x.gc] by rw [← hw4]; exact ((((K0c.out.set_ 0 _).set_ 1 _).set_ 2 _).set_ 3 _))
  have K1d := Lib.hid (KE.out.blk K1c.out (by omega))
  have OW4 := Lib.hid (OW.out.fin (B := W.heap.size) KE.out (fun i h => by have := S1.out; omega) (Nat.le_refl _))
  have B4 := Lib.hid (B3.out.trans (KE.out.below B3.out.size fun i h => by omega))
  clear hw4 KE K0c K1c OW B3
  clear c0 c1 c2 c3 cf
  have c0 := K0d.out.cell 0
  have c1 := K0d.out.cell 1
  have c2 := K0d.out.cell 2
  have c3 := K0d.out.cell 3
  have cf := fun i => K0d.out.frozen i
  simp at c0 c1 c2 c3
  have HUS := Lib.hid (sl6Used_any x.ca x.ta x.ga x.gc x.gh M w4 OW4.out.wa (g : Int))
  have HDE := Lib.hid (sl6Depth_any x.ca x.ta x.ga x.gc x.gh M w4 OW4.out.wa (by have := HLN.out; omega) (by have := HLN.out; omega) (g : Int))
  have HW4 := Lib.hid OW4.out.wa
  go_wp2_with (first | (go_at_call 57; refine (sNameOk_any s _ HSM.out).mono ?_; rintro e w' ⟨rfl, rfl⟩; rw [HNM.out]) | (go_at_call 108; refine HUS.out.mono ?_; rintro e w' ⟨rfl, rfl⟩; rw [HU.out]))
  go_loopw [10] (fun i wr => ∃ k : Nat, 1 ≤ k ∧ k ≤ M.groups.length ∧ i = .int .i64 k ∧ (List.range k).any (nkB M g s) = false ∧ w4 = wr) (fun i _ => M.groups.length - (intOf i).toNat)
  case atStart => exact ⟨1, Nat.le_refl _, by have := HLN.out; omega, rfl, rfl, rfl⟩
  case round =>
    obtain ⟨k, h1, hk, rfl, hany, rfl⟩ := hrel
    have HA := Lib.hid hany
    clear hany
    by_cases hlt : k < M.groups.length
    · obtain ⟨b, o, hga, hBl, c0', c1', c2', _⟩ := HW4.out.group_ hlt
      have i0 : (0 : Int) ≤ (k : Int) := by omega
      have i1 : (k : Int) < (M.groups.length : Int) := by omega
      have HGA := Lib.hid hga
      rw [hga] at c3
      clear hga
      have hk0 : (k != 0) = true := by simp; omega
      by_cases hf : nkB M g s k = true
      · have HTH := Lib.hid (show thereB M g s = true from any_of hlt hf)
        exfalso
        exact absurd (HTH.out.symm.trans HT.out) (by decide)
      · have HK := Lib.hid (show nkB M g s k = false by simpa using hf)
        by_cases hu : (grp M k).used = true
        · rw [hu] at c0'
          by_cases hp : (grp M k).parent = (g : Int)
          · have hne : ((grp M k).name.toList == s.toList) = false := by
              have := HK.out; unfold nkB at this; rw [hk0, hu, hp] at this; simpa using this
            rw [hp] at c1'
            clear hp hu hf
            generalize (grp M k).name = nm at *
            go_wp2
            go_roundw
            case rel => exact ⟨k + 1, by omega, by omega, by go_num, by rw [any_succ, HA.out, HK.out]; rfl, by first | rfl | trivial⟩
            case measure => simp [intOf]; omega
          · have hp2 : ((grp M k).parent == (g : Int)) = false := by simpa using hp
            generalize (grp M k).parent = P at *
            clear hu hf
            go_wp2
            go_roundw
            case rel => exact ⟨k + 1, by omega, by omega, by go_num, by rw [any_succ, HA.out, HK.out]; rfl, by first | rfl | trivial⟩
            case measure => simp [intOf]; omega
        · have hu' : (grp M k).used = false := by simpa using hu
          rw [hu'] at c0'
          clear hu hu' hf
          go_wp2
          go_roundw
          case rel => exact ⟨k + 1, by omega, by omega, by go_num, by rw [any_succ, HA.out, HK.out]; rfl, by first | rfl | trivial⟩
          case measure => simp [intOf]; omega
    · obtain rfl : k = M.groups.length := by omega
      have HTH := Lib.hid (show thereB M g s = false from HA.out)
      clear HA hk h1
      clear hlt
      generalize (dp M g : Int) = dpi at *
      go_wp2_with (go_at_call 109; refine HDE.out.mono ?_; rintro e w' ⟨rfl, rfl⟩; rw [HDP.out])
      go_loopw [11, 12] (fun a i wr => ∃ k : Nat, k ≤ 7 ∧ i = .int .i64 k ∧ a = .int .i64 (freeI M k) ∧ w4 = wr) (fun _ i _ => (intOf i).toNat)
      case atStart => exact ⟨7, Nat.le_refl _, val_eq (by have := HLN.out; omega), rfl, rfl⟩
      case round =>
        obtain ⟨k, hk7, rfl, rfl, rfl⟩ := hrel
        by_cases hk0 : 0 < k
        · have hlt : k < M.groups.length := by have := HLN.out; omega
          obtain ⟨b, o, hga, hBl, c0', _⟩ := HW4.out.group_ hlt
          have i0 : (0 : Int) < (k : Int) := by omega
          have i1 : (k : Int) < (M.groups.length : Int) := by omega
          have i2 : (0 : Int) ≤ (k : Int) := by omega
          rw [hga] at c3
          clear hga
          have hst := Lib.hid (freeI_step (M := M) (k := k) hk0 hk7)
          by_cases hu : (grp M k).used = true
          · rw [hu] at c0'
            have HV := Lib.hid (show freeI M (k - 1) = freeI M k by rw [hst.out, if_neg (by rw [hu]; decide)])
            generalize freeI M k = fv at *
            clear hu hst
            go_wp2
            go_roundw
            case rel => exact ⟨k - 1, by omega, val_eq (by omega), by rw [HV.out], by first | rfl | trivial⟩
            case measure => simp [intOf]; omega
          · have hu' : (grp M k).used = false := by simpa using hu
            rw [hu'] at c0'
            have HV := Lib.hid (show freeI M (k - 1) = (k : Int) by rw [hst.out, if_pos hu'])
            clear hu hu' hst
            go_wp2
            go_roundw
            case rel => exact ⟨k - 1, by omega, val_eq (by omega), by rw [HV.out], by first | rfl | trivial⟩
            case measure => simp [intOf]; omega
        · obtain rfl : k = 0 := by omega
          rw [HFR.out]
          clear hk7 hk0
          have d0 := K1d.out.cell 0
          have d1 := K1d.out.cell 1
          have d2 := K1d.out.cell 2
          have d3 := K1d.out.cell 3
          have df := fun i => K1d.out.frozen i
          simp at d0 d1 d2 d3
          go_wp2
          have kz := Lib.hid (show Keep (fun i => i = w.heap.size + 1) w4 ((((w4.setCell ⟨w.heap.size + 1, 0, none⟩ (.int .i64 M.now)).setCell ⟨w.heap.size + 1, 1, none⟩ (.slice x.ca M.cpus.length x.cc)).setCell ⟨w.heap.size + 1, 2, none⟩ (.slice x.ta M.tasks.length x.tc)).setCell ⟨w.heap.size + 1, 3, none⟩ (.slice x.ga M.groups.length x.gc)) from ((((Keep.set _ _ _ (by rfl)).trans (Keep.set _ _ _ (by rfl))).trans (Keep.set _ _ _ (by rfl))).trans (Keep.set _ _ _ (by rfl))))
          refine bodyPost_ret (v := .tuple #[.agg #[.int .i64 M.now, .slice x.ca M.cpus.length x.cc, .slice x.ta M.tasks.length x.tc, .slice x.ga M.groups.length x.gc], .int .i64 (-1), .int .i64 cq]) (by simp [results, Tryz.results58, go_sem, *]) rfl ⟨x, rfl, B4.out.trans (kz.out.below B4.out.size fun i h => by omega), ?_⟩
          exact OW4.out.fin kz.out (fun i h => by have := S1.out; omega) (by have := S1.out; omega)
set_option maxRecDepth 100000 in
set_option maxHeartbeats 4000000 in
theorem sMake_done (ca : Option Addr) (cc : Nat) (ta : Option Addr) (tc : Nat) (ga : Option Addr) (gc : Nat) (gh : Nat → GH) (M : WorldM) (w : World) (hs : WA w ca ta ga gh M) (hf : WFit M) (hB : worldB M = true) (s : ByteArray) (g : Nat) (hg8 : g < 8) (hu : usedI M g = true) (hn : nameB s = true) (hsm : s.size ≤ 1048576) (cq : Int) (hc0 : (cq == 1) = false) (hbg : ∀ W : World, WA W ca ta ga gh M → Calls Tryz.prog 107 #[.agg #[.int .i64 M.now, .slice ca M.cpus.length cc, .slice ta M.tasks.length tc, .slice ga M.groups.length gc]] W (WPost M cq W)) (ht : thereB M g s = false) (hd : dp M g ≠ 3) (f : Nat) (hfr : freeM M = some f) (hcz : cq = 0) :
    Calls Tryz.prog 58 #[.agg #[.int .i64 M.now, .slice ca M.cpus.length cc, .slice ta M.tasks.length tc, .slice ga M.groups.length gc], .int .i64 g, .string s] w (WPost3 (setG M f (newG M.cpus.length g s)) f 0 w) := by
  have HU := Lib.hid hu
  have HNM := Lib.hid hn
  have HSM := Lib.hid hsm
  have BG := Lib.hid hbg
  have HLN := Lib.hid (facts_of hB).tree.len
  have hgu : (grp M g).used = true := by have := hu; simp only [usedI, Bool.and_eq_true, Int.toNat_natCast] at this; exact this.2
  have HDP := Lib.hid (depL_is (facts_of hB).tree hg8 hgu)
  have hgm := (fitG_of hf).group
  have HC4 := Lib.hid (facts_of hB).c4
  subst hcz
  have HT := Lib.hid ht
  clear ht
  have hd' : ((dp M g : Int) == 3) = false := by simp; omega
  clear hd
  have hf0 : (0 : Int) ≤ (f : Int) := by omega
  have hfb := freeF_bd hfr
  have HFB := Lib.hid hfb
  have HFR := Lib.hid (show freeI M 0 = (f : Int) by rw [freeI_zero, hfr])
  clear hfr hfb
  clear hu hn hsm hbg hB hgu
  go_enter Tryz.func58, Tryz.ntmps58
  go_upto_region 1 with (fail)
  refine gen2 (p := fun W => Code.wp _ _ _ _ W) ?_
  intro W b1 s1 k0 k1
  have B1 := Lib.hid b1
  have K0 := Lib.hid k0
  have K1 := Lib.hid k1
  have S1 := Lib.hid s1
  have hs1 := hs.keep b1
  clear b1 k0 k1 hs s1
  have c0 := K0.out.cell 0
  have c1 := K0.out.cell 1
  have c2 := K0.out.cell 2
  have c3 := K0.out.cell 3
  have cf := fun i => K0.out.frozen i
  simp at c0 c1 c2 c3
  go_wp2_with fail
  refine (BG.out W hs1).mono ?_
  rintro e w3 ⟨x, rfl, hb3, ow⟩
  have K0c := Lib.hid (K0.out.below hb3 K0.out.lt)
  have K1c := Lib.hid (K1.out.below hb3 K1.out.lt)
  have B3 := Lib.hid (B1.out.andThen hb3)
  have OW := Lib.hid ow
  clear c0 c1 c2 c3 cf
  clear hs1 hb3 ow K0 K1 B1
  have c0 := K0c.out.cell 0
  have c1 := K0c.out.cell 1
  have c2 := K0c.out.cell 2
  have c3 := K0c.out.cell 3
  have cf := fun i => K0c.out.frozen i
  simp at c0 c1 c2 c3
  go_upto_region 2 with (fail)
  refine genW (p := fun W => Code.wp _ _ _ _ W) ?_
  intro w4 hw4
  have KE := Lib.hid (show Keep (fun j => j = w.heap.size) w3 w4 by rw [← hw4]; exact ((((Keep.set _ _ _ (by rfl)).trans (Keep.set _ _ _ (by rfl))).trans (Keep.set _ _ _ (by rfl))).trans (Keep.set _ _ _ (by rfl))))
  have K0d := Lib.hid (show Blk w4 w.heap.size 33 #[.int .i64 M.now, .slice x.ca M.cpus.length x.cc, .slice x.ta M.tasks.length x.tc, .slice x.ga M.groups.length x.gc] by rw [← hw4]; exact ((((K0c.out.set_ 0 _).set_ 1 _).set_ 2 _).set_ 3 _))
  have K1d := Lib.hid (KE.out.blk K1c.out (by omega))
  have OW4 := Lib.hid (OW.out.fin (B := W.heap.size) KE.out (fun i h => by have := S1.out; omega) (Nat.le_refl _))
  have B4 := Lib.hid (B3.out.trans (KE.out.below B3.out.size fun i h => by omega))
  clear hw4 KE K0c K1c OW B3
  clear c0 c1 c2 c3 cf
  have c0 := K0d.out.cell 0
  have c1 := K0d.out.cell 1
  have c2 := K0d.out.cell 2
  have c3 := K0d.out.cell 3
  have cf := fun i => K0d.out.frozen i
  simp at c0 c1 c2 c3
  have HUS := Lib.hid (sl6Used_any x.ca x.ta x.ga x.gc x.gh M w4 OW4.out.wa (g : Int))
  have HDE := Lib.hid (sl6Depth_any x.ca x.ta x.ga x.gc x.gh M w4 OW4.out.wa (by have := HLN.out; omega) (by have := HLN.out; omega) (g : Int))
  have HW4 := Lib.hid OW4.out.wa
  go_wp2_with (first | (go_at_call 57; refine (sNameOk_any s _ HSM.out).mono ?_; rintro e w' ⟨rfl, rfl⟩; rw [HNM.out]) | (go_at_call 108; refine HUS.out.mono ?_; rintro e w' ⟨rfl, rfl⟩; rw [HU.out]))
  go_loopw [10] (fun i wr => ∃ k : Nat, 1 ≤ k ∧ k ≤ M.groups.length ∧ i = .int .i64 k ∧ (List.range k).any (nkB M g s) = false ∧ w4 = wr) (fun i _ => M.groups.length - (intOf i).toNat)
  case atStart => exact ⟨1, Nat.le_refl _, by have := HLN.out; omega, rfl, rfl, rfl⟩
  case round =>
    obtain ⟨k, h1, hk, rfl, hany, rfl⟩ := hrel
    have HA := Lib.hid hany
    clear hany
    by_cases hlt : k < M.groups.length
    · obtain ⟨b, o, hga, hBl, c0', c1', c2', _⟩ := HW4.out.group_ hlt
      have i0 : (0 : Int) ≤ (k : Int) := by omega
      have i1 : (k : Int) < (M.groups.length : Int) := by omega
      have HGA := Lib.hid hga
      rw [hga] at c3
      clear hga
      have hk0 : (k != 0) = true := by simp; omega
      by_cases hf : nkB M g s k = true
      · have HTH := Lib.hid (show thereB M g s = true from any_of hlt hf)
        exfalso
        exact absurd (HTH.out.symm.trans HT.out) (by decide)
      · have HK := Lib.hid (show nkB M g s k = false by simpa using hf)
        by_cases hu : (grp M k).used = true
        · rw [hu] at c0'
          by_cases hp : (grp M k).parent = (g : Int)
          · have hne : ((grp M k).name.toList == s.toList) = false := by
              have := HK.out; unfold nkB at this; rw [hk0, hu, hp] at this; simpa using this
            rw [hp] at c1'
            clear hp hu hf
            generalize (grp M k).name = nm at *
            go_wp2
            go_roundw
            case rel => exact ⟨k + 1, by omega, by omega, by go_num, by rw [any_succ, HA.out, HK.out]; rfl, by first | rfl | trivial⟩
            case measure => simp [intOf]; omega
          · have hp2 : ((grp M k).parent == (g : Int)) = false := by simpa using hp
            generalize (grp M k).parent = P at *
            clear hu hf
            go_wp2
            go_roundw
            case rel => exact ⟨k + 1, by omega, by omega, by go_num, by rw [any_succ, HA.out, HK.out]; rfl, by first | rfl | trivial⟩
            case measure => simp [intOf]; omega
        · have hu' : (grp M k).used = false := by simpa using hu
          rw [hu'] at c0'
          clear hu hu' hf
          go_wp2
          go_roundw
          case rel => exact ⟨k + 1, by omega, by omega, by go_num, by rw [any_succ, HA.out, HK.out]; rfl, by first | rfl | trivial⟩
          case measure => simp [intOf]; omega
    · obtain rfl : k = M.groups.length := by omega
      have HTH := Lib.hid (show thereB M g s = false from HA.out)
      clear HA hk h1
      clear hlt
      generalize (dp M g : Int) = dpi at *
      go_wp2_with (go_at_call 109; refine HDE.out.mono ?_; rintro e w' ⟨rfl, rfl⟩; rw [HDP.out])
      go_loopw [11, 12] (fun a i wr => ∃ k : Nat, k ≤ 7 ∧ i = .int .i64 k ∧ a = .int .i64 (freeI M k) ∧ w4 = wr) (fun _ i _ => (intOf i).toNat)
      case atStart => exact ⟨7, Nat.le_refl _, val_eq (by have := HLN.out; omega), rfl, rfl⟩
      case round =>
        obtain ⟨k, hk7, rfl, rfl, rfl⟩ := hrel
        by_cases hk0 : 0 < k
        · have hlt : k < M.groups.length := by have := HLN.out; omega
          obtain ⟨b, o, hga, hBl, c0', _⟩ := HW4.out.group_ hlt
          have i0 : (0 : Int) < (k : Int) := by omega
          have i1 : (k : Int) < (M.groups.length : Int) := by omega
          have i2 : (0 : Int) ≤ (k : Int) := by omega
          rw [hga] at c3
          clear hga
          have hst := Lib.hid (freeI_step (M := M) (k := k) hk0 hk7)
          by_cases hu : (grp M k).used = true
          · rw [hu] at c0'
            have HV := Lib.hid (show freeI M (k - 1) = freeI M k by rw [hst.out, if_neg (by rw [hu]; decide)])
            generalize freeI M k = fv at *
            clear hu hst
            go_wp2
            go_roundw
            case rel => exact ⟨k - 1, by omega, val_eq (by omega), by rw [HV.out], by first | rfl | trivial⟩
            case measure => simp [intOf]; omega
          · have hu' : (grp M k).used = false := by simpa using hu
            rw [hu'] at c0'
            have HV := Lib.hid (show freeI M (k - 1) = (k : Int) by rw [hst.out, if_pos hu'])
            clear hu hu' hst
            go_wp2
            go_roundw
            case rel => exact ⟨k - 1, by omega, val_eq (by omega), by rw [HV.out], by first | rfl | trivial⟩
            case measure => simp [intOf]; omega
        · obtain rfl : k = 0 := by omega
          rw [HFR.out]
          clear hk7 hk0
          have HG := Lib.hid (show f < M.groups.length by have := HFB.out; have := HLN.out; omega)
          have ig : (f : Int) < (M.groups.length : Int) := by have := HG.out; omega
          go_upto_region 23 with (fail)
          have bd : Below w4.heap.size w4 w4.drew := ⟨rfl, rfl, rfl, Nat.le_refl _, fun _ _ => rfl⟩
          have q_c3 := fun d os => cell_regrown c3 d os
          have q_c1 := fun d os => cell_regrown c1 d os
          refine region_S 9 [0, 0, 0, 0, 0, 0, 0, 0, 1, 1, 2] [0, 1, 2, 3, 4, 5, 6, 7, 8, 9, 10] (by kernel_rfl) (by kernel_rfl) (by kernel_rfl) rfl (by kernel_rfl) (by kernel_rfl) ?_
          simp only [permL, List.getElem?_cons_zero, List.getElem?_cons_succ, Option.toList_some, List.cons_append, List.nil_append]
          repeat (first | (refine wpS_skip (by rfl) ?_; simp only [Act.put, List.setIfInBounds_toArray, List.set_cons_zero, List.set_cons_succ]) | (refine wpS_det (by rfl) (fun K hK => ?_); go_big_quiet_op; refine hK _ ?_; clear hK K))
          refine wpS_bar (by rfl) (fun K hK => ?_)
          go_big_op
          go_at_call 110
          refine (sL8Group_any g s M.cpus.length HC4.out w4.drew).mono ?_
          rintro e w5 ⟨sa, sc, rfl, hb5, hS⟩
          have HB5 := Lib.hid (bd.andThen hb5)
          have HS5 := Lib.hid hS
          refine hK _ _ (regrown_of_below (bd.andThen hb5)) ?_
          clear hK K
          have OW5 := Lib.hid (OW4.out.below HB5.out)
          have K0e := Lib.hid (K0d.out.below HB5.out K0d.out.lt)
          have K1e := Lib.hid (K1d.out.below HB5.out K1d.out.lt)
          obtain ⟨b, hxa, hbl, hbB, v0, f0⟩ := OW5.out.grps.cell (k := f) (i := 0) HG.out (by omega)
          obtain ⟨_, e, _, _, v1, f1⟩ := OW5.out.grps.cell (k := f) (i := 1) HG.out (by omega); cases hxa.symm.trans e; clear e
          obtain ⟨_, e, _, _, v2, f2⟩ := OW5.out.grps.cell (k := f) (i := 2) HG.out (by omega); cases hxa.symm.trans e; clear e
          obtain ⟨_, e, _, _, v3, f3⟩ := OW5.out.grps.cell (k := f) (i := 3) HG.out (by omega); cases hxa.symm.trans e; clear e
          obtain ⟨_, e, _, _, v4, f4⟩ := OW5.out.grps.cell (k := f) (i := 4) HG.out (by omega); cases hxa.symm.trans e; clear e
          obtain ⟨_, e, _, _, v5, f5⟩ := OW5.out.grps.cell (k := f) (i := 5) HG.out (by omega); cases hxa.symm.trans e; clear e
          obtain ⟨_, e, _, _, v6, f6⟩ := OW5.out.grps.cell (k := f) (i := 6) HG.out (by omega); cases hxa.symm.trans e; clear e
          obtain ⟨_, e, _, _, v7, f7⟩ := OW5.out.grps.cell (k := f) (i := 7) HG.out (by omega); cases hxa.symm.trans e; clear e
          obtain ⟨_, e, _, _, v8, f8⟩ := OW5.out.grps.cell (k := f) (i := 8) HG.out (by omega); cases hxa.symm.trans e; clear e
          obtain ⟨_, e, _, _, v9, f9⟩ := OW5.out.grps.cell (k := f) (i := 9) HG.out (by omega); cases hxa.symm.trans e; clear e
          obtain ⟨_, e, _, _, v10, f10⟩ := OW5.out.grps.cell (k := f) (i := 10) HG.out (by omega); cases hxa.symm.trans e; clear e
          obtain ⟨_, e, _, _, v11, f11⟩ := OW5.out.grps.cell (k := f) (i := 11) HG.out (by omega); cases hxa.symm.trans e; clear e
          obtain ⟨_, e, _, _, v12, f12⟩ := OW5.out.grps.cell (k := f) (i := 12) HG.out (by omega); cases hxa.symm.trans e; clear e
          obtain ⟨_, e, _, _, v13, f13⟩ := OW5.out.grps.cell (k := f) (i := 13) HG.out (by omega); cases hxa.symm.trans e; clear e
          simp only [Nat.add_zero] at v0 f0
          rw [hxa]
          have HXA := Lib.hid hxa
          clear hxa
          repeat (first | (refine wpS_skip (by rfl) ?_; simp only [Act.put, List.setIfInBounds_toArray, List.set_cons_zero, List.set_cons_succ]) | (refine wpS_det (by rfl) (fun K hK => ?_); go_big_quiet_op; refine hK _ ?_; clear hK K))
          refine wpS_bar (by rfl) (fun K hK => ?_)
          go_big_op
          refine hK _ _ (regrown_of_below HB5.out) ?_
          clear hK K
          refine wpS_end (by rfl) (fun K hK => ?_)
          go_big_op
          refine hK _ _ ?_
          clear hK K
          refine wpS_nil ?_
          go_upto_region 24 with (fail)
          refine genW (p := fun W => Code.wp _ _ _ _ W) ?_
          intro w6 hw6
          have e6 : (nl g s M.cpus.length sa sc).foldl (fun w p => w.setCell ⟨b, f * 14 + p.1, none⟩ p.2) w5 = w6 := hw6
          have OW6 := Lib.hid (show Own w6 W.heap.size x.ca x.ta x.ga (hset x.gh f (newH sa sc)) (setG M f (newG M.cpus.length g s)) by have o := OW5.out; rw [HXA.out] at o ⊢; have := o.put (g := f) (N := w4.heap.size) HG.out g s M.cpus.length sa sc (fun i hi => (OW4.out.has (by rw [HXA.out]; exact hi)).2) (Nat.le_trans (Nat.le_refl _) (by have := (OW4.out.has (g := b) (.inr (.inr (.inl HXA.out)))); omega)) HS5.out; rw [e6] at this; exact this)
          have KK := Lib.hid (show Keep (fun j => j = b) w5 w6 by have := Keep.sets (S := fun j => j = b) (n := 14) (k := f) (by rfl) (nl g s M.cpus.length sa sc) w5; rw [e6] at this; exact this)
          have hbw : W.heap.size ≤ b := hbB
          have K0f := Lib.hid (KK.out.blk K0e.out (by have := S1.out; omega))
          have K1f := Lib.hid (KK.out.blk K1e.out (by have := S1.out; omega))
          have B6 := Lib.hid ((B4.out.andThen HB5.out).trans (KK.out.below (B := w.heap.size) (by have := (B4.out.andThen HB5.out).size; exact this) fun i h => by have := S1.out; omega))
          clear hw6 e6 KK K0e K1e OW5 OW4 B4 q_c3 q_c1 bd hb5 hS v0 f0 v1 f1 v2 f2 v3 f3 v4 f4 v5 f5 v6 f6 v7 f7 v8 f8 v9 f9 v10 f10 v11 f11 v12 f12 v13 f13
          clear c0 c1 c2 c3 cf
          have c0 := K0f.out.cell 0
          have c1 := K0f.out.cell 1
          have c2 := K0f.out.cell 2
          have c3 := K0f.out.cell 3
          have cf := fun i => K0f.out.frozen i
          simp at c0 c1 c2 c3
          have d0 := K1f.out.cell 0
          have d1 := K1f.out.cell 1
          have d2 := K1f.out.cell 2
          have d3 := K1f.out.cell 3
          have df := fun i => K1f.out.frozen i
          simp at d0 d1 d2 d3
          go_wp2
          have kz := Lib.hid (show Keep (fun i => i = w.heap.size + 1) w6 ((((w6.setCell ⟨w.heap.size + 1, 0, none⟩ (.int .i64 M.now)).setCell ⟨w.heap.size + 1, 1, none⟩ (.slice x.ca M.cpus.length x.cc)).setCell ⟨w.heap.size + 1, 2, none⟩ (.slice x.ta M.tasks.length x.tc)).setCell ⟨w.heap.size + 1, 3, none⟩ (.slice x.ga M.groups.length x.gc)) from ((((Keep.set _ _ _ (by rfl)).trans (Keep.set _ _ _ (by rfl))).trans (Keep.set _ _ _ (by rfl))).trans (Keep.set _ _ _ (by rfl))))
          refine bodyPost_ret (v := .tuple #[.agg #[.int .i64 M.now, .slice x.ca M.cpus.length x.cc, .slice x.ta M.tasks.length x.tc, .slice x.ga M.groups.length x.gc], .int .i64 f, .int .i64 0]) (by simp [results, Tryz.results58, go_sem, *]) rfl ⟨⟨x.ca, x.cc, x.ta, x.tc, x.ga, x.gc, hset x.gh f (newH sa sc)⟩, by simp [setG], B6.out.trans (kz.out.below B6.out.size fun i h => by omega), ?_⟩
          exact OW6.out.fin kz.out (fun i h => by have := S1.out; omega) (by have := S1.out; omega)
end Go.Proofs.YtknfpigaognklaaGreatDoor
namespace Go.Proofs.YtknfpigaognklaaGreatDoor
open Go.RowKit Go.Sort
def MPost (M : WorldM) (c : Int) (w : World) (e : Ending) (w' : World) : Prop := ∃ sl : Int, WPost3 M sl c w e w'
theorem sMake_any (ca : Option Addr) (cc : Nat) (ta : Option Addr) (tc : Nat) (ga : Option Addr) (gc : Nat) (gh : Nat → GH) (M : WorldM) (w : World) (hs : WA w ca ta ga gh M) (hf : WFit M) (hB : worldB M = true) (s : ByteArray) (g : Nat) (hg8 : g < 8) (hu : usedI M g = true) (hn : nameB s = true) (hsm : s.size ≤ 1048576) :
    Calls Tryz.prog 58 #[.agg #[.int .i64 M.now, .slice ca M.cpus.length cc, .slice ta M.tasks.length tc, .slice ga M.groups.length gc], .int .i64 g, .string s] w (MPost (makeW M g s) (makeC M g s) w) := by
  obtain ⟨cq, hcq, hc1, hbg⟩ : ∃ cq : Int, cq = (if roomM M = true then 0 else 10) ∧ (cq == 1) = false ∧ ∀ W : World, WA W ca ta ga gh M → Calls Tryz.prog 107 #[.agg #[.int .i64 M.now, .slice ca M.cpus.length cc, .slice ta M.tasks.length tc, .slice ga M.groups.length gc]] W (WPost M cq W) := by
    by_cases hR : roomM M = true
    · exact ⟨0, by rw [if_pos hR], rfl, fun W hW => sBegin_yes ca cc ta tc ga gc gh M W hW hf hB hR⟩
    · exact ⟨10, by rw [if_neg hR], rfl, fun W hW => sBegin_end ca cc ta tc ga gc gh M W hW hf hB (by simpa using hR)⟩
  have e0 : makeC M g s = if thereB M g s = true then 7 else if dp M g = 3 then 9 else match freeM M with
      | none => 3
      | some _ => if roomM M = true then 0 else 10 := by
    rw [makeC, if_neg (by rw [hn]; decide), if_neg (by rw [hu]; decide), Int.toNat_natCast]
    try rfl
  by_cases ht : thereB M g s = true
  · have e1 : makeC M g s = 7 := by rw [e0, if_pos ht]
    rw [makeW, e1, if_neg (by decide)]
    exact (sMake_there ca cc ta tc ga gc gh M w hs hf hB s g hg8 hu hn hsm cq hc1 hbg ht).mono fun _ _ h => ⟨_, h⟩
  · have ht' : thereB M g s = false := by simpa using ht
    by_cases hd : dp M g = 3
    · have e1 : makeC M g s = 9 := by rw [e0, if_neg ht, if_pos hd]
      rw [makeW, e1, if_neg (by decide)]
      exact (sMake_deep ca cc ta tc ga gc gh M w hs hf hB s g hg8 hu hn hsm cq hc1 hbg ht' hd).mono fun _ _ h => ⟨_, h⟩
    · cases hfr : freeM M with
      | none =>
        have e1 : makeC M g s = 3 := by rw [e0, if_neg ht, if_neg hd, hfr]
        rw [makeW, e1, if_neg (by decide)]
        exact (sMake_full ca cc ta tc ga gc gh M w hs hf hB s g hg8 hu hn hsm cq hc1 hbg ht' hd hfr).mono fun _ _ h => ⟨_, h⟩
      | some f =>
        by_cases hR : roomM M = true
        · have e1 : makeC M g s = 0 := by rw [e0, if_neg ht, if_neg hd, hfr]; exact if_pos hR
          rw [makeW, e1, if_pos rfl, hfr]
          exact (sMake_done ca cc ta tc ga gc gh M w hs hf hB s g hg8 hu hn hsm cq hc1 hbg ht' hd f hfr (by rw [hcq, if_pos hR])).mono fun _ _ h => ⟨_, h⟩
        · have e1 : makeC M g s = 10 := by rw [e0, if_neg ht, if_neg hd, hfr]; exact if_neg hR
          rw [makeW, e1, if_neg (by decide)]
          have h10 : cq = 10 := by rw [hcq, if_neg hR]
          subst h10
          exact (sMake_end ca cc ta tc ga gc gh M w hs hf hB s g hg8 hu hn hsm 10 hc1 hbg ht' hd f hfr rfl).mono fun _ _ h => ⟨_, h⟩
theorem splitF_size {p : ByteArray} (h : pathOk p = true) : (splitF p).size ≤ 1048576 := by
  obtain ⟨h1, h2, _⟩ := pathOk_parts h
  unfold splitF
  rw [ByteArray.size_extract]
  omega
set_option maxRecDepth 100000 in
set_option maxHeartbeats 4000000 in
theorem sFileMake_bad (ca : Option Addr) (cc : Nat) (ta : Option Addr) (tc : Nat) (ga : Option Addr) (gc : Nat) (gh : Nat → GH) (M : WorldM) (w : World) (hs : WA w ca ta ga gh M) (hf : WFit M) (p : ByteArray) (hB : worldB M = false) :
    Calls Tryz.prog 18 #[.agg #[.int .i64 M.now, .slice ca M.cpus.length cc, .slice ta M.tasks.length tc, .slice ga M.groups.length gc], .string p] w (WPost world0 1 w) := by
  have HWB := Lib.hid hB
  clear hB
  go_enter Tryz.func18, Tryz.ntmps18
  go_upto_region 1 with (fail)
  refine gen2 (p := fun W => Code.wp _ _ _ _ W) ?_
  intro W b1 s1 k0 k1
  have B1 := Lib.hid b1
  have K0 := Lib.hid k0
  have K1 := Lib.hid k1
  have S1 := Lib.hid s1
  have hs1 := hs.keep b1
  clear b1 k0 k1 hs s1
  have c0 := K0.out.cell 0
  have c1 := K0.out.cell 1
  have c2 := K0.out.cell 2
  have c3 := K0.out.cell 3
  have cf := fun i => K0.out.frozen i
  simp at c0 c1 c2 c3
  go_wp2_with fail
  refine (sWorldOk_any ca cc ta tc ga gc gh M _ hs1 (fitG_of hf)).mono ?_
  rintro e w2 ⟨rfl, hb2⟩
  rw [HWB.out]
  have K1b := Lib.hid (K1.out.below hb2 K1.out.lt)
  clear c0 c1 c2 c3 cf
  have d0 := K1b.out.cell 0
  have d1 := K1b.out.cell 1
  have d2 := K1b.out.cell 2
  have d3 := K1b.out.cell 3
  have df := fun i => K1b.out.frozen i
  simp at d0 d1 d2 d3
  go_wp2
  refine bodyPost_ret (v := .tuple #[.agg #[.int .i64 0, .slice none 0 0, .slice none 0 0, .slice none 0 0], .int .i64 1]) (by simp [results, Tryz.results18, go_sem, *]) rfl ⟨⟨none, 0, none, 0, none, 0, gh⟩, rfl, ?_, own0 _ _ _⟩
  exact ((((B1.out.andThen hb2).setCell (by simp) _).setCell (by simp) _).setCell (by simp) _).setCell (by simp) _
set_option maxRecDepth 100000 in
set_option maxHeartbeats 4000000 in
theorem sFileMake_path (ca : Option Addr) (cc : Nat) (ta : Option Addr) (tc : Nat) (ga : Option Addr) (gc : Nat) (gh : Nat → GH) (M : WorldM) (w : World) (hs : WA w ca ta ga gh M) (hf : WFit M) (p : ByteArray) (hB : worldB M = true) (hp : pathOk p = false) :
    Calls Tryz.prog 18 #[.agg #[.int .i64 M.now, .slice ca M.cpus.length cc, .slice ta M.tasks.length tc, .slice ga M.groups.length gc], .string p] w (WPost M 1 w) := by
  have HWB := Lib.hid hB
  have HP := Lib.hid hp
  clear hB hp
  go_enter Tryz.func18, Tryz.ntmps18
  go_upto_region 1 with (fail)
  refine gen2 (p := fun W => Code.wp _ _ _ _ W) ?_
  intro W b1 s1 k0 k1
  have B1 := Lib.hid b1
  have K0 := Lib.hid k0
  have K1 := Lib.hid k1
  have S1 := Lib.hid s1
  have hs1 := hs.keep b1
  clear b1 k0 k1 hs s1
  have c0 := K0.out.cell 0
  have c1 := K0.out.cell 1
  have c2 := K0.out.cell 2
  have c3 := K0.out.cell 3
  have cf := fun i => K0.out.frozen i
  simp at c0 c1 c2 c3
  go_wp2_with fail
  refine (sWorldOk_any ca cc ta tc ga gc gh M _ hs1 (fitG_of hf)).mono ?_
  rintro e w2 ⟨rfl, hb2⟩
  rw [HWB.out]
  have K0b := Lib.hid (K0.out.below hb2 K0.out.lt)
  have K1b := Lib.hid (K1.out.below hb2 K1.out.lt)
  have HS2 := Lib.hid (hs1.keep hb2)
  have B2 := Lib.hid (B1.out.andThen hb2)
  have Z2 := Lib.hid hb2.size
  clear c0 c1 c2 c3 cf
  clear hs1 hb2 K0 K1 B1
  have c0 := K0b.out.cell 0
  have c1 := K0b.out.cell 1
  have c2 := K0b.out.cell 2
  have c3 := K0b.out.cell 3
  have cf := fun i => K0b.out.frozen i
  simp at c0 c1 c2 c3
  go_wp2_with fail
  refine (sSplit_no p _ HP.out).mono ?_
  rintro e w3 ⟨rfl, hb3⟩
  have K0c := Lib.hid (K0b.out.below hb3 K0b.out.lt)
  have K1c := Lib.hid (K1b.out.below hb3 K1b.out.lt)
  have HS3 := Lib.hid (HS2.out.keep hb3)
  have B3 := Lib.hid (B2.out.andThen hb3)
  have Z3 := Lib.hid (Nat.le_trans Z2.out hb3.size)
  clear c0 c1 c2 c3 cf
  clear hb3 K0b K1b HS2 B2 Z2
  have c0 := K0c.out.cell 0
  have c1 := K0c.out.cell 1
  have c2 := K0c.out.cell 2
  have c3 := K0c.out.cell 3
  have cf := fun i => K0c.out.frozen i
  simp at c0 c1 c2 c3
  go_wp2_with fail
  refine (sL8Own_any ⟨ca, cc, ta, tc, ga, gc, gh⟩ M _ (watOf HS3.out) hf (band_len HWB.out)).mono ?_
  rintro e w9 ⟨x, rfl, hb9, ow⟩
  have K1z := Lib.hid (K1c.out.below hb9 K1c.out.lt)
  have BZ := Lib.hid (B3.out.andThen hb9)
  have OW := Lib.hid ow
  clear c0 c1 c2 c3 cf
  clear hb9 ow
  have d0 := K1z.out.cell 0
  have d1 := K1z.out.cell 1
  have d2 := K1z.out.cell 2
  have d3 := K1z.out.cell 3
  have df := fun i => K1z.out.frozen i
  simp at d0 d1 d2 d3
  go_wp2
  have kk := Lib.hid (show Keep (fun i => i = w.heap.size + 1) w9 ((((w9.setCell ⟨w.heap.size + 1, 0, none⟩ (.int .i64 M.now)).setCell ⟨w.heap.size + 1, 1, none⟩ (.slice x.ca M.cpus.length x.cc)).setCell ⟨w.heap.size + 1, 2, none⟩ (.slice x.ta M.tasks.length x.tc)).setCell ⟨w.heap.size + 1, 3, none⟩ (.slice x.ga M.groups.length x.gc)) from ((((Keep.set _ _ _ (by rfl)).trans (Keep.set _ _ _ (by rfl))).trans (Keep.set _ _ _ (by rfl))).trans (Keep.set _ _ _ (by rfl))))
  refine bodyPost_ret (v := .tuple #[.agg #[.int .i64 M.now, .slice x.ca M.cpus.length x.cc, .slice x.ta M.tasks.length x.tc, .slice x.ga M.groups.length x.gc], .int .i64 1]) (by simp [results, Tryz.results18, go_sem, *]) rfl ⟨x, rfl, BZ.out.trans (kk.out.below BZ.out.size fun i h => by omega), ?_⟩
  exact OW.out.fin kk.out (fun i h => by have := S1.out; have := Z3.out; omega) (by have := S1.out; have := Z3.out; omega)
set_option maxRecDepth 100000 in
set_option maxHeartbeats 4000000 in
theorem sFileMake_name (ca : Option Addr) (cc : Nat) (ta : Option Addr) (tc : Nat) (ga : Option Addr) (gc : Nat) (gh : Nat → GH) (M : WorldM) (w : World) (hs : WA w ca ta ga gh M) (hf : WFit M) (p : ByteArray) (hB : worldB M = true) (hp : pathOk p = true) (hn : nameB (splitF p) = false) :
    Calls Tryz.prog 18 #[.agg #[.int .i64 M.now, .slice ca M.cpus.length cc, .slice ta M.tasks.length tc, .slice ga M.groups.length gc], .string p] w (WPost M 1 w) := by
  have HWB := Lib.hid hB
  have HP := Lib.hid hp
  have HSM := Lib.hid (splitF_size hp)
  have HNM := Lib.hid hn
  clear hB hp hn
  go_enter Tryz.func18, Tryz.ntmps18
  go_upto_region 1 with (fail)
  refine gen2 (p := fun W => Code.wp _ _ _ _ W) ?_
  intro W b1 s1 k0 k1
  have B1 := Lib.hid b1
  have K0 := Lib.hid k0
  have K1 := Lib.hid k1
  have S1 := Lib.hid s1
  have hs1 := hs.keep b1
  clear b1 k0 k1 hs s1
  have c0 := K0.out.cell 0
  have c1 := K0.out.cell 1
  have c2 := K0.out.cell 2
  have c3 := K0.out.cell 3
  have cf := fun i => K0.out.frozen i
  simp at c0 c1 c2 c3
  go_wp2_with fail
  refine (sWorldOk_any ca cc ta tc ga gc gh M _ hs1 (fitG_of hf)).mono ?_
  rintro e w2 ⟨rfl, hb2⟩
  rw [HWB.out]
  have K0b := Lib.hid (K0.out.below hb2 K0.out.lt)
  have K1b := Lib.hid (K1.out.below hb2 K1.out.lt)
  have HS2 := Lib.hid (hs1.keep hb2)
  have B2 := Lib.hid (B1.out.andThen hb2)
  have Z2 := Lib.hid hb2.size
  clear c0 c1 c2 c3 cf
  clear hs1 hb2 K0 K1 B1
  have c0 := K0b.out.cell 0
  have c1 := K0b.out.cell 1
  have c2 := K0b.out.cell 2
  have c3 := K0b.out.cell 3
  have cf := fun i => K0b.out.frozen i
  simp at c0 c1 c2 c3
  go_wp2_with fail
  refine (sSplit_yes p _ HP.out).mono ?_
  rintro e w3 ⟨rfl, hb3⟩
  have K0c := Lib.hid (K0b.out.below hb3 K0b.out.lt)
  have K1c := Lib.hid (K1b.out.below hb3 K1b.out.lt)
  have HS3 := Lib.hid (HS2.out.keep hb3)
  have B3 := Lib.hid (B2.out.andThen hb3)
  have Z3 := Lib.hid (Nat.le_trans Z2.out hb3.size)
  clear c0 c1 c2 c3 cf
  clear hb3 K0b K1b HS2 B2 Z2
  have c0 := K0c.out.cell 0
  have c1 := K0c.out.cell 1
  have c2 := K0c.out.cell 2
  have c3 := K0c.out.cell 3
  have cf := fun i => K0c.out.frozen i
  simp at c0 c1 c2 c3
  go_wp2_with fail
  refine (sNameOk_any _ _ HSM.out).mono ?_
  rintro e w' ⟨rfl, rfl⟩
  rw [HNM.out]
  go_wp2_with fail
  refine (sL8Own_any ⟨ca, cc, ta, tc, ga, gc, gh⟩ M _ (watOf HS3.out) hf (band_len HWB.out)).mono ?_
  rintro e w9 ⟨x, rfl, hb9, ow⟩
  have K1z := Lib.hid (K1c.out.below hb9 K1c.out.lt)
  have BZ := Lib.hid (B3.out.andThen hb9)
  have OW := Lib.hid ow
  clear c0 c1 c2 c3 cf
  clear hb9 ow
  have d0 := K1z.out.cell 0
  have d1 := K1z.out.cell 1
  have d2 := K1z.out.cell 2
  have d3 := K1z.out.cell 3
  have df := fun i => K1z.out.frozen i
  simp at d0 d1 d2 d3
  go_wp2
  have kk := Lib.hid (show Keep (fun i => i = w.heap.size + 1) w9 ((((w9.setCell ⟨w.heap.size + 1, 0, none⟩ (.int .i64 M.now)).setCell ⟨w.heap.size + 1, 1, none⟩ (.slice x.ca M.cpus.length x.cc)).setCell ⟨w.heap.size + 1, 2, none⟩ (.slice x.ta M.tasks.length x.tc)).setCell ⟨w.heap.size + 1, 3, none⟩ (.slice x.ga M.groups.length x.gc)) from ((((Keep.set _ _ _ (by rfl)).trans (Keep.set _ _ _ (by rfl))).trans (Keep.set _ _ _ (by rfl))).trans (Keep.set _ _ _ (by rfl))))
  refine bodyPost_ret (v := .tuple #[.agg #[.int .i64 M.now, .slice x.ca M.cpus.length x.cc, .slice x.ta M.tasks.length x.tc, .slice x.ga M.groups.length x.gc], .int .i64 1]) (by simp [results, Tryz.results18, go_sem, *]) rfl ⟨x, rfl, BZ.out.trans (kk.out.below BZ.out.size fun i h => by omega), ?_⟩
  exact OW.out.fin kk.out (fun i h => by have := S1.out; have := Z3.out; omega) (by have := S1.out; have := Z3.out; omega)
set_option maxRecDepth 100000 in
set_option maxHeartbeats 4000000 in
theorem sFileMake_none (ca : Option Addr) (cc : Nat) (ta : Option Addr) (tc : Nat) (ga : Option Addr) (gc : Nat) (gh : Nat → GH) (M : WorldM) (w : World) (hs : WA w ca ta ga gh M) (hf : WFit M) (p : ByteArray) (hB : worldB M = true) (hx : NextOk M) (hp : pathOk p = true) (hn : nameB (splitF p) = true) (hd : findM M (splitD p) = none) :
    Calls Tryz.prog 18 #[.agg #[.int .i64 M.now, .slice ca M.cpus.length cc, .slice ta M.tasks.length tc, .slice ga M.groups.length gc], .string p] w (WPost M 2 w) := by
  have HWB := Lib.hid hB
  have HP := Lib.hid hp
  have HSM := Lib.hid (splitF_size hp)
  have HNM := Lib.hid hn
  have HX := Lib.hid hx
  have HFI := Lib.hid (show findI M (splitD p) = -1 by rw [findI, hd])
  clear hB hp hn hx hd
  go_enter Tryz.func18, Tryz.ntmps18
  go_upto_region 1 with (fail)
  refine gen2 (p := fun W => Code.wp _ _ _ _ W) ?_
  intro W b1 s1 k0 k1
  have B1 := Lib.hid b1
  have K0 := Lib.hid k0
  have K1 := Lib.hid k1
  have S1 := Lib.hid s1
  have hs1 := hs.keep b1
  clear b1 k0 k1 hs s1
  have c0 := K0.out.cell 0
  have c1 := K0.out.cell 1
  have c2 := K0.out.cell 2
  have c3 := K0.out.cell 3
  have cf := fun i => K0.out.frozen i
  simp at c0 c1 c2 c3
  go_wp2_with fail
  refine (sWorldOk_any ca cc ta tc ga gc gh M _ hs1 (fitG_of hf)).mono ?_
  rintro e w2 ⟨rfl, hb2⟩
  rw [HWB.out]
  have K0b := Lib.hid (K0.out.below hb2 K0.out.lt)
  have K1b := Lib.hid (K1.out.below hb2 K1.out.lt)
  have HS2 := Lib.hid (hs1.keep hb2)
  have B2 := Lib.hid (B1.out.andThen hb2)
  have Z2 := Lib.hid hb2.size
  clear c0 c1 c2 c3 cf
  clear hs1 hb2 K0 K1 B1
  have c0 := K0b.out.cell 0
  have c1 := K0b.out.cell 1
  have c2 := K0b.out.cell 2
  have c3 := K0b.out.cell 3
  have cf := fun i => K0b.out.frozen i
  simp at c0 c1 c2 c3
  go_wp2_with fail
  refine (sSplit_yes p _ HP.out).mono ?_
  rintro e w3 ⟨rfl, hb3⟩
  have K0c := Lib.hid (K0b.out.below hb3 K0b.out.lt)
  have K1c := Lib.hid (K1b.out.below hb3 K1b.out.lt)
  have HS3 := Lib.hid (HS2.out.keep hb3)
  have B3 := Lib.hid (B2.out.andThen hb3)
  have Z3 := Lib.hid (Nat.le_trans Z2.out hb3.size)
  clear c0 c1 c2 c3 cf
  clear hb3 K0b K1b HS2 B2 Z2
  have c0 := K0c.out.cell 0
  have c1 := K0c.out.cell 1
  have c2 := K0c.out.cell 2
  have c3 := K0c.out.cell 3
  have cf := fun i => K0c.out.frozen i
  simp at c0 c1 c2 c3
  go_wp2_with fail
  refine (sNameOk_any _ _ HSM.out).mono ?_
  rintro e w' ⟨rfl, rfl⟩
  rw [HNM.out]
  go_wp2_with fail
  refine (sFind_any ca ta ga gc gh M _ HS3.out (fitG_of hf) HWB.out HX.out (splitD p)).mono ?_
  rintro e w4 ⟨rfl, hb4⟩
  rw [HFI.out]
  have K0d := Lib.hid (K0c.out.below hb4 K0c.out.lt)
  have K1d := Lib.hid (K1c.out.below hb4 K1c.out.lt)
  have HS4 := Lib.hid (HS3.out.keep hb4)
  have B4 := Lib.hid (B3.out.andThen hb4)
  have Z4 := Lib.hid (Nat.le_trans Z3.out hb4.size)
  clear c0 c1 c2 c3 cf
  clear hb4 K0c K1c HS3 B3 Z3
  have c0 := K0d.out.cell 0
  have c1 := K0d.out.cell 1
  have c2 := K0d.out.cell 2
  have c3 := K0d.out.cell 3
  have cf := fun i => K0d.out.frozen i
  simp at c0 c1 c2 c3
  go_wp2_with fail
  refine (sL8Own_any ⟨ca, cc, ta, tc, ga, gc, gh⟩ M _ (watOf HS4.out) hf (band_len HWB.out)).mono ?_
  rintro e w9 ⟨x, rfl, hb9, ow⟩
  have K1z := Lib.hid (K1d.out.below hb9 K1d.out.lt)
  have BZ := Lib.hid (B4.out.andThen hb9)
  have OW := Lib.hid ow
  clear c0 c1 c2 c3 cf
  clear hb9 ow
  have d0 := K1z.out.cell 0
  have d1 := K1z.out.cell 1
  have d2 := K1z.out.cell 2
  have d3 := K1z.out.cell 3
  have df := fun i => K1z.out.frozen i
  simp at d0 d1 d2 d3
  go_wp2
  have kk := Lib.hid (show Keep (fun i => i = w.heap.size + 1) w9 ((((w9.setCell ⟨w.heap.size + 1, 0, none⟩ (.int .i64 M.now)).setCell ⟨w.heap.size + 1, 1, none⟩ (.slice x.ca M.cpus.length x.cc)).setCell ⟨w.heap.size + 1, 2, none⟩ (.slice x.ta M.tasks.length x.tc)).setCell ⟨w.heap.size + 1, 3, none⟩ (.slice x.ga M.groups.length x.gc)) from ((((Keep.set _ _ _ (by rfl)).trans (Keep.set _ _ _ (by rfl))).trans (Keep.set _ _ _ (by rfl))).trans (Keep.set _ _ _ (by rfl))))
  refine bodyPost_ret (v := .tuple #[.agg #[.int .i64 M.now, .slice x.ca M.cpus.length x.cc, .slice x.ta M.tasks.length x.tc, .slice x.ga M.groups.length x.gc], .int .i64 2]) (by simp [results, Tryz.results18, go_sem, *]) rfl ⟨x, rfl, BZ.out.trans (kk.out.below BZ.out.size fun i h => by omega), ?_⟩
  exact OW.out.fin kk.out (fun i h => by have := S1.out; have := Z4.out; omega) (by have := S1.out; have := Z4.out; omega)
set_option maxRecDepth 100000 in
set_option maxHeartbeats 4000000 in
theorem sFileMake_some (ca : Option Addr) (cc : Nat) (ta : Option Addr) (tc : Nat) (ga : Option Addr) (gc : Nat) (gh : Nat → GH) (M : WorldM) (w : World) (hs : WA w ca ta ga gh M) (hf : WFit M) (p : ByteArray) (hB : worldB M = true) (hx : NextOk M) (hp : pathOk p = true) (hn : nameB (splitF p) = true) (g : Nat) (hd : findM M (splitD p) = some g) :
    Calls Tryz.prog 18 #[.agg #[.int .i64 M.now, .slice ca M.cpus.length cc, .slice ta M.tasks.length tc, .slice ga M.groups.length gc], .string p] w (WPost (makeW M g (splitF p)) (makeC M g (splitF p)) w) := by
  have HWB := Lib.hid hB
  have HP := Lib.hid hp
  have HSM := Lib.hid (splitF_size hp)
  have HNM := Lib.hid hn
  have hgu := findN_some hd
  have hg8 : g < 8 := hgu.1
  have hus : (grp M g).used = true := by have := hgu.2; rw [isAt, Bool.and_eq_true] at this; exact this.1
  have HU := Lib.hid (show usedI M g = true by have := (facts_of hB).tree.len; simp only [usedI, Int.toNat_natCast, hus, Bool.and_true, Bool.and_eq_true, decide_eq_true_eq]; omega)
  have HX := Lib.hid hx
  have HFI := Lib.hid (show findI M (splitD p) = (g : Int) by rw [findI, hd])
  have hg0 : (0 : Int) ≤ (g : Int) := by omega
  clear hB hp hn hx hgu hus hd
  go_enter Tryz.func18, Tryz.ntmps18
  go_upto_region 1 with (fail)
  refine gen2 (p := fun W => Code.wp _ _ _ _ W) ?_
  intro W b1 s1 k0 k1
  have B1 := Lib.hid b1
  have K0 := Lib.hid k0
  have K1 := Lib.hid k1
  have S1 := Lib.hid s1
  have hs1 := hs.keep b1
  clear b1 k0 k1 hs s1
  have c0 := K0.out.cell 0
  have c1 := K0.out.cell 1
  have c2 := K0.out.cell 2
  have c3 := K0.out.cell 3
  have cf := fun i => K0.out.frozen i
  simp at c0 c1 c2 c3
  go_wp2_with fail
  refine (sWorldOk_any ca cc ta tc ga gc gh M _ hs1 (fitG_of hf)).mono ?_
  rintro e w2 ⟨rfl, hb2⟩
  rw [HWB.out]
  have K0b := Lib.hid (K0.out.below hb2 K0.out.lt)
  have K1b := Lib.hid (K1.out.below hb2 K1.out.lt)
  have HS2 := Lib.hid (hs1.keep hb2)
  have B2 := Lib.hid (B1.out.andThen hb2)
  have Z2 := Lib.hid hb2.size
  clear c0 c1 c2 c3 cf
  clear hs1 hb2 K0 K1 B1
  have c0 := K0b.out.cell 0
  have c1 := K0b.out.cell 1
  have c2 := K0b.out.cell 2
  have c3 := K0b.out.cell 3
  have cf := fun i => K0b.out.frozen i
  simp at c0 c1 c2 c3
  go_wp2_with fail
  refine (sSplit_yes p _ HP.out).mono ?_
  rintro e w3 ⟨rfl, hb3⟩
  have K0c := Lib.hid (K0b.out.below hb3 K0b.out.lt)
  have K1c := Lib.hid (K1b.out.below hb3 K1b.out.lt)
  have HS3 := Lib.hid (HS2.out.keep hb3)
  have B3 := Lib.hid (B2.out.andThen hb3)
  have Z3 := Lib.hid (Nat.le_trans Z2.out hb3.size)
  clear c0 c1 c2 c3 cf
  clear hb3 K0b K1b HS2 B2 Z2
  have c0 := K0c.out.cell 0
  have c1 := K0c.out.cell 1
  have c2 := K0c.out.cell 2
  have c3 := K0c.out.cell 3
  have cf := fun i => K0c.out.frozen i
  simp at c0 c1 c2 c3
  go_wp2_with fail
  refine (sNameOk_any _ _ HSM.out).mono ?_
  rintro e w' ⟨rfl, rfl⟩
  rw [HNM.out]
  go_wp2_with fail
  refine (sFind_any ca ta ga gc gh M _ HS3.out (fitG_of hf) HWB.out HX.out (splitD p)).mono ?_
  rintro e w4 ⟨rfl, hb4⟩
  rw [HFI.out]
  have K0d := Lib.hid (K0c.out.below hb4 K0c.out.lt)
  have K1d := Lib.hid (K1c.out.below hb4 K1c.out.lt)
  have HS4 := Lib.hid (HS3.out.keep hb4)
  have B4 := Lib.hid (B3.out.andThen hb4)
  have Z4 := Lib.hid (Nat.le_trans Z3.out hb4.size)
  clear c0 c1 c2 c3 cf
  clear hb4 K0c K1c HS3 B3 Z3
  have c0 := K0d.out.cell 0
  have c1 := K0d.out.cell 1
  have c2 := K0d.out.cell 2
  have c3 := K0d.out.cell 3
  have cf := fun i => K0d.out.frozen i
  simp at c0 c1 c2 c3
  go_wp2_with fail
  refine (sMake_any ca cc ta tc ga gc gh M _ HS4.out hf HWB.out (splitF p) g hg8 HU.out HNM.out HSM.out).mono ?_
  rintro e w9 ⟨sl, x, rfl, hb9, ow⟩
  have K1z := Lib.hid (K1d.out.below hb9 K1d.out.lt)
  have BZ := Lib.hid (B4.out.andThen hb9)
  have OW := Lib.hid ow
  clear c0 c1 c2 c3 cf
  clear hb9 ow
  generalize makeW M g (splitF p) = M' at *
  generalize makeC M g (splitF p) = c at *
  go_upto_region 10 with (fail)
  refine gen1 (p := fun W => Code.wp _ _ _ _ W) ?_
  intro Wa ba sa ka
  have KA := Lib.hid ka
  have K1y := Lib.hid (K1z.out.below ba K1z.out.lt)
  have BY := Lib.hid (BZ.out.andThen ba)
  have OY := Lib.hid (OW.out.below ba)
  clear ba sa ka BZ OW K1z
  have c0 := KA.out.cell 0
  have c1 := KA.out.cell 1
  have c2 := KA.out.cell 2
  have c3 := KA.out.cell 3
  have cf := fun i => KA.out.frozen i
  simp at c0 c1 c2 c3
  have d0 := K1y.out.cell 0
  have d1 := K1y.out.cell 1
  have d2 := K1y.out.cell 2
  have d3 := K1y.out.cell 3
  have df := fun i => K1y.out.frozen i
  simp at d0 d1 d2 d3
  go_wp2
  have kk := Lib.hid (show Keep (fun i => i = w.heap.size + 1) Wa ((((Wa.setCell ⟨w.heap.size + 1, 0, none⟩ (.int .i64 M'.now)).setCell ⟨w.heap.size + 1, 1, none⟩ (.slice x.ca M'.cpus.length x.cc)).setCell ⟨w.heap.size + 1, 2, none⟩ (.slice x.ta M'.tasks.length x.tc)).setCell ⟨w.heap.size + 1, 3, none⟩ (.slice x.ga M'.groups.length x.gc)) from ((((Keep.set _ _ _ (by rfl)).trans (Keep.set _ _ _ (by rfl))).trans (Keep.set _ _ _ (by rfl))).trans (Keep.set _ _ _ (by rfl))))
  refine bodyPost_ret (v := .tuple #[.agg #[.int .i64 M'.now, .slice x.ca M'.cpus.length x.cc, .slice x.ta M'.tasks.length x.tc, .slice x.ga M'.groups.length x.gc], .int .i64 c]) (by simp [results, Tryz.results18, go_sem, *]) rfl ⟨x, rfl, BY.out.trans (kk.out.below BY.out.size fun i h => by omega), ?_⟩
  exact OY.out.fin kk.out (fun i h => by have := S1.out; have := Z4.out; omega) (by have := S1.out; have := Z4.out; omega)
theorem sFileMake_any (ca : Option Addr) (cc : Nat) (ta : Option Addr) (tc : Nat) (ga : Option Addr) (gc : Nat) (gh : Nat → GH) (M : WorldM) (w : World) (hs : WA w ca ta ga gh M) (hf : WFit M) (p : ByteArray) (hx : NextOk M) :
    Calls Tryz.prog 18 #[.agg #[.int .i64 M.now, .slice ca M.cpus.length cc, .slice ta M.tasks.length tc, .slice ga M.groups.length gc], .string p] w (WPost (fmakeW M p) (fmakeC M p) w) := by
  by_cases hB : worldB M = true
  · by_cases hp : pathOk p = true
    · by_cases hn : nameB (splitF p) = true
      · have hpn : (pathOk p && nameB (splitF p)) = true := by rw [hp, hn]; rfl
        rw [fmakeW, fmakeC, if_pos hB, if_pos hB, if_pos hpn, if_pos hpn]
        cases hd : findM M (splitD p) with
        | none => exact sFileMake_none ca cc ta tc ga gc gh M w hs hf p hB hx hp hn hd
        | some g => exact sFileMake_some ca cc ta tc ga gc gh M w hs hf p hB hx hp hn g hd
      · have hpn : ¬ (pathOk p && nameB (splitF p)) = true := by rw [hp]; simpa using hn
        rw [fmakeW, fmakeC, if_pos hB, if_pos hB, if_neg hpn, if_neg hpn]
        exact sFileMake_name ca cc ta tc ga gc gh M w hs hf p hB hp (by simpa using hn)
    · have hpn : ¬ (pathOk p && nameB (splitF p)) = true := by simp [hp]
      rw [fmakeW, fmakeC, if_pos hB, if_pos hB, if_neg hpn, if_neg hpn]
      exact sFileMake_path ca cc ta tc ga gc gh M w hs hf p hB (by simpa using hp)
  · rw [fmakeW, fmakeC, if_neg hB, if_neg hB]
    exact sFileMake_bad ca cc ta tc ga gc gh M w hs hf p (by simpa using hB)
end Go.Proofs.YtknfpigaognklaaGreatDoor
namespace Go.Proofs.YtknfpigaognklaaGreatDoor
open Go.RowKit Go.Sort
theorem made_sh (n : Nat) (hn : n ≤ 4) : ∃ C : Array Value, (∀ k i, k < n → i < 5 → C[k * 5 + i]? = some (shelfF shelf0 i)) ∧ ∀ w : World, (Instr.makeSlice 53 (.int .i64 (n : Int)) (.int .i64 (n : Int))).run Tryz.prog w = .ok (.slice (some ⟨w.heap.size, 0, none⟩) n n) (w.alloc (.cells C 103)) := by
  obtain ⟨i0, hi, hz0, hz1, hz2⟩ := info_parts infoShelf
  refine ⟨madeCells (Value.cells (.agg #[.int .i64 0, .bool false, .int .i64 0, .int .i64 0, .int .i64 0])) (n * i0.size), fun k i hk hi5 => ?_, fun w => run_make_rowN 53 103 i0 _ Tryz.underlying53 hi hz0 .i64 .i64 n n (Nat.le_refl _) (by rw [hz2]; omega) (by omega) w⟩
  have h1 : k * 5 + i < n * i0.size := by rw [hz1]; omega
  have h2 : (k * 5 + i) % 5 = i := by omega
  have h3 : (Value.cells (.agg #[.int .i64 0, .bool false, .int .i64 0, .int .i64 0, .int .i64 0])).size = 5 := rfl
  unfold madeCells
  rw [Array.getElem?_map, Array.getElem?_range, if_pos h1, Option.map_some, h3, h2]
  rcases i with _ | _ | _ | _ | _ | i
  · rfl
  · rfl
  · rfl
  · rfl
  · rfl
  · omega
set_option maxRecDepth 100000 in
set_option maxHeartbeats 4000000 in
theorem iShelves_any (n : Nat) (hn : n ≤ 4) (w : World) :
    Calls Tryz.prog 168 #[.int .i64 n] w fun e w' => ∃ A, e = .returned (.slice A n n) ∧ Below w.heap.size w w' ∧ ShelfR w' w.heap.size A (List.replicate n shelfN) := by
  obtain ⟨C, hC, hmk⟩ := made_sh n hn
  go_enter Tryz.func168, Tryz.ntmps168
  go_upto_region 2 with (fail)
  refine gen1 (p := fun W => Code.wp _ _ _ _ W) ?_
  intro W b1 s1 k0
  have B1 := Lib.hid b1
  have R0 := Lib.hid (show RowR W w.heap.size (some ⟨w.heap.size, 0, none⟩) 103 5 n fun j => shelfF (if j < 0 then shelfN else shelf0) from (RowR.mk_ (Nat.le_refl _) k0 hC).congr fun j i _ _ => by simp)
  clear b1 s1 k0 hC hmk
  go_wp2
  go_loopw [9] (fun i wr => ∃ k : Nat, k ≤ n ∧ i = .int .i64 k ∧ Below w.heap.size w wr ∧ RowR wr w.heap.size (some ⟨w.heap.size, 0, none⟩) 103 5 n fun j => shelfF (if j < k then shelfN else shelf0)) (fun i _ => n - (intOf i).toNat)
  case atStart => exact ⟨0, Nat.zero_le _, rfl, B1.out, R0.out⟩
  case round =>
    obtain ⟨k, hk, rfl, hb, hrow⟩ := hrel
    have HB := Lib.hid hb
    have HR := Lib.hid hrow
    clear R0 B1
    by_cases hlt : k < n
    · obtain ⟨g, hA, hg, hBg, v3, f3⟩ := hrow.cell hlt (i := 3) (by omega)
      cases hA
      have i0 : (0 : Int) ≤ (k : Int) := by omega
      have i1 : (k : Int) < (n : Int) := by omega
      clear hb hrow
      go_wp2
      go_roundw
      case rel => exact ⟨k + 1, by omega, by go_num, HB.out.setCell (Nat.le_refl _) _, (HR.out.set rfl hlt (i := 3) (by omega) _).congr fun j i hj hi => by
        by_cases e : j = k
        · subst e
          rcases i with _ | _ | _ | _ | _ | i
          all_goals first | (exfalso; omega) | (simp [shelfF, shelfN, shelf0]; done) | (simp [shelfF, shelfN, shelf0]; rfl)
        · have : (j < k + 1) ↔ (j < k) := by omega
          simp [e, this]⟩
      case measure => simp [intOf]; omega
    · obtain rfl : k = n := by omega
      clear hb hrow
      go_wp2
      go_ret
      refine ⟨some ⟨w.heap.size, 0, none⟩, rfl, HB.out, ?_⟩
      show RowR _ _ _ _ 5 (List.replicate k shelfN).length _
      rw [List.length_replicate]
      exact HR.out.congr fun j i hj hi => by rw [if_pos hj]; simp [hj]
set_option maxRecDepth 100000 in
set_option maxHeartbeats 4000000 in
theorem iNewGroup_any (p : Int) (s : ByteArray) (n : Nat) (hn : n ≤ 4) (w : World) :
    Calls Tryz.prog 120 #[.int .i64 p, .string s, .int .i64 n] w (GPost p s n w) := by
  go_enter Tryz.func120, Tryz.ntmps120
  go_upto_region 1 with (fail)
  refine gen1 (p := fun W => Code.wp _ _ _ _ W) ?_
  intro W b1 s1 k0
  have K0 := Lib.hid k0
  have B1 := Lib.hid b1
  have S1 := Lib.hid s1
  clear b1 s1 k0
  go_wp2_with fail
  refine (iShelves_any n hn W).mono ?_
  rintro e w2 ⟨sa, rfl, hb2, hR⟩
  have HR := Lib.hid hR
  have B2 := Lib.hid (B1.out.andThen hb2)
  have K2 := Lib.hid (K0.out.below hb2 K0.out.lt)
  clear hb2 hR K0
  have y0 := K2.out.cell 0
  have y1 := K2.out.cell 1
  have y2 := K2.out.cell 2
  have y3 := K2.out.cell 3
  have y4 := K2.out.cell 4
  have y5 := K2.out.cell 5
  have y6 := K2.out.cell 6
  have y7 := K2.out.cell 7
  have y8 := K2.out.cell 8
  have y9 := K2.out.cell 9
  have y10 := K2.out.cell 10
  have y11 := K2.out.cell 11
  have y12 := K2.out.cell 12
  have y13 := K2.out.cell 13
  have f1 := fun i => K2.out.frozen i
  simp at y0 y1 y2 y3 y4 y5 y6 y7 y8 y9 y10 y11 y12 y13
  go_wp2
  have kk := Lib.hid (show Keep (fun i => i = w.heap.size) w2 ((((((((((((((w2.setCell ⟨w.heap.size, 0, none⟩ (.bool true)).setCell ⟨w.heap.size, 1, none⟩ (.int .i64 p)).setCell ⟨w.heap.size, 2, none⟩ (.string s)).setCell ⟨w.heap.size, 3, none⟩ (.int .i64 10)).setCell ⟨w.heap.size, 4, none⟩ (.int .i64 15)).setCell ⟨w.heap.size, 5, none⟩ (.int .i64 0)).setCell ⟨w.heap.size, 6, none⟩ (.int .i64 0)).setCell ⟨w.heap.size, 7, none⟩ (.int .i64 0)).setCell ⟨w.heap.size, 8, none⟩ (.int .i64 0)).setCell ⟨w.heap.size, 9, none⟩ (.int .i64 0)).setCell ⟨w.heap.size, 10, none⟩ (.int .i64 0)).setCell ⟨w.heap.size, 11, none⟩ (.slice none 0 0)).setCell ⟨w.heap.size, 12, none⟩ (.slice none 0 0)).setCell ⟨w.heap.size, 13, none⟩ (.slice sa n n)) from ((((((((((((((Keep.set _ _ _ (by rfl)).trans (Keep.set _ _ _ (by rfl))).trans (Keep.set _ _ _ (by rfl))).trans (Keep.set _ _ _ (by rfl))).trans (Keep.set _ _ _ (by rfl))).trans (Keep.set _ _ _ (by rfl))).trans (Keep.set _ _ _ (by rfl))).trans (Keep.set _ _ _ (by rfl))).trans (Keep.set _ _ _ (by rfl))).trans (Keep.set _ _ _ (by rfl))).trans (Keep.set _ _ _ (by rfl))).trans (Keep.set _ _ _ (by rfl))).trans (Keep.set _ _ _ (by rfl))).trans (Keep.set _ _ _ (by rfl))))
  refine bodyPost_ret (v := .agg #[.bool true, .int .i64 p, .string s, .int .i64 10, .int .i64 15, .int .i64 0, .int .i64 0, .int .i64 0, .int .i64 0, .int .i64 0, .int .i64 0, .slice none 0 0, .slice none 0 0, .slice sa n n]) (by simp [results, Tryz.results120, go_sem, *]) rfl ⟨sa, n, rfl, B2.out.trans (kk.out.below B2.out.size fun _ h => by omega), ?_⟩
  exact (HR.out.keep kk.out fun a ha h => by have := (HR.out.lt ha).1; have := S1.out; omega).mono (by have := S1.out; omega)
set_option maxRecDepth 100000 in
set_option maxHeartbeats 4000000 in
theorem iLevel_any (p : Nat) (ca : Option Addr) (cc : Nat) (ta : Option Addr) (tc : Nat) (ga : Option Addr) (gc : Nat) (gh : Nat → GH) (M : WorldM) (w : World) (hs : PA w p ca cc ta tc ga gc gh M) (hF : FitG M) (hT : Tree M) (g : Nat) (hg : g < 8) (hu : (grp M g).used = true) :
    Calls Tryz.prog 117 #[.pointer (some ⟨p, 0, none⟩), .int .i64 g] w fun e w' => e = .returned (.int .i64 (dp M g : Int)) ∧ w = w' := by
  have HT := Lib.hid hT
  have HS := Lib.hid hs
  have hgm := hF.group
  obtain ⟨q0, q1, q2, q3, q4, q5⟩ := hs
  clear hT
  go_enter Tryz.func117, Tryz.ntmps117
  go_wp2
  go_loop [1, 5] (fun a b => ∃ (h k : Nat), h < 8 ∧ (grp M h).used = true ∧ a = .int .i64 h ∧ b = .int .i64 k ∧ k + dp M h = dp M g) (fun a _ => dp M (intOf a).toNat)
  case atStart => exact ⟨g, 0, hg, hu, rfl, rfl, by omega⟩
  case round =>
    obtain ⟨h, k, hh, huh, rfl, rfl, hk⟩ := hrel
    have HK := Lib.hid hk
    by_cases hz : h = 0
    · subst hz
      have e : k = dp M g := by have := HK.out; rw [dp_zero] at this; omega
      have E := Lib.hid e
      clear hk e
      go_wp2
      go_ret
      exact ⟨ret_int (by rw [E.out]), rfl⟩
    · obtain ⟨u1, u2, u3, u4⟩ := HT.out.up h hh huh hz
      have UP := Lib.hid u4
      have hlt : h < M.groups.length := by rw [HT.out.len]; exact hh
      obtain ⟨b, o, rfl, hB, c0, c1, _⟩ := q5.group_ hlt
      rw [u1] at c1
      have i0 : (0 : Int) ≤ (h : Int) := by omega
      have i1 : (h : Int) < (M.groups.length : Int) := by omega
      have i2 : ((h : Int) == 0) = false := by simpa using hz
      have D3 := Lib.hid (HT.out.dp3 g hg hu)
      have i3 : (k : Int) ≤ 3 := by have := D3.out; have := HK.out; omega
      have i4 : (0 : Int) ≤ (k : Int) := by omega
      have U2 := Lib.hid u2
      have U3 := Lib.hid u3
      clear hk u1 u2 u3 u4 hz c0
      go_wp2
      go_round
      case rel => exact ⟨par M h, k + 1, U2.out, U3.out, rfl, by go_num, by have := HK.out; have := UP.out; omega⟩
      case measure => simp [intOf]; have := UP.out; omega
set_option maxRecDepth 100000 in
set_option maxHeartbeats 4000000 in
theorem iUnused_any (b : Bool) (u1 u2 u3 u4 u5 u6 u7 u8 u9 u10 u11 u12 u13 : Value) (w : World) :
    Calls Tryz.prog 119 #[.agg #[.bool b, u1, u2, u3, u4, u5, u6, u7, u8, u9, u10, u11, u12, u13]] w fun e w' => e = .returned (.bool (!b)) ∧ Below w.heap.size w w' := by
  go_enter Tryz.func119, Tryz.ntmps119
  go_upto_region 1 with (fail)
  refine gen1 (p := fun W => Code.wp _ _ _ _ W) ?_
  intro W b1 s1 k0
  have B1 := Lib.hid b1
  have y0 := k0.cell 0
  simp at y0
  clear b1 s1 k0
  go_wp2
  go_ret
  exact ⟨rfl, B1.out⟩
set_option maxRecDepth 100000 in
set_option maxHeartbeats 4000000 in
theorem iIndex_any (ca ta ga : Option Addr) (gc : Nat) (gh : Nat → GH) (M : WorldM) (w : World) (hs : WA w ca ta ga gh M) (hF : FitG M) (hl : M.groups.length = 8) (h0 : (grp M 0).used = true) :
    Calls Tryz.prog 118 #[.slice ga M.groups.length gc, .func (.func 119) #[] #[]] w fun e w' => e = .returned (.int .i64 (freeI M 0)) ∧ Below w.heap.size w w' := by
  have HL := Lib.hid hl
  have HS := Lib.hid hs
  have H0 := Lib.hid h0
  have hgm := hF.group
  have hfn : ∀ (args : Array Value) (u : World), (callFunc 119 args).run Tryz.prog u = .ok (.enter 119 args) u := fun args u => by kernel_rfl
  clear hl hs h0
  go_enter Tryz.func118, Tryz.ntmps118
  go_wp2
  go_loopw [8] (fun i wr => ∃ k : Nat, k ≤ M.groups.length ∧ i = .int .i64 k ∧ (∀ j, j < k → (grp M j).used = true) ∧ Below w.heap.size w wr) (fun i _ => M.groups.length - (intOf i).toNat)
  case atStart => exact ⟨0, Nat.zero_le _, rfl, fun j h => absurd h (Nat.not_lt_zero _), Below.refl _ _⟩
  case round =>
    obtain ⟨k, hk, rfl, hu, hb⟩ := hrel
    have HU := Lib.hid hu
    have HB := Lib.hid hb
    have hs3 := HS.out.keep hb
    clear hu hb
    by_cases hlt : k < M.groups.length
    · obtain ⟨b, o, rfl, hBl, c0, c1, c2, c3, c4, c5, c6, c7, c8, c9, c10, c11, c12, c13⟩ := hs3.group_ hlt
      have i0 : (0 : Int) ≤ (k : Int) := by omega
      have i1 : (k : Int) < (M.groups.length : Int) := by omega
      have HLT := Lib.hid hlt
      cases hq : (grp M k).used with
      | true =>
        rw [hq] at c0
        have HQ := Lib.hid hq
        clear hq
        go_wp2_with fail
        refine (iUnused_any true _ _ _ _ _ _ _ _ _ _ _ _ _ wr).mono ?_
        rintro e w4 ⟨rfl, hb4⟩
        have HB4 := Lib.hid (HB.out.andThen hb4)
        clear hb4 hs3 c0 c1 c2 c3 c4 c5 c6 c7 c8 c9 c10 c11 c12 c13
        go_wp2
        go_roundw
        case rel => exact ⟨k + 1, by have := HLT.out; omega, by go_num, fun j hj => by by_cases e : j = k; exact e ▸ HQ.out; exact HU.out j (by omega), HB4.out⟩
        case measure => simp [intOf]; omega
      | false =>
        rw [hq] at c0
        have HQ := Lib.hid hq
        clear hq
        go_wp2_with fail
        refine (iUnused_any false _ _ _ _ _ _ _ _ _ _ _ _ _ wr).mono ?_
        rintro e w4 ⟨rfl, hb4⟩
        have HB4 := Lib.hid (HB.out.andThen hb4)
        clear hb4 hs3 c0 c1 c2 c3 c4 c5 c6 c7 c8 c9 c10 c11 c12 c13
        go_wp2
        go_ret
        exact ⟨ret_int (by
          have hk0 : 1 ≤ k := by rcases Nat.eq_zero_or_pos k with h | h; (subst h; exact absurd (H0.out.symm.trans HQ.out) (by decide)); exact h
          rw [freeI_zero, freeM, freeF_first hk0 (by have := HLT.out; have := HL.out; omega) (fun j _ h2 => HU.out j h2) HQ.out]), HB4.out⟩
    · obtain rfl : k = M.groups.length := by omega
      have HV := Lib.hid (show freeI M 0 = -1 by rw [freeI_zero, freeM, freeF_none fun j _ h2 => HU.out j (by have := HL.out; omega)])
      go_wp2
      go_ret
      exact ⟨ret_int HV.out.symm, HB.out⟩
end Go.Proofs.YtknfpigaognklaaGreatDoor
namespace Go.Proofs.YtknfpigaognklaaGreatDoor
open Go.RowKit Go.Sort
/-- a call on the copy is done; it writes a box of its caller's, too -/
def CDoneS (sb : Nat) (v : Value) (p : Nat) (x : WH) (M' : WorldM) (B n : Nat) (W : World) (e : Ending) (W' : World) : Prop := ∃ gh', e = .returned .nilIface ∧ PBox W' p { x with gh := gh' } M' ∧ Own W' B x.ca x.ta x.ga gh' M' ∧ Keep (fun j => j = sb ∨ (j = p ∨ Has x.ca x.ta x.ga x.gh n j)) W W' ∧ Blk W' sb 3 #[v]
def WPostS (sb : Nat) (v : Value) (M : WorldM) (c : Int) (w : World) (e : Ending) (w' : World) : Prop := ∃ h : WH, e = .returned (.tuple #[.agg #[.int .i64 M.now, .slice h.ca M.cpus.length h.cc, .slice h.ta M.tasks.length h.tc, .slice h.ga M.groups.length h.gc], .int .i64 c]) ∧ Keep (fun j => j = sb) w w' ∧ Own w' w.heap.size h.ca h.ta h.ga h.gh M ∧ Blk w' sb 3 #[v]
theorem WPost.s {M : WorldM} {c : Int} {w w' : World} {e : Ending} {sb : Nat} {v : Value} (h : WPost M c w e w') (hb : Blk w sb 3 #[v]) : WPostS sb v M c w e w' := by
  obtain ⟨x, h1, h2, h3⟩ := h
  exact ⟨x, h1, Keep.of_below h2, h3, hb.below h2 hb.lt⟩
set_option maxRecDepth 100000 in
set_option maxHeartbeats 4000000 in
theorem iAttempt_doneS (h : WH) (M : WorldM) (w : World) (hs : WAt w h M) (hf : WFit M) (hx : NextOk M) (F : FuncId) (cps : Array Value) (hF : ∀ (args : Array Value) (u : World), (callFunc F args).run Tryz.prog u = .ok (.enter F args) u) (hB : worldB M = true) (M' : WorldM) (hl : M'.groups.length = M.groups.length) (sb : Nat) (v : Value) (hsb : sb < w.heap.size)
    (hc : ∀ (W : World) (p : Nat) (x : WH) (B : Nat), COn w W p x M B → Calls Tryz.prog F (#[.pointer (some ⟨p, 0, none⟩)] ++ cps) W (CDoneS sb v p x M' B M.groups.length W)) :
    Calls Tryz.prog 114 #[.agg #[.int .i64 M.now, .slice h.ca M.cpus.length h.cc, .slice h.ta M.tasks.length h.tc, .slice h.ga M.groups.length h.gc], .func (.func F) #[] cps] w (WPostS sb v M' 0 w) := by
  have HWB := Lib.hid hB
  have HC := Lib.hid hc
  have HGL := Lib.hid hl
  have HSB := Lib.hid hsb
  clear hB hc hl hsb
  go_enter Tryz.func114, Tryz.ntmps114
  go_upto_region 1 with (fail)
  refine gen2 (p := fun W => Code.wp _ _ _ _ W) ?_
  intro W b1 s1 k0 k1
  have B1 := Lib.hid b1
  have K0 := Lib.hid k0
  have K1 := Lib.hid k1
  have S1 := Lib.hid s1
  have hs1 := hs.keep b1
  clear b1 k0 k1 s1
  have c0 := K0.out.cell 0
  have c1 := K0.out.cell 1
  have c2 := K0.out.cell 2
  have c3 := K0.out.cell 3
  have cf := fun i => K0.out.frozen i
  simp at c0 c1 c2 c3
  go_wp2_with fail
  refine (iWorldOk_any h.ca h.cc h.ta h.tc h.ga h.gc h.gh M _ (WA.of hs1) (fitG_of hf) hx).mono ?_
  rintro e w2 ⟨rfl, hb2⟩
  rw [HWB.out]
  have K0b := Lib.hid (K0.out.below hb2 K0.out.lt)
  have K1b := Lib.hid (K1.out.below hb2 K1.out.lt)
  have hs2 := hs1.keep hb2
  have B2 := Lib.hid (B1.out.andThen hb2)
  have Z2 := Lib.hid hb2.size
  clear c0 c1 c2 c3 cf
  clear hs1 hb2 K0 K1 B1
  have c0 := K0b.out.cell 0
  have c1 := K0b.out.cell 1
  have c2 := K0b.out.cell 2
  have c3 := K0b.out.cell 3
  have cf := fun i => K0b.out.frozen i
  simp at c0 c1 c2 c3
  go_wp2_with fail
  refine (iCopy_any h M _ hs2 hf).mono ?_
  rintro e w3 ⟨x, rfl, hb3, ow⟩
  have K0c := Lib.hid (K0b.out.below hb3 K0b.out.lt)
  have K1c := Lib.hid (K1b.out.below hb3 K1b.out.lt)
  have HS3 := Lib.hid (hs2.keep hb3)
  have B3 := Lib.hid (B2.out.andThen hb3)
  have OW := Lib.hid ow
  have Z3 := Lib.hid hb3.size
  clear c0 c1 c2 c3 cf
  clear hs2 hb3 ow K0b K1b B2
  go_upto_region 5 with (fail)
  refine gen2 (p := fun W => Code.wp _ _ _ _ W) ?_
  intro w4 b4 s4 k2 k3
  have CO := Lib.hid (show COn w w4 w3.heap.size x M w2.heap.size from ⟨B3.out.andThen b4, k2, OW.out.below b4, by have := Z2.out; have := S1.out; omega, by have := Z2.out; have := S1.out; have := Z3.out; omega, fun g => by have := (OW.out.has g).2; omega⟩)
  have HAS3 := Lib.hid (fun g (hg : Has x.ca x.ta x.ga x.gh M.groups.length g) => (OW.out.has hg).2)
  have K0d := Lib.hid (K0c.out.below b4 K0c.out.lt)
  have K1d := Lib.hid (K1c.out.below b4 K1c.out.lt)
  have K3 := Lib.hid k3
  have HS4 := Lib.hid (HS3.out.keep b4)
  have Z4 := Lib.hid s4
  clear b4 s4 k2 k3 K0c K1c HS3 OW B3
  go_wp2_with fail
  refine (HC.out w4 _ x _ CO.out).mono ?_
  rintro e w5 ⟨gh', rfl, kb, ow5, kk, kv⟩
  have hno : ∀ j, w.heap.size ≤ j → j < w.heap.size + 2 → ¬ (j = sb ∨ (j = w3.heap.size ∨ Has x.ca x.ta x.ga x.gh M.groups.length j)) := fun j hj0 hj hh => by
    have z1 := Z2.out; have z2 := Z3.out; have z3 := S1.out; have z4 := HSB.out
    rcases hh with hh | hh | hh
    · omega
    · omega
    · have := (CO.out.own.has hh).1; omega
  have KB := Lib.hid kb
  have OW5 := Lib.hid ow5
  have KV := Lib.hid kv
  have K1e := Lib.hid (kk.blk K1d.out (hno _ (by omega) (by omega)))
  have BF := Lib.hid (show Keep (fun j => j = sb) w w5 from (Keep.of_below CO.out.bel).then_ kk fun j hlt hj => by
      have h1 := CO.out.lowp; have h2 := CO.out.low
      rcases hj with hj | hj | hj
      · exact hj
      · omega
      · have := (CO.out.own.has hj).1; omega)
  have ZB := Lib.hid (show w.heap.size + 1 < w2.heap.size by have := Z2.out; have := S1.out; omega)
  clear kb ow5 kk hno kv
  have n0 := KB.out.cell 0
  have n1 := KB.out.cell 1
  have n2 := KB.out.cell 2
  have n3 := KB.out.cell 3
  simp at n0 n1 n2 n3
  go_upto_region 7 with (go_at_call 167; refine (as_nil _ _).mono ?_; rintro e w6 ⟨rfl, rfl⟩)
  have d0 := K1e.out.cell 0
  have d1 := K1e.out.cell 1
  have d2 := K1e.out.cell 2
  have d3 := K1e.out.cell 3
  have df := fun i => K1e.out.frozen i
  simp at d0 d1 d2 d3
  go_wp2
  have kz := Lib.hid (show Keep (fun i => i = w.heap.size + 1) w5 ((((w5.setCell ⟨w.heap.size + 1, 0, none⟩ (.int .i64 M'.now)).setCell ⟨w.heap.size + 1, 1, none⟩ (.slice x.ca M'.cpus.length x.cc)).setCell ⟨w.heap.size + 1, 2, none⟩ (.slice x.ta M'.tasks.length x.tc)).setCell ⟨w.heap.size + 1, 3, none⟩ (.slice x.ga M'.groups.length x.gc)) from ((((Keep.set _ _ _ (by rfl)).trans (Keep.set _ _ _ (by rfl))).trans (Keep.set _ _ _ (by rfl))).trans (Keep.set _ _ _ (by rfl))))
  refine bodyPost_ret (v := .tuple #[.agg #[.int .i64 M'.now, .slice x.ca M'.cpus.length x.cc, .slice x.ta M'.tasks.length x.tc, .slice x.ga M'.groups.length x.gc], .int .i64 0]) (by simp [results, Tryz.results114, go_sem, *]) rfl ⟨⟨x.ca, x.cc, x.ta, x.tc, x.ga, x.gc, gh'⟩, rfl, ?_, ?_, ?_⟩
  · exact BF.out.then_ kz.out fun i hlt h => by omega
  · exact OW5.out.fin kz.out (fun i h => by have := ZB.out; omega) (by have := ZB.out; omega)
  · exact kz.out.blk KV.out (fun h => by have := HSB.out; omega)
set_option maxRecDepth 100000 in
set_option maxHeartbeats 4000000 in
theorem iMake1_there (w W : World) (p : Nat) (x : WH) (M : WorldM) (B : Nat) (hc : COn w W p x M B) (hf : WFit M) (hB : worldB M = true) (nb gb sb g : Nat) (s : ByteArray) (hg : g < 8) (hu : usedI M g = true) (hn : nameB s = true) (hsm : s.size ≤ 1048576) (n0 : W.cell? ⟨nb, 0, none⟩ = some (.string s)) (g0 : W.cell? ⟨gb, 0, none⟩ = some (.int .i64 g)) (ht : thereB M g s = true) :
    Calls Tryz.prog 115 #[.pointer (some ⟨p, 0, none⟩), .pointer (some ⟨nb, 0, none⟩), .pointer (some ⟨gb, 0, none⟩), .pointer (some ⟨sb, 0, none⟩)] W (CRef p x 7 M.groups.length W) := by
  have HTT := Lib.hid ht
  clear ht
  have CO0 := Lib.hid hc
  have HU := Lib.hid hu
  have HNM := Lib.hid hn
  have HSM := Lib.hid hsm
  have HFG := Lib.hid (fitG_of hf)
  have HB := Lib.hid hB
  have HT := Lib.hid (facts_of hB).tree
  have HGU := Lib.hid (show (grp M g).used = true by have := hu; simp only [usedI, Bool.and_eq_true, Int.toNat_natCast] at this; exact this.2)
  have HC4 := Lib.hid (facts_of hB).c4
  have HG8 := Lib.hid hg
  have gnn : (0 : Int) ≤ (g : Int) := by omega
  have N0 := Lib.hid n0
  have G0 := Lib.hid g0
  have BE0 := Lib.hid (Below.refl W.heap.size W)
  clear hc hu hn hsm hf hB g0
  go_enter Tryz.func115, Tryz.ntmps115
  go_upto_region 3 with (go_at_call 60; refine (iNameOk_any s _ HSM.out).mono ?_; rintro e w2 ⟨rfl, hb2⟩; rw [HNM.out])
  have N2 := Lib.hid ((hb2).cell (p := ⟨nb, 0, none⟩) (World.block_lt_of_cell? _ _ N0.out) |>.trans N0.out)
  have G2 := Lib.hid ((hb2).cell (p := ⟨gb, 0, none⟩) (World.block_lt_of_cell? _ _ G0.out) |>.trans G0.out)
  have CO2 := Lib.hid (CO0.out.keep hb2)
  have BE2 := Lib.hid (BE0.out.andThen hb2)
  clear hb2 n0
  have n3 := CO2.out.pa.groups
  have g2 := G2.out
  have bd : Below w2.heap.size w2 w2.drew := drewBelow _
  have q_n3 := fun d os => cell_regrown n3 d os
  have q_g2 := fun d os => cell_regrown g2 d os
  refine region_by [false, false, false, false, false, true, false] (by kernel_rfl) (by kernel_rfl) (by kernel_rfl) ?_
  repeat (first | (refine wpR_skip (by rfl) ?_; simp only [Act.put, List.setIfInBounds_toArray, List.set_cons_zero, List.set_cons_succ]) | (refine wpR_det (by rfl) (fun K hK => ?_); go_big_quiet_op; refine hK _ ?_; clear hK K))
  refine wpR_bar (by rfl) (fun K hK => ?_)
  go_big_op
  go_at_call 116
  refine (iGroupUsed_any x.ca x.ta x.ga x.gc x.gh M _ (CO2.out.keep bd).own.wa HFG.out.group _).mono ?_
  rintro e w3 ⟨rfl, rfl⟩
  rw [HU.out]
  refine hK _ _ (regrown_of_below bd) ?_
  clear hK K
  repeat (first | (refine wpR_skip (by rfl) ?_; simp only [Act.put, List.setIfInBounds_toArray, List.set_cons_zero, List.set_cons_succ]) | (refine wpR_det (by rfl) (fun K hK => ?_); go_big_quiet_op; refine hK _ ?_; clear hK K))
  refine wpR_nil ?_
  clear q_n3 q_g2 n3 g2
  go_upto_region 5 with (fail)
  refine genW (p := fun W => Code.wp _ _ _ _ W) ?_
  intro w3 hw3
  have bd3 : Below w2.heap.size w2 w3 := hw3 ▸ bd
  clear hw3 bd
  have N3 := Lib.hid ((bd3).cell (p := ⟨nb, 0, none⟩) (World.block_lt_of_cell? _ _ N2.out) |>.trans N2.out)
  have G3 := Lib.hid ((bd3).cell (p := ⟨gb, 0, none⟩) (World.block_lt_of_cell? _ _ G2.out) |>.trans G2.out)
  have CO3 := Lib.hid (CO2.out.keep bd3)
  have BE3 := Lib.hid (BE2.out.andThen bd3)
  clear bd3
  obtain ⟨L, hL⟩ : ∃ L, kidsN M g 8 = L := ⟨_, rfl⟩
  have HLK := Lib.hid hL
  clear hL
  have n3 := CO3.out.pa.groups
  have g2 := G3.out
  have bd : Below w3.heap.size w3 w3.drew := drewBelow _
  have q_n3 := fun d os => cell_regrown n3 d os
  have q_g2 := fun d os => cell_regrown g2 d os
  refine region_or [false, false, false, false, false, false, true, false] [0, 1, 2, 3, 4, 7, 5, 6] (by kernel_rfl) (by kernel_rfl) rfl (by kernel_rfl) (by kernel_rfl) ?_
  simp only [permL, List.getElem?_cons_zero, List.getElem?_cons_succ, Option.toList_some, List.cons_append, List.nil_append]
  repeat (first | (refine wpR_skip (by rfl) ?_; simp only [Act.put, List.setIfInBounds_toArray, List.set_cons_zero, List.set_cons_succ]) | (refine wpR_det (by rfl) (fun K hK => ?_); go_big_quiet_op; refine hK _ ?_; clear hK K))
  refine wpR_bar (by rfl) (fun K hK => ?_)
  go_big_op
  go_at_call 97
  refine (iKids_any x.ca x.ta x.ga x.gc x.gh M _ (CO3.out.keep bd).own.wa HFG.out HB.out g HG8.out HU.out).mono ?_
  rintro e w4 ⟨A, c, rfl, hb4, hR⟩
  rw [HLK.out] at hR ⊢
  have HR := Lib.hid hR
  have B4 := Lib.hid (bd.andThen hb4)
  refine hK _ _ (regrown_of_below (bd.andThen hb4)) ?_
  clear hK K
  repeat (first | (refine wpR_skip (by rfl) ?_; simp only [Act.put, List.setIfInBounds_toArray, List.set_cons_zero, List.set_cons_succ]) | (refine wpR_det (by rfl) (fun K hK => ?_); go_big_quiet_op; refine hK _ ?_; clear hK K))
  refine wpR_nil ?_
  have N4 := Lib.hid ((B4.out).cell (p := ⟨nb, 0, none⟩) (World.block_lt_of_cell? _ _ N3.out) |>.trans N3.out)
  have G4 := Lib.hid ((B4.out).cell (p := ⟨gb, 0, none⟩) (World.block_lt_of_cell? _ _ G3.out) |>.trans G3.out)
  have CO4 := Lib.hid (CO3.out.keep B4.out)
  have BE4 := Lib.hid (BE3.out.andThen B4.out)
  clear q_n3 q_g2 n3 g2 hb4 bd hR
  go_wp2
  go_loopw [30] (fun i wr => ∃ k : Nat, k ≤ L.length ∧ i = .int .i64 k ∧ (L.take k).all (fun h => !((grp M h).name.toList == s.toList)) = true ∧ Below w4.heap.size w4 wr) (fun i _ => L.length - (intOf i).toNat)
  case atStart => exact ⟨0, Nat.zero_le _, rfl, by simp, Below.refl _ _⟩
  case round =>
    obtain ⟨k, hk, rfl, hall, hb⟩ := hrel
    have HA := Lib.hid hall
    have hb5 := Lib.hid hb
    have N5 := Lib.hid ((hb5.out).cell (p := ⟨nb, 0, none⟩) (World.block_lt_of_cell? _ _ N4.out) |>.trans N4.out)
    have G5 := Lib.hid ((hb5.out).cell (p := ⟨gb, 0, none⟩) (World.block_lt_of_cell? _ _ G4.out) |>.trans G4.out)
    have CO5 := Lib.hid (CO4.out.keep hb5.out)
    have BE5 := Lib.hid (BE4.out.andThen hb5.out)
    have HL8 := Lib.hid (show L.length ≤ 8 by rw [← HLK.out]; exact kidsN_len M g 8)
    by_cases hlt : k < L.length
    · obtain ⟨b, hAe, hbl, hbB, v0, f0⟩ := (HR.out.below hb).cell hlt (i := 0) (by omega)
      have HAE := Lib.hid hAe
      rw [hAe]
      clear hb hall
      obtain ⟨j, hj⟩ : ∃ j, L.getD k 0 = j := ⟨_, rfl⟩
      have HJ := Lib.hid hj
      have hjm : j ∈ kidsN M g 8 := by rw [HLK.out, ← hj, List.getD_eq_getElem?_getD, List.getElem?_eq_getElem hlt]; exact List.getElem_mem hlt
      have hj2 := kidsN_mem.1 hjm
      have HKB := Lib.hid hj2.2
      simp only [fK, hj, Nat.add_zero, Nat.mul_one] at v0
      have hjl : j < M.groups.length := by have := HT.out.len; omega
      obtain ⟨b2, o2, hga, hb2l, c0, c1, c2, _⟩ := CO5.out.own.wa.group_ hjl
      have i0 : (0 : Int) ≤ (k : Int) := by omega
      have i1 : (k : Int) < (L.length : Int) := by omega
      have i2 : (0 : Int) ≤ (j : Int) := by omega
      have i3 : (j : Int) < (M.groups.length : Int) := by omega
      have i4 : (L.length : Int) ≤ 8 := by have := HL8.out; omega
      have hgm := HFG.out.group
      have HLT := Lib.hid hlt
      have n3 := CO5.out.pa.groups
      rw [hga] at n3
      have nn := N5.out
      clear hj hj2 hjm hlt c0 c1 hga hjl
      go_upto_region 8 with (fail)
      have q_n3 := fun d os => cell_regrown n3 d os
      have q_c2 := fun d os => cell_regrown c2 d os
      have q_nn := fun d os => cell_regrown nn d os
      have bd : Below wr.heap.size wr wr.drew := drewBelow _
      by_cases he : ((grp M j).name.toList == s.toList) = true
      · have HTH := Lib.hid (show thereB M g s = true from any_of (k := j) (by have := i3; omega) (by rw [nkB_kid, HKB.out, he]; rfl))
        generalize (grp M j).name = nm at c2 q_c2 he
        refine region_by [false, false, false, false, false, false, false, false, false, false] (by kernel_rfl) (by kernel_rfl) (by kernel_rfl) ?_
        repeat (first | (refine wpR_skip (by rfl) ?_; simp only [Act.put, List.setIfInBounds_toArray, List.set_cons_zero, List.set_cons_succ]) | (refine wpR_det (by rfl) (fun K hK => ?_); go_big_quiet_op; refine hK _ ?_; clear hK K))
        refine wpR_nil ?_
        clear q_n3 q_c2 q_nn n3 c2 nn v0
        go_wp2
        go_ret
        exact (CRef.mk_ bd).of BE5.out
      · have he2 : ((grp M j).name.toList == s.toList) = false := by simpa using he
        have HEQ := Lib.hid he2
        clear he
        generalize (grp M j).name = nm at c2 q_c2 he2
        refine region_by [false, false, false, false, false, false, false, false, false, false] (by kernel_rfl) (by kernel_rfl) (by kernel_rfl) ?_
        repeat (first | (refine wpR_skip (by rfl) ?_; simp only [Act.put, List.setIfInBounds_toArray, List.set_cons_zero, List.set_cons_succ]) | (refine wpR_det (by rfl) (fun K hK => ?_); go_big_quiet_op; refine hK _ ?_; clear hK K))
        refine wpR_nil ?_
        clear q_n3 q_c2 q_nn n3 c2 nn v0
        go_wp2
        go_roundw
        case rel => exact ⟨k + 1, by have := HLT.out; omega, by go_num, by rw [all_take_succ HLT.out, HA.out, show L[k]'HLT.out = j by rw [← HJ.out, List.getD_eq_getElem?_getD, List.getElem?_eq_getElem HLT.out]; rfl, HEQ.out]; rfl, hb5.out.andThen bd⟩
        case measure => have := HLT.out; simp [intOf]; omega
    · obtain rfl : k = L.length := by omega
      have HTH := Lib.hid (show thereB M g s = false by
        cases h : thereB M g s with
        | false => rfl
        | true =>
          exfalso
          rw [thereB, List.any_eq_true] at h
          obtain ⟨j, hj, hk2⟩ := h
          rw [nkB_kid, Bool.and_eq_true] at hk2
          have hm : j ∈ L := by rw [← HLK.out]; exact kidsN_mem.2 ⟨by have := HT.out.len; have := List.mem_range.1 hj; omega, hk2.1⟩
          have ha := HA.out
          rw [List.take_length, List.all_eq_true] at ha
          have := ha j hm
          rw [hk2.2] at this
          exact absurd this (by decide))
      clear hb hall hlt hk
      have gg := G5.out
      have n3 := CO5.out.pa.groups
      exact absurd (HTH.out.symm.trans HTT.out) (by decide)
set_option maxRecDepth 100000 in
set_option maxHeartbeats 4000000 in
theorem iMake1_deep (w W : World) (p : Nat) (x : WH) (M : WorldM) (B : Nat) (hc : COn w W p x M B) (hf : WFit M) (hB : worldB M = true) (nb gb sb g : Nat) (s : ByteArray) (hg : g < 8) (hu : usedI M g = true) (hn : nameB s = true) (hsm : s.size ≤ 1048576) (n0 : W.cell? ⟨nb, 0, none⟩ = some (.string s)) (g0 : W.cell? ⟨gb, 0, none⟩ = some (.int .i64 g)) (ht : thereB M g s = false) (hd : dp M g = 3) :
    Calls Tryz.prog 115 #[.pointer (some ⟨p, 0, none⟩), .pointer (some ⟨nb, 0, none⟩), .pointer (some ⟨gb, 0, none⟩), .pointer (some ⟨sb, 0, none⟩)] W (CRef p x 9 M.groups.length W) := by
  have HTT := Lib.hid ht
  clear ht
  have HDP := Lib.hid (show (dp M g : Int) = 3 by omega)
  clear hd
  have CO0 := Lib.hid hc
  have HU := Lib.hid hu
  have HNM := Lib.hid hn
  have HSM := Lib.hid hsm
  have HFG := Lib.hid (fitG_of hf)
  have HB := Lib.hid hB
  have HT := Lib.hid (facts_of hB).tree
  have HGU := Lib.hid (show (grp M g).used = true by have := hu; simp only [usedI, Bool.and_eq_true, Int.toNat_natCast] at this; exact this.2)
  have HC4 := Lib.hid (facts_of hB).c4
  have HG8 := Lib.hid hg
  have gnn : (0 : Int) ≤ (g : Int) := by omega
  have N0 := Lib.hid n0
  have G0 := Lib.hid g0
  have BE0 := Lib.hid (Below.refl W.heap.size W)
  clear hc hu hn hsm hf hB g0
  go_enter Tryz.func115, Tryz.ntmps115
  go_upto_region 3 with (go_at_call 60; refine (iNameOk_any s _ HSM.out).mono ?_; rintro e w2 ⟨rfl, hb2⟩; rw [HNM.out])
  have N2 := Lib.hid ((hb2).cell (p := ⟨nb, 0, none⟩) (World.block_lt_of_cell? _ _ N0.out) |>.trans N0.out)
  have G2 := Lib.hid ((hb2).cell (p := ⟨gb, 0, none⟩) (World.block_lt_of_cell? _ _ G0.out) |>.trans G0.out)
  have CO2 := Lib.hid (CO0.out.keep hb2)
  have BE2 := Lib.hid (BE0.out.andThen hb2)
  clear hb2 n0
  have n3 := CO2.out.pa.groups
  have g2 := G2.out
  have bd : Below w2.heap.size w2 w2.drew := drewBelow _
  have q_n3 := fun d os => cell_regrown n3 d os
  have q_g2 := fun d os => cell_regrown g2 d os
  refine region_by [false, false, false, false, false, true, false] (by kernel_rfl) (by kernel_rfl) (by kernel_rfl) ?_
  repeat (first | (refine wpR_skip (by rfl) ?_; simp only [Act.put, List.setIfInBounds_toArray, List.set_cons_zero, List.set_cons_succ]) | (refine wpR_det (by rfl) (fun K hK => ?_); go_big_quiet_op; refine hK _ ?_; clear hK K))
  refine wpR_bar (by rfl) (fun K hK => ?_)
  go_big_op
  go_at_call 116
  refine (iGroupUsed_any x.ca x.ta x.ga x.gc x.gh M _ (CO2.out.keep bd).own.wa HFG.out.group _).mono ?_
  rintro e w3 ⟨rfl, rfl⟩
  rw [HU.out]
  refine hK _ _ (regrown_of_below bd) ?_
  clear hK K
  repeat (first | (refine wpR_skip (by rfl) ?_; simp only [Act.put, List.setIfInBounds_toArray, List.set_cons_zero, List.set_cons_succ]) | (refine wpR_det (by rfl) (fun K hK => ?_); go_big_quiet_op; refine hK _ ?_; clear hK K))
  refine wpR_nil ?_
  clear q_n3 q_g2 n3 g2
  go_upto_region 5 with (fail)
  refine genW (p := fun W => Code.wp _ _ _ _ W) ?_
  intro w3 hw3
  have bd3 : Below w2.heap.size w2 w3 := hw3 ▸ bd
  clear hw3 bd
  have N3 := Lib.hid ((bd3).cell (p := ⟨nb, 0, none⟩) (World.block_lt_of_cell? _ _ N2.out) |>.trans N2.out)
  have G3 := Lib.hid ((bd3).cell (p := ⟨gb, 0, none⟩) (World.block_lt_of_cell? _ _ G2.out) |>.trans G2.out)
  have CO3 := Lib.hid (CO2.out.keep bd3)
  have BE3 := Lib.hid (BE2.out.andThen bd3)
  clear bd3
  obtain ⟨L, hL⟩ : ∃ L, kidsN M g 8 = L := ⟨_, rfl⟩
  have HLK := Lib.hid hL
  clear hL
  have n3 := CO3.out.pa.groups
  have g2 := G3.out
  have bd : Below w3.heap.size w3 w3.drew := drewBelow _
  have q_n3 := fun d os => cell_regrown n3 d os
  have q_g2 := fun d os => cell_regrown g2 d os
  refine region_or [false, false, false, false, false, false, true, false] [0, 1, 2, 3, 4, 7, 5, 6] (by kernel_rfl) (by kernel_rfl) rfl (by kernel_rfl) (by kernel_rfl) ?_
  simp only [permL, List.getElem?_cons_zero, List.getElem?_cons_succ, Option.toList_some, List.cons_append, List.nil_append]
  repeat (first | (refine wpR_skip (by rfl) ?_; simp only [Act.put, List.setIfInBounds_toArray, List.set_cons_zero, List.set_cons_succ]) | (refine wpR_det (by rfl) (fun K hK => ?_); go_big_quiet_op; refine hK _ ?_; clear hK K))
  refine wpR_bar (by rfl) (fun K hK => ?_)
  go_big_op
  go_at_call 97
  refine (iKids_any x.ca x.ta x.ga x.gc x.gh M _ (CO3.out.keep bd).own.wa HFG.out HB.out g HG8.out HU.out).mono ?_
  rintro e w4 ⟨A, c, rfl, hb4, hR⟩
  rw [HLK.out] at hR ⊢
  have HR := Lib.hid hR
  have B4 := Lib.hid (bd.andThen hb4)
  refine hK _ _ (regrown_of_below (bd.andThen hb4)) ?_
  clear hK K
  repeat (first | (refine wpR_skip (by rfl) ?_; simp only [Act.put, List.setIfInBounds_toArray, List.set_cons_zero, List.set_cons_succ]) | (refine wpR_det (by rfl) (fun K hK => ?_); go_big_quiet_op; refine hK _ ?_; clear hK K))
  refine wpR_nil ?_
  have N4 := Lib.hid ((B4.out).cell (p := ⟨nb, 0, none⟩) (World.block_lt_of_cell? _ _ N3.out) |>.trans N3.out)
  have G4 := Lib.hid ((B4.out).cell (p := ⟨gb, 0, none⟩) (World.block_lt_of_cell? _ _ G3.out) |>.trans G3.out)
  have CO4 := Lib.hid (CO3.out.keep B4.out)
  have BE4 := Lib.hid (BE3.out.andThen B4.out)
  clear q_n3 q_g2 n3 g2 hb4 bd hR
  go_wp2
  go_loopw [30] (fun i wr => ∃ k : Nat, k ≤ L.length ∧ i = .int .i64 k ∧ (L.take k).all (fun h => !((grp M h).name.toList == s.toList)) = true ∧ Below w4.heap.size w4 wr) (fun i _ => L.length - (intOf i).toNat)
  case atStart => exact ⟨0, Nat.zero_le _, rfl, by simp, Below.refl _ _⟩
  case round =>
    obtain ⟨k, hk, rfl, hall, hb⟩ := hrel
    have HA := Lib.hid hall
    have hb5 := Lib.hid hb
    have N5 := Lib.hid ((hb5.out).cell (p := ⟨nb, 0, none⟩) (World.block_lt_of_cell? _ _ N4.out) |>.trans N4.out)
    have G5 := Lib.hid ((hb5.out).cell (p := ⟨gb, 0, none⟩) (World.block_lt_of_cell? _ _ G4.out) |>.trans G4.out)
    have CO5 := Lib.hid (CO4.out.keep hb5.out)
    have BE5 := Lib.hid (BE4.out.andThen hb5.out)
    have HL8 := Lib.hid (show L.length ≤ 8 by rw [← HLK.out]; exact kidsN_len M g 8)
    by_cases hlt : k < L.length
    · obtain ⟨b, hAe, hbl, hbB, v0, f0⟩ := (HR.out.below hb).cell hlt (i := 0) (by omega)
      have HAE := Lib.hid hAe
      rw [hAe]
      clear hb hall
      obtain ⟨j, hj⟩ : ∃ j, L.getD k 0 = j := ⟨_, rfl⟩
      have HJ := Lib.hid hj
      have hjm : j ∈ kidsN M g 8 := by rw [HLK.out, ← hj, List.getD_eq_getElem?_getD, List.getElem?_eq_getElem hlt]; exact List.getElem_mem hlt
      have hj2 := kidsN_mem.1 hjm
      have HKB := Lib.hid hj2.2
      simp only [fK, hj, Nat.add_zero, Nat.mul_one] at v0
      have hjl : j < M.groups.length := by have := HT.out.len; omega
      obtain ⟨b2, o2, hga, hb2l, c0, c1, c2, _⟩ := CO5.out.own.wa.group_ hjl
      have i0 : (0 : Int) ≤ (k : Int) := by omega
      have i1 : (k : Int) < (L.length : Int) := by omega
      have i2 : (0 : Int) ≤ (j : Int) := by omega
      have i3 : (j : Int) < (M.groups.length : Int) := by omega
      have i4 : (L.length : Int) ≤ 8 := by have := HL8.out; omega
      have hgm := HFG.out.group
      have HLT := Lib.hid hlt
      have n3 := CO5.out.pa.groups
      rw [hga] at n3
      have nn := N5.out
      clear hj hj2 hjm hlt c0 c1 hga hjl
      go_upto_region 8 with (fail)
      have q_n3 := fun d os => cell_regrown n3 d os
      have q_c2 := fun d os => cell_regrown c2 d os
      have q_nn := fun d os => cell_regrown nn d os
      have bd : Below wr.heap.size wr wr.drew := drewBelow _
      by_cases he : ((grp M j).name.toList == s.toList) = true
      · have HTH := Lib.hid (show thereB M g s = true from any_of (k := j) (by have := i3; omega) (by rw [nkB_kid, HKB.out, he]; rfl))
        exact absurd (HTH.out.symm.trans HTT.out) (by decide)
      · have he2 : ((grp M j).name.toList == s.toList) = false := by simpa using he
        have HEQ := Lib.hid he2
        clear he
        generalize (grp M j).name = nm at c2 q_c2 he2
        refine region_by [false, false, false, false, false, false, false, false, false, false] (by kernel_rfl) (by kernel_rfl) (by kernel_rfl) ?_
        repeat (first | (refine wpR_skip (by rfl) ?_; simp only [Act.put, List.setIfInBounds_toArray, List.set_cons_zero, List.set_cons_succ]) | (refine wpR_det (by rfl) (fun K hK => ?_); go_big_quiet_op; refine hK _ ?_; clear hK K))
        refine wpR_nil ?_
        clear q_n3 q_c2 q_nn n3 c2 nn v0
        go_wp2
        go_roundw
        case rel => exact ⟨k + 1, by have := HLT.out; omega, by go_num, by rw [all_take_succ HLT.out, HA.out, show L[k]'HLT.out = j by rw [← HJ.out, List.getD_eq_getElem?_getD, List.getElem?_eq_getElem HLT.out]; rfl, HEQ.out]; rfl, hb5.out.andThen bd⟩
        case measure => have := HLT.out; simp [intOf]; omega
    · obtain rfl : k = L.length := by omega
      have HTH := Lib.hid (show thereB M g s = false by
        cases h : thereB M g s with
        | false => rfl
        | true =>
          exfalso
          rw [thereB, List.any_eq_true] at h
          obtain ⟨j, hj, hk2⟩ := h
          rw [nkB_kid, Bool.and_eq_true] at hk2
          have hm : j ∈ L := by rw [← HLK.out]; exact kidsN_mem.2 ⟨by have := HT.out.len; have := List.mem_range.1 hj; omega, hk2.1⟩
          have ha := HA.out
          rw [List.take_length, List.all_eq_true] at ha
          have := ha j hm
          rw [hk2.2] at this
          exact absurd this (by decide))
      clear hb hall hlt hk
      have gg := G5.out
      have n3 := CO5.out.pa.groups
      go_wp2_with (go_at_call 117; refine (iLevel_any p x.ca x.cc x.ta x.tc x.ga x.gc x.gh M _ CO5.out.pa HFG.out HT.out g HG8.out HGU.out).mono ?_; rintro e w6 ⟨rfl, rfl⟩; rw [HDP.out])
      go_ret
      exact (CRef.mk_ (Below.refl _ _)).of BE5.out
set_option maxRecDepth 100000 in
set_option maxHeartbeats 4000000 in
theorem iMake1_full (w W : World) (p : Nat) (x : WH) (M : WorldM) (B : Nat) (hc : COn w W p x M B) (hf : WFit M) (hB : worldB M = true) (nb gb sb g : Nat) (s : ByteArray) (hg : g < 8) (hu : usedI M g = true) (hn : nameB s = true) (hsm : s.size ≤ 1048576) (n0 : W.cell? ⟨nb, 0, none⟩ = some (.string s)) (g0 : W.cell? ⟨gb, 0, none⟩ = some (.int .i64 g)) (ht : thereB M g s = false) (hd : dp M g ≠ 3) (hfr : freeM M = none) :
    Calls Tryz.prog 115 #[.pointer (some ⟨p, 0, none⟩), .pointer (some ⟨nb, 0, none⟩), .pointer (some ⟨gb, 0, none⟩), .pointer (some ⟨sb, 0, none⟩)] W (CRef p x 3 M.groups.length W) := by
  have HTT := Lib.hid ht
  clear ht
  obtain ⟨dpi, hdpi⟩ : ∃ d : Int, (dp M g : Int) = d := ⟨_, rfl⟩
  have HDP := Lib.hid hdpi
  have hd2 : (dpi == 3) = false := by rw [← hdpi]; simp; omega
  clear hd hdpi
  have HFR := Lib.hid (show freeI M 0 = -1 by rw [freeI_zero, hfr])
  clear hfr
  have CO0 := Lib.hid hc
  have HU := Lib.hid hu
  have HNM := Lib.hid hn
  have HSM := Lib.hid hsm
  have HFG := Lib.hid (fitG_of hf)
  have HB := Lib.hid hB
  have HT := Lib.hid (facts_of hB).tree
  have HGU := Lib.hid (show (grp M g).used = true by have := hu; simp only [usedI, Bool.and_eq_true, Int.toNat_natCast] at this; exact this.2)
  have HC4 := Lib.hid (facts_of hB).c4
  have HG8 := Lib.hid hg
  have gnn : (0 : Int) ≤ (g : Int) := by omega
  have N0 := Lib.hid n0
  have G0 := Lib.hid g0
  have BE0 := Lib.hid (Below.refl W.heap.size W)
  clear hc hu hn hsm hf hB g0
  go_enter Tryz.func115, Tryz.ntmps115
  go_upto_region 3 with (go_at_call 60; refine (iNameOk_any s _ HSM.out).mono ?_; rintro e w2 ⟨rfl, hb2⟩; rw [HNM.out])
  have N2 := Lib.hid ((hb2).cell (p := ⟨nb, 0, none⟩) (World.block_lt_of_cell? _ _ N0.out) |>.trans N0.out)
  have G2 := Lib.hid ((hb2).cell (p := ⟨gb, 0, none⟩) (World.block_lt_of_cell? _ _ G0.out) |>.trans G0.out)
  have CO2 := Lib.hid (CO0.out.keep hb2)
  have BE2 := Lib.hid (BE0.out.andThen hb2)
  clear hb2 n0
  have n3 := CO2.out.pa.groups
  have g2 := G2.out
  have bd : Below w2.heap.size w2 w2.drew := drewBelow _
  have q_n3 := fun d os => cell_regrown n3 d os
  have q_g2 := fun d os => cell_regrown g2 d os
  refine region_by [false, false, false, false, false, true, false] (by kernel_rfl) (by kernel_rfl) (by kernel_rfl) ?_
  repeat (first | (refine wpR_skip (by rfl) ?_; simp only [Act.put, List.setIfInBounds_toArray, List.set_cons_zero, List.set_cons_succ]) | (refine wpR_det (by rfl) (fun K hK => ?_); go_big_quiet_op; refine hK _ ?_; clear hK K))
  refine wpR_bar (by rfl) (fun K hK => ?_)
  go_big_op
  go_at_call 116
  refine (iGroupUsed_any x.ca x.ta x.ga x.gc x.gh M _ (CO2.out.keep bd).own.wa HFG.out.group _).mono ?_
  rintro e w3 ⟨rfl, rfl⟩
  rw [HU.out]
  refine hK _ _ (regrown_of_below bd) ?_
  clear hK K
  repeat (first | (refine wpR_skip (by rfl) ?_; simp only [Act.put, List.setIfInBounds_toArray, List.set_cons_zero, List.set_cons_succ]) | (refine wpR_det (by rfl) (fun K hK => ?_); go_big_quiet_op; refine hK _ ?_; clear hK K))
  refine wpR_nil ?_
  clear q_n3 q_g2 n3 g2
  go_upto_region 5 with (fail)
  refine genW (p := fun W => Code.wp _ _ _ _ W) ?_
  intro w3 hw3
  have bd3 : Below w2.heap.size w2 w3 := hw3 ▸ bd
  clear hw3 bd
  have N3 := Lib.hid ((bd3).cell (p := ⟨nb, 0, none⟩) (World.block_lt_of_cell? _ _ N2.out) |>.trans N2.out)
  have G3 := Lib.hid ((bd3).cell (p := ⟨gb, 0, none⟩) (World.block_lt_of_cell? _ _ G2.out) |>.trans G2.out)
  have CO3 := Lib.hid (CO2.out.keep bd3)
  have BE3 := Lib.hid (BE2.out.andThen bd3)
  clear bd3
  obtain ⟨L, hL⟩ : ∃ L, kidsN M g 8 = L := ⟨_, rfl⟩
  have HLK := Lib.hid hL
  clear hL
  have n3 := CO3.out.pa.groups
  have g2 := G3.out
  have bd : Below w3.heap.size w3 w3.drew := drewBelow _
  have q_n3 := fun d os => cell_regrown n3 d os
  have q_g2 := fun d os => cell_regrown g2 d os
  refine region_or [false, false, false, false, false, false, true, false] [0, 1, 2, 3, 4, 7, 5, 6] (by kernel_rfl) (by kernel_rfl) rfl (by kernel_rfl) (by kernel_rfl) ?_
  simp only [permL, List.getElem?_cons_zero, List.getElem?_cons_succ, Option.toList_some, List.cons_append, List.nil_append]
  repeat (first | (refine wpR_skip (by rfl) ?_; simp only [Act.put, List.setIfInBounds_toArray, List.set_cons_zero, List.set_cons_succ]) | (refine wpR_det (by rfl) (fun K hK => ?_); go_big_quiet_op; refine hK _ ?_; clear hK K))
  refine wpR_bar (by rfl) (fun K hK => ?_)
  go_big_op
  go_at_call 97
  refine (iKids_any x.ca x.ta x.ga x.gc x.gh M _ (CO3.out.keep bd).own.wa HFG.out HB.out g HG8.out HU.out).mono ?_
  rintro e w4 ⟨A, c, rfl, hb4, hR⟩
  rw [HLK.out] at hR ⊢
  have HR := Lib.hid hR
  have B4 := Lib.hid (bd.andThen hb4)
  refine hK _ _ (regrown_of_below (bd.andThen hb4)) ?_
  clear hK K
  repeat (first | (refine wpR_skip (by rfl) ?_; simp only [Act.put, List.setIfInBounds_toArray, List.set_cons_zero, List.set_cons_succ]) | (refine wpR_det (by rfl) (fun K hK => ?_); go_big_quiet_op; refine hK _ ?_; clear hK K))
  refine wpR_nil ?_
  have N4 := Lib.hid ((B4.out).cell (p := ⟨nb, 0, none⟩) (World.block_lt_of_cell? _ _ N3.out) |>.trans N3.out)
  have G4 := Lib.hid ((B4.out).cell (p := ⟨gb, 0, none⟩) (World.block_lt_of_cell? _ _ G3.out) |>.trans G3.out)
  have CO4 := Lib.hid (CO3.out.keep B4.out)
  have BE4 := Lib.hid (BE3.out.andThen B4.out)
  clear q_n3 q_g2 n3 g2 hb4 bd hR
  go_wp2
  go_loopw [30] (fun i wr => ∃ k : Nat, k ≤ L.length ∧ i = .int .i64 k ∧ (L.take k).all (fun h => !((grp M h).name.toList == s.toList)) = true ∧ Below w4.heap.size w4 wr) (fun i _ => L.length - (intOf i).toNat)
  case atStart => exact ⟨0, Nat.zero_le _, rfl, by simp, Below.refl _ _⟩
  case round =>
    obtain ⟨k, hk, rfl, hall, hb⟩ := hrel
    have HA := Lib.hid hall
    have hb5 := Lib.hid hb
    have N5 := Lib.hid ((hb5.out).cell (p := ⟨nb, 0, none⟩) (World.block_lt_of_cell? _ _ N4.out) |>.trans N4.out)
    have G5 := Lib.hid ((hb5.out).cell (p := ⟨gb, 0, none⟩) (World.block_lt_of_cell? _ _ G4.out) |>.trans G4.out)
    have CO5 := Lib.hid (CO4.out.keep hb5.out)
    have BE5 := Lib.hid (BE4.out.andThen hb5.out)
    have HL8 := Lib.hid (show L.length ≤ 8 by rw [← HLK.out]; exact kidsN_len M g 8)
    by_cases hlt : k < L.length
    · obtain ⟨b, hAe, hbl, hbB, v0, f0⟩ := (HR.out.below hb).cell hlt (i := 0) (by omega)
      have HAE := Lib.hid hAe
      rw [hAe]
      clear hb hall
      obtain ⟨j, hj⟩ : ∃ j, L.getD k 0 = j := ⟨_, rfl⟩
      have HJ := Lib.hid hj
      have hjm : j ∈ kidsN M g 8 := by rw [HLK.out, ← hj, List.getD_eq_getElem?_getD, List.getElem?_eq_getElem hlt]; exact List.getElem_mem hlt
      have hj2 := kidsN_mem.1 hjm
      have HKB := Lib.hid hj2.2
      simp only [fK, hj, Nat.add_zero, Nat.mul_one] at v0
      have hjl : j < M.groups.length := by have := HT.out.len; omega
      obtain ⟨b2, o2, hga, hb2l, c0, c1, c2, _⟩ := CO5.out.own.wa.group_ hjl
      have i0 : (0 : Int) ≤ (k : Int) := by omega
      have i1 : (k : Int) < (L.length : Int) := by omega
      have i2 : (0 : Int) ≤ (j : Int) := by omega
      have i3 : (j : Int) < (M.groups.length : Int) := by omega
      have i4 : (L.length : Int) ≤ 8 := by have := HL8.out; omega
      have hgm := HFG.out.group
      have HLT := Lib.hid hlt
      have n3 := CO5.out.pa.groups
      rw [hga] at n3
      have nn := N5.out
      clear hj hj2 hjm hlt c0 c1 hga hjl
      go_upto_region 8 with (fail)
      have q_n3 := fun d os => cell_regrown n3 d os
      have q_c2 := fun d os => cell_regrown c2 d os
      have q_nn := fun d os => cell_regrown nn d os
      have bd : Below wr.heap.size wr wr.drew := drewBelow _
      by_cases he : ((grp M j).name.toList == s.toList) = true
      · have HTH := Lib.hid (show thereB M g s = true from any_of (k := j) (by have := i3; omega) (by rw [nkB_kid, HKB.out, he]; rfl))
        exact absurd (HTH.out.symm.trans HTT.out) (by decide)
      · have he2 : ((grp M j).name.toList == s.toList) = false := by simpa using he
        have HEQ := Lib.hid he2
        clear he
        generalize (grp M j).name = nm at c2 q_c2 he2
        refine region_by [false, false, false, false, false, false, false, false, false, false] (by kernel_rfl) (by kernel_rfl) (by kernel_rfl) ?_
        repeat (first | (refine wpR_skip (by rfl) ?_; simp only [Act.put, List.setIfInBounds_toArray, List.set_cons_zero, List.set_cons_succ]) | (refine wpR_det (by rfl) (fun K hK => ?_); go_big_quiet_op; refine hK _ ?_; clear hK K))
        refine wpR_nil ?_
        clear q_n3 q_c2 q_nn n3 c2 nn v0
        go_wp2
        go_roundw
        case rel => exact ⟨k + 1, by have := HLT.out; omega, by go_num, by rw [all_take_succ HLT.out, HA.out, show L[k]'HLT.out = j by rw [← HJ.out, List.getD_eq_getElem?_getD, List.getElem?_eq_getElem HLT.out]; rfl, HEQ.out]; rfl, hb5.out.andThen bd⟩
        case measure => have := HLT.out; simp [intOf]; omega
    · obtain rfl : k = L.length := by omega
      have HTH := Lib.hid (show thereB M g s = false by
        cases h : thereB M g s with
        | false => rfl
        | true =>
          exfalso
          rw [thereB, List.any_eq_true] at h
          obtain ⟨j, hj, hk2⟩ := h
          rw [nkB_kid, Bool.and_eq_true] at hk2
          have hm : j ∈ L := by rw [← HLK.out]; exact kidsN_mem.2 ⟨by have := HT.out.len; have := List.mem_range.1 hj; omega, hk2.1⟩
          have ha := HA.out
          rw [List.take_length, List.all_eq_true] at ha
          have := ha j hm
          rw [hk2.2] at this
          exact absurd this (by decide))
      clear hb hall hlt hk
      have gg := G5.out
      have n3 := CO5.out.pa.groups
      go_wp2_with (first | (go_at_call 117; refine (iLevel_any p x.ca x.cc x.ta x.tc x.ga x.gc x.gh M _ CO5.out.pa HFG.out HT.out g HG8.out HGU.out).mono ?_; rintro e w6 ⟨rfl, rfl⟩; rw [HDP.out]) | (go_at_call 118; refine (iIndex_any x.ca x.ta x.ga x.gc x.gh M _ CO5.out.own.wa HFG.out HT.out.len HT.out.root).mono ?_; rintro e w7 ⟨rfl, hb7⟩; rw [HFR.out]))
      go_ret
      exact (CRef.mk_ (Below.refl _ _)).of (BE5.out.andThen hb7)
set_option maxRecDepth 100000 in
set_option maxHeartbeats 4000000 in
theorem iMake1_end (w W : World) (p : Nat) (x : WH) (M : WorldM) (B : Nat) (hc : COn w W p x M B) (hf : WFit M) (hB : worldB M = true) (nb gb sb g : Nat) (s : ByteArray) (hg : g < 8) (hu : usedI M g = true) (hn : nameB s = true) (hsm : s.size ≤ 1048576) (n0 : W.cell? ⟨nb, 0, none⟩ = some (.string s)) (g0 : W.cell? ⟨gb, 0, none⟩ = some (.int .i64 g)) (ht : thereB M g s = false) (hd : dp M g ≠ 3) (f : Nat) (hfr : freeM M = some f) (hR : roomM M = false) :
    Calls Tryz.prog 115 #[.pointer (some ⟨p, 0, none⟩), .pointer (some ⟨nb, 0, none⟩), .pointer (some ⟨gb, 0, none⟩), .pointer (some ⟨sb, 0, none⟩)] W (CRef p x 10 M.groups.length W) := by
  have HTT := Lib.hid ht
  clear ht
  obtain ⟨dpi, hdpi⟩ : ∃ d : Int, (dp M g : Int) = d := ⟨_, rfl⟩
  have HDP := Lib.hid hdpi
  have hd2 : (dpi == 3) = false := by rw [← hdpi]; simp; omega
  clear hd hdpi
  have hf0 : (0 : Int) ≤ (f : Int) := by omega
  have HFB := Lib.hid (freeF_bd hfr)
  have HFR := Lib.hid (show freeI M 0 = (f : Int) by rw [freeI_zero, hfr])
  have HRM := Lib.hid hR
  clear hfr hR
  have CO0 := Lib.hid hc
  have HU := Lib.hid hu
  have HNM := Lib.hid hn
  have HSM := Lib.hid hsm
  have HFG := Lib.hid (fitG_of hf)
  have HB := Lib.hid hB
  have HT := Lib.hid (facts_of hB).tree
  have HGU := Lib.hid (show (grp M g).used = true by have := hu; simp only [usedI, Bool.and_eq_true, Int.toNat_natCast] at this; exact this.2)
  have HC4 := Lib.hid (facts_of hB).c4
  have HG8 := Lib.hid hg
  have gnn : (0 : Int) ≤ (g : Int) := by omega
  have N0 := Lib.hid n0
  have G0 := Lib.hid g0
  have BE0 := Lib.hid (Below.refl W.heap.size W)
  clear hc hu hn hsm hf hB g0
  go_enter Tryz.func115, Tryz.ntmps115
  go_upto_region 3 with (go_at_call 60; refine (iNameOk_any s _ HSM.out).mono ?_; rintro e w2 ⟨rfl, hb2⟩; rw [HNM.out])
  have N2 := Lib.hid ((hb2).cell (p := ⟨nb, 0, none⟩) (World.block_lt_of_cell? _ _ N0.out) |>.trans N0.out)
  have G2 := Lib.hid ((hb2).cell (p := ⟨gb, 0, none⟩) (World.block_lt_of_cell? _ _ G0.out) |>.trans G0.out)
  have CO2 := Lib.hid (CO0.out.keep hb2)
  have BE2 := Lib.hid (BE0.out.andThen hb2)
  clear hb2 n0
  have n3 := CO2.out.pa.groups
  have g2 := G2.out
  have bd : Below w2.heap.size w2 w2.drew := drewBelow _
  have q_n3 := fun d os => cell_regrown n3 d os
  have q_g2 := fun d os => cell_regrown g2 d os
  refine region_by [false, false, false, false, false, true, false] (by kernel_rfl) (by kernel_rfl) (by kernel_rfl) ?_
  repeat (first | (refine wpR_skip (by rfl) ?_; simp only [Act.put, List.setIfInBounds_toArray, List.set_cons_zero, List.set_cons_succ]) | (refine wpR_det (by rfl) (fun K hK => ?_); go_big_quiet_op; refine hK _ ?_; clear hK K))
  refine wpR_bar (by rfl) (fun K hK => ?_)
  go_big_op
  go_at_call 116
  refine (iGroupUsed_any x.ca x.ta x.ga x.gc x.gh M _ (CO2.out.keep bd).own.wa HFG.out.group _).mono ?_
  rintro e w3 ⟨rfl, rfl⟩
  rw [HU.out]
  refine hK _ _ (regrown_of_below bd) ?_
  clear hK K
  repeat (first | (refine wpR_skip (by rfl) ?_; simp only [Act.put, List.setIfInBounds_toArray, List.set_cons_zero, List.set_cons_succ]) | (refine wpR_det (by rfl) (fun K hK => ?_); go_big_quiet_op; refine hK _ ?_; clear hK K))
  refine wpR_nil ?_
  clear q_n3 q_g2 n3 g2
  go_upto_region 5 with (fail)
  refine genW (p := fun W => Code.wp _ _ _ _ W) ?_
  intro w3 hw3
  have bd3 : Below w2.heap.size w2 w3 := hw3 ▸ bd
  clear hw3 bd
  have N3 := Lib.hid ((bd3).cell (p := ⟨nb, 0, none⟩) (World.block_lt_of_cell? _ _ N2.out) |>.trans N2.out)
  have G3 := Lib.hid ((bd3).cell (p := ⟨gb, 0, none⟩) (World.block_lt_of_cell? _ _ G2.out) |>.trans G2.out)
  have CO3 := Lib.hid (CO2.out.keep bd3)
  have BE3 := Lib.hid (BE2.out.andThen bd3)
  clear bd3
  obtain ⟨L, hL⟩ : ∃ L, kidsN M g 8 = L := ⟨_, rfl⟩
  have HLK := Lib.hid hL
  clear hL
  have n3 := CO3.out.pa.groups
  have g2 := G3.out
  have bd : Below w3.heap.size w3 w3.drew := drewBelow _
  have q_n3 := fun d os => cell_regrown n3 d os
  have q_g2 := fun d os => cell_regrown g2 d os
  refine region_or [false, false, false, false, false, false, true, false] [0, 1, 2, 3, 4, 7, 5, 6] (by kernel_rfl) (by kernel_rfl) rfl (by kernel_rfl) (by kernel_rfl) ?_
  simp only [permL, List.getElem?_cons_zero, List.getElem?_cons_succ, Option.toList_some, List.cons_append, List.nil_append]
  repeat (first | (refine wpR_skip (by rfl) ?_; simp only [Act.put, List.setIfInBounds_toArray, List.set_cons_zero, List.set_cons_succ]) | (refine wpR_det (by rfl) (fun K hK => ?_); go_big_quiet_op; refine hK _ ?_; clear hK K))
  refine wpR_bar (by rfl) (fun K hK => ?_)
  go_big_op
  go_at_call 97
  refine (iKids_any x.ca x.ta x.ga x.gc x.gh M _ (CO3.out.keep bd).own.wa HFG.out HB.out g HG8.out HU.out).mono ?_
  rintro e w4 ⟨A, c, rfl, hb4, hR⟩
  rw [HLK.out] at hR ⊢
  have HR := Lib.hid hR
  have B4 := Lib.hid (bd.andThen hb4)
  refine hK _ _ (regrown_of_below (bd.andThen hb4)) ?_
  clear hK K
  repeat (first | (refine wpR_skip (by rfl) ?_; simp only [Act.put, List.setIfInBounds_toArray, List.set_cons_zero, List.set_cons_succ]) | (refine wpR_det (by rfl) (fun K hK => ?_); go_big_quiet_op; refine hK _ ?_; clear hK K))
  refine wpR_nil ?_
  have N4 := Lib.hid ((B4.out).cell (p := ⟨nb, 0, none⟩) (World.block_lt_of_cell? _ _ N3.out) |>.trans N3.out)
  have G4 := Lib.hid ((B4.out).cell (p := ⟨gb, 0, none⟩) (World.block_lt_of_cell? _ _ G3.out) |>.trans G3.out)
  have CO4 := Lib.hid (CO3.out.keep B4.out)
  have BE4 := Lib.hid (BE3.out.andThen B4.out)
  clear q_n3 q_g2 n3 g2 hb4 bd hR
  go_wp2
  go_loopw [30] (fun i wr => ∃ k : Nat, k ≤ L.length ∧ i = .int .i64 k ∧ (L.take k).all (fun h => !((grp M h).name.toList == s.toList)) = true ∧ Below w4.heap.size w4 wr) (fun i _ => L.length - (intOf i).toNat)
  case atStart => exact ⟨0, Nat.zero_le _, rfl, by simp, Below.refl _ _⟩
  case round =>
    obtain ⟨k, hk, rfl, hall, hb⟩ := hrel
    have HA := Lib.hid hall
    have hb5 := Lib.hid hb
    have N5 := Lib.hid ((hb5.out).cell (p := ⟨nb, 0, none⟩) (World.block_lt_of_cell? _ _ N4.out) |>.trans N4.out)
    have G5 := Lib.hid ((hb5.out).cell (p := ⟨gb, 0, none⟩) (World.block_lt_of_cell? _ _ G4.out) |>.trans G4.out)
    have CO5 := Lib.hid (CO4.out.keep hb5.out)
    have BE5 := Lib.hid (BE4.out.andThen hb5.out)
    have HL8 := Lib.hid (show L.length ≤ 8 by rw [← HLK.out]; exact kidsN_len M g 8)
    by_cases hlt : k < L.length
    · obtain ⟨b, hAe, hbl, hbB, v0, f0⟩ := (HR.out.below hb).cell hlt (i := 0) (by omega)
      have HAE := Lib.hid hAe
      rw [hAe]
      clear hb hall
      obtain ⟨j, hj⟩ : ∃ j, L.getD k 0 = j := ⟨_, rfl⟩
      have HJ := Lib.hid hj
      have hjm : j ∈ kidsN M g 8 := by rw [HLK.out, ← hj, List.getD_eq_getElem?_getD, List.getElem?_eq_getElem hlt]; exact List.getElem_mem hlt
      have hj2 := kidsN_mem.1 hjm
      have HKB := Lib.hid hj2.2
      simp only [fK, hj, Nat.add_zero, Nat.mul_one] at v0
      have hjl : j < M.groups.length := by have := HT.out.len; omega
      obtain ⟨b2, o2, hga, hb2l, c0, c1, c2, _⟩ := CO5.out.own.wa.group_ hjl
      have i0 : (0 : Int) ≤ (k : Int) := by omega
      have i1 : (k : Int) < (L.length : Int) := by omega
      have i2 : (0 : Int) ≤ (j : Int) := by omega
      have i3 : (j : Int) < (M.groups.length : Int) := by omega
      have i4 : (L.length : Int) ≤ 8 := by have := HL8.out; omega
      have hgm := HFG.out.group
      have HLT := Lib.hid hlt
      have n3 := CO5.out.pa.groups
      rw [hga] at n3
      have nn := N5.out
      clear hj hj2 hjm hlt c0 c1 hga hjl
      go_upto_region 8 with (fail)
      have q_n3 := fun d os => cell_regrown n3 d os
      have q_c2 := fun d os => cell_regrown c2 d os
      have q_nn := fun d os => cell_regrown nn d os
      have bd : Below wr.heap.size wr wr.drew := drewBelow _
      by_cases he : ((grp M j).name.toList == s.toList) = true
      · have HTH := Lib.hid (show thereB M g s = true from any_of (k := j) (by have := i3; omega) (by rw [nkB_kid, HKB.out, he]; rfl))
        exact absurd (HTH.out.symm.trans HTT.out) (by decide)
      · have he2 : ((grp M j).name.toList == s.toList) = false := by simpa using he
        have HEQ := Lib.hid he2
        clear he
        generalize (grp M j).name = nm at c2 q_c2 he2
        refine region_by [false, false, false, false, false, false, false, false, false, false] (by kernel_rfl) (by kernel_rfl) (by kernel_rfl) ?_
        repeat (first | (refine wpR_skip (by rfl) ?_; simp only [Act.put, List.setIfInBounds_toArray, List.set_cons_zero, List.set_cons_succ]) | (refine wpR_det (by rfl) (fun K hK => ?_); go_big_quiet_op; refine hK _ ?_; clear hK K))
        refine wpR_nil ?_
        clear q_n3 q_c2 q_nn n3 c2 nn v0
        go_wp2
        go_roundw
        case rel => exact ⟨k + 1, by have := HLT.out; omega, by go_num, by rw [all_take_succ HLT.out, HA.out, show L[k]'HLT.out = j by rw [← HJ.out, List.getD_eq_getElem?_getD, List.getElem?_eq_getElem HLT.out]; rfl, HEQ.out]; rfl, hb5.out.andThen bd⟩
        case measure => have := HLT.out; simp [intOf]; omega
    · obtain rfl : k = L.length := by omega
      have HTH := Lib.hid (show thereB M g s = false by
        cases h : thereB M g s with
        | false => rfl
        | true =>
          exfalso
          rw [thereB, List.any_eq_true] at h
          obtain ⟨j, hj, hk2⟩ := h
          rw [nkB_kid, Bool.and_eq_true] at hk2
          have hm : j ∈ L := by rw [← HLK.out]; exact kidsN_mem.2 ⟨by have := HT.out.len; have := List.mem_range.1 hj; omega, hk2.1⟩
          have ha := HA.out
          rw [List.take_length, List.all_eq_true] at ha
          have := ha j hm
          rw [hk2.2] at this
          exact absurd this (by decide))
      clear hb hall hlt hk
      have gg := G5.out
      have n3 := CO5.out.pa.groups
      go_upto_region 16 with (first | (go_at_call 117; refine (iLevel_any p x.ca x.cc x.ta x.tc x.ga x.gc x.gh M _ CO5.out.pa HFG.out HT.out g HG8.out HGU.out).mono ?_; rintro e w6 ⟨rfl, rfl⟩; rw [HDP.out]) | (go_at_call 118; refine (iIndex_any x.ca x.ta x.ga x.gc x.gh M _ CO5.out.own.wa HFG.out HT.out.len HT.out.root).mono ?_; rintro e w7 ⟨rfl, hb7⟩; rw [HFR.out]))
      have N7 := Lib.hid ((hb7).cell (p := ⟨nb, 0, none⟩) (World.block_lt_of_cell? _ _ N5.out) |>.trans N5.out)
      have G7 := Lib.hid ((hb7).cell (p := ⟨gb, 0, none⟩) (World.block_lt_of_cell? _ _ G5.out) |>.trans G5.out)
      have CO7 := Lib.hid (CO5.out.keep hb7)
      have BE7 := Lib.hid (BE5.out.andThen hb7)
      clear hb7 gg n3
      go_wp2_with (go_at_call 98; refine (iRoom_any p x.ca x.cc x.ta x.tc x.ga x.gc x.gh M _ CO7.out.pa HFG.out).mono ?_; rintro e w8 ⟨rfl, hb8⟩; rw [HRM.out])
      go_ret
      exact (CRef.mk_ (Below.refl _ _)).of (BE7.out.andThen hb8)
set_option maxRecDepth 100000 in
set_option maxHeartbeats 4000000 in
theorem iMake1_done (w W : World) (p : Nat) (x : WH) (M : WorldM) (B : Nat) (hc : COn w W p x M B) (hf : WFit M) (hB : worldB M = true) (nb gb sb g : Nat) (s : ByteArray) (hg : g < 8) (hu : usedI M g = true) (hn : nameB s = true) (hsm : s.size ≤ 1048576) (n0 : W.cell? ⟨nb, 0, none⟩ = some (.string s)) (g0 : W.cell? ⟨gb, 0, none⟩ = some (.int .i64 g)) (ht : thereB M g s = false) (hd : dp M g ≠ 3) (f : Nat) (hfr : freeM M = some f) (hR : roomM M = true) (hsw : sb < w.heap.size) (s0 : Blk W sb 3 #[.int .i64 (-1)]) :
    Calls Tryz.prog 115 #[.pointer (some ⟨p, 0, none⟩), .pointer (some ⟨nb, 0, none⟩), .pointer (some ⟨gb, 0, none⟩), .pointer (some ⟨sb, 0, none⟩)] W (CDoneS sb (.int .i64 f) p x (setG M f (newG M.cpus.length g s)) B M.groups.length W) := by
  have HTT := Lib.hid ht
  clear ht
  obtain ⟨dpi, hdpi⟩ : ∃ d : Int, (dp M g : Int) = d := ⟨_, rfl⟩
  have HDP := Lib.hid hdpi
  have hd2 : (dpi == 3) = false := by rw [← hdpi]; simp; omega
  clear hd hdpi
  have hf0 : (0 : Int) ≤ (f : Int) := by omega
  have HFB := Lib.hid (freeF_bd hfr)
  have HFR := Lib.hid (show freeI M 0 = (f : Int) by rw [freeI_zero, hfr])
  have HRM := Lib.hid hR
  clear hfr hR
  have HSW := Lib.hid hsw
  have HS0 := Lib.hid s0
  clear hsw s0
  have CO0 := Lib.hid hc
  have HU := Lib.hid hu
  have HNM := Lib.hid hn
  have HSM := Lib.hid hsm
  have HFG := Lib.hid (fitG_of hf)
  have HB := Lib.hid hB
  have HT := Lib.hid (facts_of hB).tree
  have HGU := Lib.hid (show (grp M g).used = true by have := hu; simp only [usedI, Bool.and_eq_true, Int.toNat_natCast] at this; exact this.2)
  have HC4 := Lib.hid (facts_of hB).c4
  have HG8 := Lib.hid hg
  have gnn : (0 : Int) ≤ (g : Int) := by omega
  have N0 := Lib.hid n0
  have G0 := Lib.hid g0
  have BE0 := Lib.hid (Below.refl W.heap.size W)
  clear hc hu hn hsm hf hB g0
  go_enter Tryz.func115, Tryz.ntmps115
  go_upto_region 3 with (go_at_call 60; refine (iNameOk_any s _ HSM.out).mono ?_; rintro e w2 ⟨rfl, hb2⟩; rw [HNM.out])
  have N2 := Lib.hid ((hb2).cell (p := ⟨nb, 0, none⟩) (World.block_lt_of_cell? _ _ N0.out) |>.trans N0.out)
  have G2 := Lib.hid ((hb2).cell (p := ⟨gb, 0, none⟩) (World.block_lt_of_cell? _ _ G0.out) |>.trans G0.out)
  have CO2 := Lib.hid (CO0.out.keep hb2)
  have BE2 := Lib.hid (BE0.out.andThen hb2)
  clear hb2 n0
  have n3 := CO2.out.pa.groups
  have g2 := G2.out
  have bd : Below w2.heap.size w2 w2.drew := drewBelow _
  have q_n3 := fun d os => cell_regrown n3 d os
  have q_g2 := fun d os => cell_regrown g2 d os
  refine region_by [false, false, false, false, false, true, false] (by kernel_rfl) (by kernel_rfl) (by kernel_rfl) ?_
  repeat (first | (refine wpR_skip (by rfl) ?_; simp only [Act.put, List.setIfInBounds_toArray, List.set_cons_zero, List.set_cons_succ]) | (refine wpR_det (by rfl) (fun K hK => ?_); go_big_quiet_op; refine hK _ ?_; clear hK K))
  refine wpR_bar (by rfl) (fun K hK => ?_)
  go_big_op
  go_at_call 116
  refine (iGroupUsed_any x.ca x.ta x.ga x.gc x.gh M _ (CO2.out.keep bd).own.wa HFG.out.group _).mono ?_
  rintro e w3 ⟨rfl, rfl⟩
  rw [HU.out]
  refine hK _ _ (regrown_of_below bd) ?_
  clear hK K
  repeat (first | (refine wpR_skip (by rfl) ?_; simp only [Act.put, List.setIfInBounds_toArray, List.set_cons_zero, List.set_cons_succ]) | (refine wpR_det (by rfl) (fun K hK => ?_); go_big_quiet_op; refine hK _ ?_; clear hK K))
  refine wpR_nil ?_
  clear q_n3 q_g2 n3 g2
  go_upto_region 5 with (fail)
  refine genW (p := fun W => Code.wp _ _ _ _ W) ?_
  intro w3 hw3
  have bd3 : Below w2.heap.size w2 w3 := hw3 ▸ bd
  clear hw3 bd
  have N3 := Lib.hid ((bd3).cell (p := ⟨nb, 0, none⟩) (World.block_lt_of_cell? _ _ N2.out) |>.trans N2.out)
  have G3 := Lib.hid ((bd3).cell (p := ⟨gb, 0, none⟩) (World.block_lt_of_cell? _ _ G2.out) |>.trans G2.out)
  have CO3 := Lib.hid (CO2.out.keep bd3)
  have BE3 := Lib.hid (BE2.out.andThen bd3)
  clear bd3
  obtain ⟨L, hL⟩ : ∃ L, kidsN M g 8 = L := ⟨_, rfl⟩
  have HLK := Lib.hid hL
  clear hL
  have n3 := CO3.out.pa.groups
  have g2 := G3.out
  have bd : Below w3.heap.size w3 w3.drew := drewBelow _
  have q_n3 := fun d os => cell_regrown n3 d os
  have q_g2 := fun d os => cell_regrown g2 d os
  refine region_or [false, false, false, false, false, false, true, false] [0, 1, 2, 3, 4, 7, 5, 6] (by kernel_rfl) (by kernel_rfl) rfl (by kernel_rfl) (by kernel_rfl) ?_
  simp only [permL, List.getElem?_cons_zero, List.getElem?_cons_succ, Option.toList_some, List.cons_append, List.nil_append]
  repeat (first | (refine wpR_skip (by rfl) ?_; simp only [Act.put, List.setIfInBounds_toArray, List.set_cons_zero, List.set_cons_succ]) | (refine wpR_det (by rfl) (fun K hK => ?_); go_big_quiet_op; refine hK _ ?_; clear hK K))
  refine wpR_bar (by rfl) (fun K hK => ?_)
  go_big_op
  go_at_call 97
  refine (iKids_any x.ca x.ta x.ga x.gc x.gh M _ (CO3.out.keep bd).own.wa HFG.out HB.out g HG8.out HU.out).mono ?_
  rintro e w4 ⟨A, c, rfl, hb4, hR⟩
  rw [HLK.out] at hR ⊢
  have HR := Lib.hid hR
  have B4 := Lib.hid (bd.andThen hb4)
  refine hK _ _ (regrown_of_below (bd.andThen hb4)) ?_
  clear hK K
  repeat (first | (refine wpR_skip (by rfl) ?_; simp only [Act.put, List.setIfInBounds_toArray, List.set_cons_zero, List.set_cons_succ]) | (refine wpR_det (by rfl) (fun K hK => ?_); go_big_quiet_op; refine hK _ ?_; clear hK K))
  refine wpR_nil ?_
  have N4 := Lib.hid ((B4.out).cell (p := ⟨nb, 0, none⟩) (World.block_lt_of_cell? _ _ N3.out) |>.trans N3.out)
  have G4 := Lib.hid ((B4.out).cell (p := ⟨gb, 0, none⟩) (World.block_lt_of_cell? _ _ G3.out) |>.trans G3.out)
  have CO4 := Lib.hid (CO3.out.keep B4.out)
  have BE4 := Lib.hid (BE3.out.andThen B4.out)
  clear q_n3 q_g2 n3 g2 hb4 bd hR
  go_wp2
  go_loopw [30] (fun i wr => ∃ k : Nat, k ≤ L.length ∧ i = .int .i64 k ∧ (L.take k).all (fun h => !((grp M h).name.toList == s.toList)) = true ∧ Below w4.heap.size w4 wr) (fun i _ => L.length - (intOf i).toNat)
  case atStart => exact ⟨0, Nat.zero_le _, rfl, by simp, Below.refl _ _⟩
  case round =>
    obtain ⟨k, hk, rfl, hall, hb⟩ := hrel
    have HA := Lib.hid hall
    have hb5 := Lib.hid hb
    have N5 := Lib.hid ((hb5.out).cell (p := ⟨nb, 0, none⟩) (World.block_lt_of_cell? _ _ N4.out) |>.trans N4.out)
    have G5 := Lib.hid ((hb5.out).cell (p := ⟨gb, 0, none⟩) (World.block_lt_of_cell? _ _ G4.out) |>.trans G4.out)
    have CO5 := Lib.hid (CO4.out.keep hb5.out)
    have BE5 := Lib.hid (BE4.out.andThen hb5.out)
    have HL8 := Lib.hid (show L.length ≤ 8 by rw [← HLK.out]; exact kidsN_len M g 8)
    by_cases hlt : k < L.length
    · obtain ⟨b, hAe, hbl, hbB, v0, f0⟩ := (HR.out.below hb).cell hlt (i := 0) (by omega)
      have HAE := Lib.hid hAe
      rw [hAe]
      clear hb hall
      obtain ⟨j, hj⟩ : ∃ j, L.getD k 0 = j := ⟨_, rfl⟩
      have HJ := Lib.hid hj
      have hjm : j ∈ kidsN M g 8 := by rw [HLK.out, ← hj, List.getD_eq_getElem?_getD, List.getElem?_eq_getElem hlt]; exact List.getElem_mem hlt
      have hj2 := kidsN_mem.1 hjm
      have HKB := Lib.hid hj2.2
      simp only [fK, hj, Nat.add_zero, Nat.mul_one] at v0
      have hjl : j < M.groups.length := by have := HT.out.len; omega
      obtain ⟨b2, o2, hga, hb2l, c0, c1, c2, _⟩ := CO5.out.own.wa.group_ hjl
      have i0 : (0 : Int) ≤ (k : Int) := by omega
      have i1 : (k : Int) < (L.length : Int) := by omega
      have i2 : (0 : Int) ≤ (j : Int) := by omega
      have i3 : (j : Int) < (M.groups.length : Int) := by omega
      have i4 : (L.length : Int) ≤ 8 := by have := HL8.out; omega
      have hgm := HFG.out.group
      have HLT := Lib.hid hlt
      have n3 := CO5.out.pa.groups
      rw [hga] at n3
      have nn := N5.out
      clear hj hj2 hjm hlt c0 c1 hga hjl
      go_upto_region 8 with (fail)
      have q_n3 := fun d os => cell_regrown n3 d os
      have q_c2 := fun d os => cell_regrown c2 d os
      have q_nn := fun d os => cell_regrown nn d os
      have bd : Below wr.heap.size wr wr.drew := drewBelow _
      by_cases he : ((grp M j).name.toList == s.toList) = true
      · have HTH := Lib.hid (show thereB M g s = true from any_of (k := j) (by have := i3; omega) (by rw [nkB_kid, HKB.out, he]; rfl))
        exact absurd (HTH.out.symm.trans HTT.out) (by decide)
      · have he2 : ((grp M j).name.toList == s.toList) = false := by simpa using he
        have HEQ := Lib.hid he2
        clear he
        generalize (grp M j).name = nm at c2 q_c2 he2
        refine region_by [false, false, false, false, false, false, false, false, false, false] (by kernel_rfl) (by kernel_rfl) (by kernel_rfl) ?_
        repeat (first | (refine wpR_skip (by rfl) ?_; simp only [Act.put, List.setIfInBounds_toArray, List.set_cons_zero, List.set_cons_succ]) | (refine wpR_det (by rfl) (fun K hK => ?_); go_big_quiet_op; refine hK _ ?_; clear hK K))
        refine wpR_nil ?_
        clear q_n3 q_c2 q_nn n3 c2 nn v0
        go_wp2
        go_roundw
        case rel => exact ⟨k + 1, by have := HLT.out; omega, by go_num, by rw [all_take_succ HLT.out, HA.out, show L[k]'HLT.out = j by rw [← HJ.out, List.getD_eq_getElem?_getD, List.getElem?_eq_getElem HLT.out]; rfl, HEQ.out]; rfl, hb5.out.andThen bd⟩
        case measure => have := HLT.out; simp [intOf]; omega
    · obtain rfl : k = L.length := by omega
      have HTH := Lib.hid (show thereB M g s = false by
        cases h : thereB M g s with
        | false => rfl
        | true =>
          exfalso
          rw [thereB, List.any_eq_true] at h
          obtain ⟨j, hj, hk2⟩ := h
          rw [nkB_kid, Bool.and_eq_true] at hk2
          have hm : j ∈ L := by rw [← HLK.out]; exact kidsN_mem.2 ⟨by have := HT.out.len; have := List.mem_range.1 hj; omega, hk2.1⟩
          have ha := HA.out
          rw [List.take_length, List.all_eq_true] at ha
          have := ha j hm
          rw [hk2.2] at this
          exact absurd this (by decide))
      clear hb hall hlt hk
      have gg := G5.out
      have n3 := CO5.out.pa.groups
      go_upto_region 16 with (first | (go_at_call 117; refine (iLevel_any p x.ca x.cc x.ta x.tc x.ga x.gc x.gh M _ CO5.out.pa HFG.out HT.out g HG8.out HGU.out).mono ?_; rintro e w6 ⟨rfl, rfl⟩; rw [HDP.out]) | (go_at_call 118; refine (iIndex_any x.ca x.ta x.ga x.gc x.gh M _ CO5.out.own.wa HFG.out HT.out.len HT.out.root).mono ?_; rintro e w7 ⟨rfl, hb7⟩; rw [HFR.out]))
      have N7 := Lib.hid ((hb7).cell (p := ⟨nb, 0, none⟩) (World.block_lt_of_cell? _ _ N5.out) |>.trans N5.out)
      have G7 := Lib.hid ((hb7).cell (p := ⟨gb, 0, none⟩) (World.block_lt_of_cell? _ _ G5.out) |>.trans G5.out)
      have CO7 := Lib.hid (CO5.out.keep hb7)
      have BE7 := Lib.hid (BE5.out.andThen hb7)
      clear hb7 gg n3
      go_upto_region 18 with (go_at_call 98; refine (iRoom_any p x.ca x.cc x.ta x.tc x.ga x.gc x.gh M _ CO7.out.pa HFG.out).mono ?_; rintro e w8 ⟨rfl, hb8⟩; rw [HRM.out])
      have N8 := Lib.hid ((hb8).cell (p := ⟨nb, 0, none⟩) (World.block_lt_of_cell? _ _ N7.out) |>.trans N7.out)
      have G8 := Lib.hid ((hb8).cell (p := ⟨gb, 0, none⟩) (World.block_lt_of_cell? _ _ G7.out) |>.trans G7.out)
      have CO8 := Lib.hid (CO7.out.keep hb8)
      have BE8 := Lib.hid (BE7.out.andThen hb8)
      clear hb8
      have HG := Lib.hid (show f < M.groups.length by have := HFB.out; have := HT.out.len; omega)
      have ig : (f : Int) < (M.groups.length : Int) := by have := HG.out; omega
      have hgm := HFG.out.group
      have hcm := HFG.out.cpu
      have n3 := CO8.out.pa.groups
      have n1 := CO8.out.pa.cpus
      have gg := G8.out
      have nn := N8.out
      have bd : Below w8.heap.size w8 w8.drew := drewBelow _
      have q_n3 := fun d os => cell_regrown n3 d os
      have q_n1 := fun d os => cell_regrown n1 d os
      have q_gg := fun d os => cell_regrown gg d os
      have q_nn := fun d os => cell_regrown nn d os
      refine region_S 13 [0, 0, 0, 0, 0, 0, 0, 0, 0, 0, 0, 0, 1, 1, 2] [0, 1, 2, 3, 4, 5, 6, 7, 8, 9, 10, 11, 12, 13, 14] (by kernel_rfl) (by kernel_rfl) (by kernel_rfl) rfl (by kernel_rfl) (by kernel_rfl) ?_
      simp only [permL, List.getElem?_cons_zero, List.getElem?_cons_succ, Option.toList_some, List.cons_append, List.nil_append]
      repeat (first | (refine wpS_skip (by rfl) ?_; simp only [Act.put, List.setIfInBounds_toArray, List.set_cons_zero, List.set_cons_succ]) | (refine wpS_det (by rfl) (fun K hK => ?_); go_big_quiet_op; refine hK _ ?_; clear hK K))
      refine wpS_bar (by rfl) (fun K hK => ?_)
      go_big_op
      go_at_call 120
      refine (iNewGroup_any g s M.cpus.length HC4.out w8.drew).mono ?_
      rintro e w9 ⟨sa, sc, rfl, hb9, hS⟩
      have HB9 := Lib.hid (bd.andThen hb9)
      have HS9 := Lib.hid hS
      refine hK _ _ (regrown_of_below (bd.andThen hb9)) ?_
      clear hK K
      have OW9 := Lib.hid (CO8.out.own.below HB9.out)
      obtain ⟨b, hxa, hbl, hbB, v0, f0⟩ := OW9.out.grps.cell (k := f) (i := 0) HG.out (by omega)
      obtain ⟨_, e, _, _, v1, f1⟩ := OW9.out.grps.cell (k := f) (i := 1) HG.out (by omega); cases hxa.symm.trans e; clear e
      obtain ⟨_, e, _, _, v2, f2⟩ := OW9.out.grps.cell (k := f) (i := 2) HG.out (by omega); cases hxa.symm.trans e; clear e
      obtain ⟨_, e, _, _, v3, f3⟩ := OW9.out.grps.cell (k := f) (i := 3) HG.out (by omega); cases hxa.symm.trans e; clear e
      obtain ⟨_, e, _, _, v4, f4⟩ := OW9.out.grps.cell (k := f) (i := 4) HG.out (by omega); cases hxa.symm.trans e; clear e
      obtain ⟨_, e, _, _, v5, f5⟩ := OW9.out.grps.cell (k := f) (i := 5) HG.out (by omega); cases hxa.symm.trans e; clear e
      obtain ⟨_, e, _, _, v6, f6⟩ := OW9.out.grps.cell (k := f) (i := 6) HG.out (by omega); cases hxa.symm.trans e; clear e
      obtain ⟨_, e, _, _, v7, f7⟩ := OW9.out.grps.cell (k := f) (i := 7) HG.out (by omega); cases hxa.symm.trans e; clear e
      obtain ⟨_, e, _, _, v8, f8⟩ := OW9.out.grps.cell (k := f) (i := 8) HG.out (by omega); cases hxa.symm.trans e; clear e
      obtain ⟨_, e, _, _, v9, f9⟩ := OW9.out.grps.cell (k := f) (i := 9) HG.out (by omega); cases hxa.symm.trans e; clear e
      obtain ⟨_, e, _, _, v10, f10⟩ := OW9.out.grps.cell (k := f) (i := 10) HG.out (by omega); cases hxa.symm.trans e; clear e
      obtain ⟨_, e, _, _, v11, f11⟩ := OW9.out.grps.cell (k := f) (i := 11) HG.out (by omega); cases hxa.symm.trans e; clear e
      obtain ⟨_, e, _, _, v12, f12⟩ := OW9.out.grps.cell (k := f) (i := 12) HG.out (by omega); cases hxa.symm.trans e; clear e
      obtain ⟨_, e, _, _, v13, f13⟩ := OW9.out.grps.cell (k := f) (i := 13) HG.out (by omega); cases hxa.symm.trans e; clear e
      simp only [Nat.add_zero] at v0 f0
      rw [hxa]
      have HXA := Lib.hid hxa
      clear hxa
      repeat (first | (refine wpS_skip (by rfl) ?_; simp only [Act.put, List.setIfInBounds_toArray, List.set_cons_zero, List.set_cons_succ]) | (refine wpS_det (by rfl) (fun K hK => ?_); go_big_quiet_op; refine hK _ ?_; clear hK K))
      refine wpS_bar (by rfl) (fun K hK => ?_)
      go_big_op
      refine hK _ _ (regrown_of_below HB9.out) ?_
      clear hK K
      refine wpS_end (by rfl) (fun K hK => ?_)
      go_big_op
      refine hK _ _ ?_
      clear hK K
      refine wpS_nil ?_
      go_upto_region 19 with (fail)
      refine genW (p := fun W => Code.wp _ _ _ _ W) ?_
      intro w6 hw6
      have e6 : (nl g s M.cpus.length sa sc).foldl (fun w p => w.setCell ⟨b, f * 14 + p.1, none⟩ p.2) w9 = w6 := hw6
      have OW6 := Lib.hid (show Own w6 B x.ca x.ta x.ga (hset x.gh f (newH sa sc)) (setG M f (newG M.cpus.length g s)) by have o := OW9.out; rw [HXA.out] at o ⊢; have := o.put (g := f) (N := w8.heap.size) HG.out g s M.cpus.length sa sc (fun i hi => (CO8.out.own.has (by rw [HXA.out]; exact hi)).2) (by have := (CO8.out.own.has (g := b) (.inr (.inr (.inl HXA.out)))); omega) HS9.out; rw [e6] at this; exact this)
      have KK := Lib.hid (show Keep (fun j => j = b) w9 w6 by have := Keep.sets (S := fun j => j = b) (n := 14) (k := f) (by rfl) (nl g s M.cpus.length sa sc) w9; rw [e6] at this; exact this)
      have HAS := Lib.hid (show Has x.ca x.ta x.ga x.gh M.groups.length b from .inr (.inr (.inl HXA.out)))
      have PB := Lib.hid (KK.out.blk (CO8.out.box.below HB9.out CO8.out.box.lt) (fun e => CO8.out.out (e ▸ HAS.out)))
      have hsbx : ¬ sb = b := fun e => by have := (CO8.out.own.has HAS.out).1; have := CO8.out.low; have := HSW.out; omega
      have SB6 := Lib.hid (KK.out.blk ((HS0.out.below BE8.out HS0.out.lt).below HB9.out (HS0.out.below BE8.out HS0.out.lt).lt) hsbx)
      have KT := Lib.hid ((Keep.of_below (S := fun j => j = sb ∨ (j = p ∨ Has x.ca x.ta x.ga x.gh M.groups.length j)) (BE8.out.andThen HB9.out)).then_ KK.out fun i _ e => .inr (.inr (by rw [e]; exact HAS.out)))
      clear hw6 e6 KK n3 n1 gg nn q_n3 q_n1 q_gg q_nn bd hb9 hS OW9 v0 f0 v1 f1 v2 f2 v3 f3 v4 f4 v5 f5 v6 f6 v7 f7 v8 f8 v9 f9 v10 f10 v11 f11 v12 f12 v13 f13
      have y0 := SB6.out.cell 0
      have fy := fun i => SB6.out.frozen i
      simp at y0
      go_wp2
      go_ret
      have OW7 := OW6.out.keep (Keep.set (S := fun j => j = sb) w6 ⟨sb, 0, none⟩ (.int .i64 f) rfl) (fun i hi e => by
        have hl : (setG M f (newG M.cpus.length g s)).groups.length = M.groups.length := by simp [setG]
        have := (OW6.out.has hi).1; have := CO8.out.low; have := HSW.out; omega)
      exact ⟨hset x.gh f (newH sa sc), rfl, by
        have e : (setG M f (newG M.cpus.length g s)).groups.length = M.groups.length := by simp [setG]
        show Blk _ p 33 #[.int .i64 M.now, .slice x.ca M.cpus.length x.cc, .slice x.ta M.tasks.length x.tc, .slice x.ga (setG M f (newG M.cpus.length g s)).groups.length x.gc]
        rw [e]
        exact PB.out.far (by have := CO8.out.lowp; have := HSW.out; simp; omega) _, OW7, KT.out.then_ (Keep.set (S := fun j => j = sb) w6 ⟨sb, 0, none⟩ (.int .i64 f) rfl) (fun i _ e => .inl e), SB6.out.set_ 0 _⟩
end Go.Proofs.YtknfpigaognklaaGreatDoor
namespace Go.Proofs.YtknfpigaognklaaGreatDoor
open Go.RowKit Go.Sort
set_option maxRecDepth 100000 in
set_option maxHeartbeats 4000000 in
theorem iMake_gen (h : WH) (M : WorldM) (w : World) (hs : WAt w h M) (_hf : WFit M) (_hx : NextOk M) (g : Nat) (s : ByteArray) (M' : WorldM) (c : Int) (sl : Int)
    (hcall : ∀ W : World, Below w.heap.size w W → W.heap.size = w.heap.size + 5 → W.cell? ⟨w.heap.size + 1, 0, none⟩ = some (.int .i64 g) → W.cell? ⟨w.heap.size + 1 + 1, 0, none⟩ = some (.string s) → Blk W (w.heap.size + 1 + 1 + 1 + 1) 3 #[.int .i64 (-1)] →
      Calls Tryz.prog 114 #[.agg #[.int .i64 M.now, .slice h.ca M.cpus.length h.cc, .slice h.ta M.tasks.length h.tc, .slice h.ga M.groups.length h.gc], .func (.func 115) #[] #[.pointer (some ⟨w.heap.size + 1 + 1, 0, none⟩), .pointer (some ⟨w.heap.size + 1, 0, none⟩), .pointer (some ⟨w.heap.size + 1 + 1 + 1 + 1, 0, none⟩)]] W (WPostS (w.heap.size + 1 + 1 + 1 + 1) (.int .i64 sl) M' c W)) :
    Calls Tryz.prog 62 #[.agg #[.int .i64 M.now, .slice h.ca M.cpus.length h.cc, .slice h.ta M.tasks.length h.tc, .slice h.ga M.groups.length h.gc], .int .i64 g, .string s] w (MPost M' c w) := by
  have HCALL := Lib.hid hcall
  clear hcall
  go_enter Tryz.func62, Tryz.ntmps62
  go_upto_region 2 with (fail)
  refine gen5 (p := fun W => Code.wp _ _ _ _ W) ?_
  intro W b1 s1 k0 k1 k2 k3 k4
  have B1 := Lib.hid b1
  have S1 := Lib.hid s1
  have K3 := Lib.hid k3
  have K0 := Lib.hid k0
  have HS1 := Lib.hid (hs.keep b1)
  have c1_ := k1.cell 0
  have c2_ := k2.cell 0
  simp at c1_ c2_
  have CC := Lib.hid (HCALL.out W b1 s1 c1_ c2_ k4)
  clear b1 k0 k1 k2 k3 k4 s1 c1_ c2_
  have c0 := K0.out.cell 0
  have c1 := K0.out.cell 1
  have c2 := K0.out.cell 2
  have c3 := K0.out.cell 3
  have cf := fun i => K0.out.frozen i
  simp at c0 c1 c2 c3
  go_upto_region 3 with (refine CC.out.mono ?_; rintro e w3 ⟨x, rfl, kk, ow, kv⟩)
  have OW := Lib.hid ow
  have KK := Lib.hid kk
  have KV := Lib.hid kv
  clear c0 c1 c2 c3 cf
  clear ow kk kv
  refine gen1 (p := fun W => Code.wp _ _ _ _ W) ?_
  intro W4 b4 s4 k4
  have K3b := Lib.hid ((KK.out.blk K3.out (by omega)).below b4 (KK.out.blk K3.out (by omega)).lt)
  have KV4 := Lib.hid (KV.out.below b4 KV.out.lt)
  have OW4 := Lib.hid (OW.out.below b4)
  have K4 := Lib.hid k4
  have B4 := Lib.hid ((B1.out.trans (KK.out.below (B := w.heap.size) B1.out.size fun i h => by omega)).andThen b4)
  have L3 := Lib.hid KV.out.lt
  clear b4 s4 k4 OW KV K3 K0
  have c0 := K4.out.cell 0
  have c1 := K4.out.cell 1
  have c2 := K4.out.cell 2
  have c3 := K4.out.cell 3
  have cf := fun i => K4.out.frozen i
  simp at c0 c1 c2 c3
  have d0 := K3b.out.cell 0
  have d1 := K3b.out.cell 1
  have d2 := K3b.out.cell 2
  have d3 := K3b.out.cell 3
  have df := fun i => K3b.out.frozen i
  simp at d0 d1 d2 d3
  have v0 := KV4.out.cell 0
  simp at v0
  have bd : Below W4.heap.size W4 W4.drew := drewBelow _
  have ne1 : ¬ w.heap.size + 1 + 1 + 1 = w.heap.size + 1 + 1 + 1 + 1 := by omega
  have ne2 : ¬ w.heap.size + 1 + 1 + 1 + 1 = w.heap.size + 1 + 1 + 1 := by omega
  have ne3 : ¬ w.heap.size + 1 + 1 + 1 = w3.heap.size := by have := L3.out; omega
  have ne4 : ¬ w3.heap.size = w.heap.size + 1 + 1 + 1 := by have := L3.out; omega
  have q_c0 := fun d os => cell_regrown c0 d os
  have q_c1 := fun d os => cell_regrown c1 d os
  have q_c2 := fun d os => cell_regrown c2 d os
  have q_c3 := fun d os => cell_regrown c3 d os
  have q_d0 := fun d os => cell_regrown d0 d os
  have q_d1 := fun d os => cell_regrown d1 d os
  have q_d2 := fun d os => cell_regrown d2 d os
  have q_d3 := fun d os => cell_regrown d3 d os
  have q_v0 := fun d os => cell_regrown v0 d os
  go_region_with (fail)
  all_goals
    go_wp2
    have kz := Lib.hid (show Keep (fun i => i = w.heap.size + 1 + 1 + 1) W4.drew ((((W4.drew.setCell ⟨w.heap.size + 1 + 1 + 1, 0, none⟩ (.int .i64 M'.now)).setCell ⟨w.heap.size + 1 + 1 + 1, 1, none⟩ (.slice x.ca M'.cpus.length x.cc)).setCell ⟨w.heap.size + 1 + 1 + 1, 2, none⟩ (.slice x.ta M'.tasks.length x.tc)).setCell ⟨w.heap.size + 1 + 1 + 1, 3, none⟩ (.slice x.ga M'.groups.length x.gc)) from ((((Keep.set _ _ _ (by rfl)).trans (Keep.set _ _ _ (by rfl))).trans (Keep.set _ _ _ (by rfl))).trans (Keep.set _ _ _ (by rfl))))
    refine bodyPost_ret (v := .tuple #[.agg #[.int .i64 M'.now, .slice x.ca M'.cpus.length x.cc, .slice x.ta M'.tasks.length x.tc, .slice x.ga M'.groups.length x.gc], .int .i64 sl, .int .i64 c]) (by simp [results, Tryz.results62, go_sem, *]) rfl ⟨sl, x, rfl, (B4.out.andThen bd).trans (kz.out.below (B4.out.andThen bd).size fun i h => by omega), ?_⟩
    exact (OW4.out.below bd).fin kz.out (fun i h => by have := S1.out; omega) (by have := S1.out; omega)
set_option maxRecDepth 100000 in
set_option maxHeartbeats 4000000 in
theorem iMake_any (h : WH) (M : WorldM) (w : World) (hs : WAt w h M) (hf : WFit M) (hx : NextOk M) (hE : ErrIs w) (hB : worldB M = true) (s : ByteArray) (g : Nat) (hg : g < 8) (hu : usedI M g = true) (hn : nameB s = true) (hsm : s.size ≤ 1048576) :
    Calls Tryz.prog 62 #[.agg #[.int .i64 M.now, .slice h.ca M.cpus.length h.cc, .slice h.ta M.tasks.length h.tc, .slice h.ga M.groups.length h.gc], .int .i64 g, .string s] w (MPost (makeW M g s) (makeC M g s) w) := by
  have e0 : makeC M g s = if thereB M g s = true then 7 else if dp M g = 3 then 9 else match freeM M with
      | none => 3
      | some _ => if roomM M = true then 0 else 10 := by
    rw [makeC, if_neg (by rw [hn]; decide), if_neg (by rw [hu]; decide), Int.toNat_natCast]
    try rfl
  by_cases ht : thereB M g s = true
  · have e1 : makeC M g s = 7 := by rw [e0, if_pos ht]
    rw [makeW, e1, if_neg (by decide)]
    exact iMake_gen h M w hs hf hx g s M 7 (-1) fun W b1 s1 c1 c2 k4 => (iAttempt_refused h M W (hs.keep b1) hf hx 115 #[.pointer (some ⟨w.heap.size + 1 + 1, 0, none⟩), .pointer (some ⟨w.heap.size + 1, 0, none⟩), .pointer (some ⟨w.heap.size + 1 + 1 + 1 + 1, 0, none⟩)] (fun args u => by kernel_rfl) hB (hE.keep b1) 7 fun W' p x B hc => iMake1_there W W' p x M B hc hf hB (w.heap.size + 1 + 1) (w.heap.size + 1) (w.heap.size + 1 + 1 + 1 + 1) g s hg hu hn hsm ((hc.bel.cell (p := ⟨w.heap.size + 1 + 1, 0, none⟩) (World.block_lt_of_cell? _ _ c2)).trans c2) ((hc.bel.cell (p := ⟨w.heap.size + 1, 0, none⟩) (World.block_lt_of_cell? _ _ c1)).trans c1) ht).mono fun e w' z => z.s k4
  · have ht' : thereB M g s = false := by simpa using ht
    by_cases hd : dp M g = 3
    · have e1 : makeC M g s = 9 := by rw [e0, if_neg ht, if_pos hd]
      rw [makeW, e1, if_neg (by decide)]
      exact iMake_gen h M w hs hf hx g s M 9 (-1) fun W b1 s1 c1 c2 k4 => (iAttempt_refused h M W (hs.keep b1) hf hx 115 #[.pointer (some ⟨w.heap.size + 1 + 1, 0, none⟩), .pointer (some ⟨w.heap.size + 1, 0, none⟩), .pointer (some ⟨w.heap.size + 1 + 1 + 1 + 1, 0, none⟩)] (fun args u => by kernel_rfl) hB (hE.keep b1) 9 fun W' p x B hc => iMake1_deep W W' p x M B hc hf hB (w.heap.size + 1 + 1) (w.heap.size + 1) (w.heap.size + 1 + 1 + 1 + 1) g s hg hu hn hsm ((hc.bel.cell (p := ⟨w.heap.size + 1 + 1, 0, none⟩) (World.block_lt_of_cell? _ _ c2)).trans c2) ((hc.bel.cell (p := ⟨w.heap.size + 1, 0, none⟩) (World.block_lt_of_cell? _ _ c1)).trans c1) ht' hd).mono fun e w' z => z.s k4
    · cases hfr : freeM M with
      | none =>
        have e1 : makeC M g s = 3 := by rw [e0, if_neg ht, if_neg hd, hfr]
        rw [makeW, e1, if_neg (by decide)]
        exact iMake_gen h M w hs hf hx g s M 3 (-1) fun W b1 s1 c1 c2 k4 => (iAttempt_refused h M W (hs.keep b1) hf hx 115 #[.pointer (some ⟨w.heap.size + 1 + 1, 0, none⟩), .pointer (some ⟨w.heap.size + 1, 0, none⟩), .pointer (some ⟨w.heap.size + 1 + 1 + 1 + 1, 0, none⟩)] (fun args u => by kernel_rfl) hB (hE.keep b1) 3 fun W' p x B hc => iMake1_full W W' p x M B hc hf hB (w.heap.size + 1 + 1) (w.heap.size + 1) (w.heap.size + 1 + 1 + 1 + 1) g s hg hu hn hsm ((hc.bel.cell (p := ⟨w.heap.size + 1 + 1, 0, none⟩) (World.block_lt_of_cell? _ _ c2)).trans c2) ((hc.bel.cell (p := ⟨w.heap.size + 1, 0, none⟩) (World.block_lt_of_cell? _ _ c1)).trans c1) ht' hd hfr).mono fun e w' z => z.s k4
      | some f =>
        by_cases hR : roomM M = true
        · have e1 : makeC M g s = 0 := by rw [e0, if_neg ht, if_neg hd, hfr]; exact if_pos hR
          rw [makeW, e1, if_pos rfl, hfr]
          exact iMake_gen h M w hs hf hx g s _ 0 f fun W b1 s1 c1 c2 k4 => iAttempt_doneS h M W (hs.keep b1) hf hx 115 #[.pointer (some ⟨w.heap.size + 1 + 1, 0, none⟩), .pointer (some ⟨w.heap.size + 1, 0, none⟩), .pointer (some ⟨w.heap.size + 1 + 1 + 1 + 1, 0, none⟩)] (fun args u => by kernel_rfl) hB _ (by simp [setG]) _ _ k4.lt fun W' p x B hc => iMake1_done W W' p x M B hc hf hB (w.heap.size + 1 + 1) (w.heap.size + 1) (w.heap.size + 1 + 1 + 1 + 1) g s hg hu hn hsm ((hc.bel.cell (p := ⟨w.heap.size + 1 + 1, 0, none⟩) (World.block_lt_of_cell? _ _ c2)).trans c2) ((hc.bel.cell (p := ⟨w.heap.size + 1, 0, none⟩) (World.block_lt_of_cell? _ _ c1)).trans c1) ht' hd f hfr hR k4.lt (k4.below hc.bel k4.lt)
        · have e1 : makeC M g s = 10 := by rw [e0, if_neg ht, if_neg hd, hfr]; exact if_neg hR
          rw [makeW, e1, if_neg (by decide)]
          exact iMake_gen h M w hs hf hx g s M 10 (-1) fun W b1 s1 c1 c2 k4 => (iAttempt_refused h M W (hs.keep b1) hf hx 115 #[.pointer (some ⟨w.heap.size + 1 + 1, 0, none⟩), .pointer (some ⟨w.heap.size + 1, 0, none⟩), .pointer (some ⟨w.heap.size + 1 + 1 + 1 + 1, 0, none⟩)] (fun args u => by kernel_rfl) hB (hE.keep b1) 10 fun W' p x B hc => iMake1_end W W' p x M B hc hf hB (w.heap.size + 1 + 1) (w.heap.size + 1) (w.heap.size + 1 + 1 + 1 + 1) g s hg hu hn hsm ((hc.bel.cell (p := ⟨w.heap.size + 1 + 1, 0, none⟩) (World.block_lt_of_cell? _ _ c2)).trans c2) ((hc.bel.cell (p := ⟨w.heap.size + 1, 0, none⟩) (World.block_lt_of_cell? _ _ c1)).trans c1) ht' hd f hfr (by simpa using hR)).mono fun e w' z => z.s k4
set_option maxRecDepth 100000 in
set_option maxHeartbeats 4000000 in
theorem iFileMake_bad (h : WH) (M : WorldM) (w : World) (hs : WAt w h M) (hf : WFit M) (hx : NextOk M) (q : ByteArray) (hB : worldB M = false) :
    Calls Tryz.prog 19 #[.agg #[.int .i64 M.now, .slice h.ca M.cpus.length h.cc, .slice h.ta M.tasks.length h.tc, .slice h.ga M.groups.length h.gc], .string q] w (WPost world0 1 w) := by
  have HWB := Lib.hid hB
  have HX := Lib.hid hx
  clear hB hx
  go_enter Tryz.func19, Tryz.ntmps19
  go_upto_region 1 with (fail)
  refine gen2 (p := fun W => Code.wp _ _ _ _ W) ?_
  intro W b1 s1 k0 k1
  have B1 := Lib.hid b1
  have K0 := Lib.hid k0
  have K1 := Lib.hid k1
  have S1 := Lib.hid s1
  have hs1 := hs.keep b1
  clear b1 k0 k1 s1
  have c0 := K0.out.cell 0
  have c1 := K0.out.cell 1
  have c2 := K0.out.cell 2
  have c3 := K0.out.cell 3
  have cf := fun i => K0.out.frozen i
  simp at c0 c1 c2 c3
  go_wp2_with fail
  refine (iWorldOk_any h.ca h.cc h.ta h.tc h.ga h.gc h.gh M _ (WA.of hs1) (fitG_of hf) HX.out).mono ?_
  rintro e w2 ⟨rfl, hb2⟩
  rw [HWB.out]
  have K1b := Lib.hid (K1.out.below hb2 K1.out.lt)
  clear c0 c1 c2 c3 cf
  have d0 := K1b.out.cell 0
  have d1 := K1b.out.cell 1
  have d2 := K1b.out.cell 2
  have d3 := K1b.out.cell 3
  have df := fun i => K1b.out.frozen i
  simp at d0 d1 d2 d3
  go_wp2
  refine bodyPost_ret (v := .tuple #[.agg #[.int .i64 0, .slice none 0 0, .slice none 0 0, .slice none 0 0], .int .i64 1]) (by simp [results, Tryz.results19, go_sem, *]) rfl ⟨⟨none, 0, none, 0, none, 0, h.gh⟩, rfl, ?_, own0 _ _ _⟩
  exact ((((B1.out.andThen hb2).setCell (by simp) _).setCell (by simp) _).setCell (by simp) _).setCell (by simp) _
set_option maxRecDepth 100000 in
set_option maxHeartbeats 4000000 in
theorem iFileMake_path (h : WH) (M : WorldM) (w : World) (hs : WAt w h M) (hf : WFit M) (hx : NextOk M) (q : ByteArray) (hB : worldB M = true) (hp : pathOk q = false) :
    Calls Tryz.prog 19 #[.agg #[.int .i64 M.now, .slice h.ca M.cpus.length h.cc, .slice h.ta M.tasks.length h.tc, .slice h.ga M.groups.length h.gc], .string q] w (WPost M 1 w) := by
  have HWB := Lib.hid hB
  have HX := Lib.hid hx
  have HP := Lib.hid hp
  clear hB hx hp
  go_enter Tryz.func19, Tryz.ntmps19
  go_upto_region 1 with (fail)
  refine gen2 (p := fun W => Code.wp _ _ _ _ W) ?_
  intro W b1 s1 k0 k1
  have B1 := Lib.hid b1
  have K0 := Lib.hid k0
  have K1 := Lib.hid k1
  have S1 := Lib.hid s1
  have hs1 := hs.keep b1
  clear b1 k0 k1 s1
  have c0 := K0.out.cell 0
  have c1 := K0.out.cell 1
  have c2 := K0.out.cell 2
  have c3 := K0.out.cell 3
  have cf := fun i => K0.out.frozen i
  simp at c0 c1 c2 c3
  go_wp2_with fail
  refine (iWorldOk_any h.ca h.cc h.ta h.tc h.ga h.gc h.gh M _ (WA.of hs1) (fitG_of hf) HX.out).mono ?_
  rintro e w2 ⟨rfl, hb2⟩
  rw [HWB.out]
  have K0b := Lib.hid (K0.out.below hb2 K0.out.lt)
  have K1b := Lib.hid (K1.out.below hb2 K1.out.lt)
  have HS2 := Lib.hid (hs1.keep hb2)
  have B2 := Lib.hid (B1.out.andThen hb2)
  have Z2 := Lib.hid hb2.size
  clear c0 c1 c2 c3 cf
  clear hs1 hb2 K0 K1 B1
  have c0 := K0b.out.cell 0
  have c1 := K0b.out.cell 1
  have c2 := K0b.out.cell 2
  have c3 := K0b.out.cell 3
  have cf := fun i => K0b.out.frozen i
  simp at c0 c1 c2 c3
  go_wp2_with fail
  refine (iSplit_no q _ HP.out).mono ?_
  rintro e w3 ⟨rfl, hb3⟩
  have K0c := Lib.hid (K0b.out.below hb3 K0b.out.lt)
  have K1c := Lib.hid (K1b.out.below hb3 K1b.out.lt)
  have HS3 := Lib.hid (HS2.out.keep hb3)
  have B3 := Lib.hid (B2.out.andThen hb3)
  have Z3 := Lib.hid (Nat.le_trans Z2.out hb3.size)
  clear c0 c1 c2 c3 cf
  clear hb3 K0b K1b HS2 B2 Z2
  have c0 := K0c.out.cell 0
  have c1 := K0c.out.cell 1
  have c2 := K0c.out.cell 2
  have c3 := K0c.out.cell 3
  have cf := fun i => K0c.out.frozen i
  simp at c0 c1 c2 c3
  go_wp2_with fail
  refine (iRefused_any h M _ HS3.out hf 1).mono ?_
  rintro e w9 ⟨x, rfl, hb9, ow⟩
  have K1z := Lib.hid (K1c.out.below hb9 K1c.out.lt)
  have BZ := Lib.hid (B3.out.andThen hb9)
  have OW := Lib.hid ow
  clear c0 c1 c2 c3 cf
  clear hb9 ow
  have d0 := K1z.out.cell 0
  have d1 := K1z.out.cell 1
  have d2 := K1z.out.cell 2
  have d3 := K1z.out.cell 3
  have df := fun i => K1z.out.frozen i
  simp at d0 d1 d2 d3
  go_wp2
  have kz := Lib.hid (show Keep (fun i => i = w.heap.size + 1) w9 ((((w9.setCell ⟨w.heap.size + 1, 0, none⟩ (.int .i64 M.now)).setCell ⟨w.heap.size + 1, 1, none⟩ (.slice x.ca M.cpus.length x.cc)).setCell ⟨w.heap.size + 1, 2, none⟩ (.slice x.ta M.tasks.length x.tc)).setCell ⟨w.heap.size + 1, 3, none⟩ (.slice x.ga M.groups.length x.gc)) from ((((Keep.set _ _ _ (by rfl)).trans (Keep.set _ _ _ (by rfl))).trans (Keep.set _ _ _ (by rfl))).trans (Keep.set _ _ _ (by rfl))))
  refine bodyPost_ret (v := .tuple #[.agg #[.int .i64 M.now, .slice x.ca M.cpus.length x.cc, .slice x.ta M.tasks.length x.tc, .slice x.ga M.groups.length x.gc], .int .i64 1]) (by simp [results, Tryz.results19, go_sem, *]) rfl ⟨x, rfl, BZ.out.trans (kz.out.below BZ.out.size fun i h => by omega), ?_⟩
  exact OW.out.fin kz.out (fun i h => by have := S1.out; have := Z3.out; omega) (by have := S1.out; have := Z3.out; omega)
set_option maxRecDepth 100000 in
set_option maxHeartbeats 4000000 in
theorem iFileMake_name (h : WH) (M : WorldM) (w : World) (hs : WAt w h M) (hf : WFit M) (hx : NextOk M) (q : ByteArray) (hB : worldB M = true) (hp : pathOk q = true) (hn : nameB (splitF q) = false) :
    Calls Tryz.prog 19 #[.agg #[.int .i64 M.now, .slice h.ca M.cpus.length h.cc, .slice h.ta M.tasks.length h.tc, .slice h.ga M.groups.length h.gc], .string q] w (WPost M 1 w) := by
  have HWB := Lib.hid hB
  have HX := Lib.hid hx
  have HP := Lib.hid hp
  have HSM := Lib.hid (splitF_size hp)
  have HNM := Lib.hid hn
  clear hB hx hp hn
  go_enter Tryz.func19, Tryz.ntmps19
  go_upto_region 1 with (fail)
  refine gen2 (p := fun W => Code.wp _ _ _ _ W) ?_
  intro W b1 s1 k0 k1
  have B1 := Lib.hid b1
  have K0 := Lib.hid k0
  have K1 := Lib.hid k1
  have S1 := Lib.hid s1
  have hs1 := hs.keep b1
  clear b1 k0 k1 s1
  have c0 := K0.out.cell 0
  have c1 := K0.out.cell 1
  have c2 := K0.out.cell 2
  have c3 := K0.out.cell 3
  have cf := fun i => K0.out.frozen i
  simp at c0 c1 c2 c3
  go_wp2_with fail
  refine (iWorldOk_any h.ca h.cc h.ta h.tc h.ga h.gc h.gh M _ (WA.of hs1) (fitG_of hf) HX.out).mono ?_
  rintro e w2 ⟨rfl, hb2⟩
  rw [HWB.out]
  have K0b := Lib.hid (K0.out.below hb2 K0.out.lt)
  have K1b := Lib.hid (K1.out.below hb2 K1.out.lt)
  have HS2 := Lib.hid (hs1.keep hb2)
  have B2 := Lib.hid (B1.out.andThen hb2)
  have Z2 := Lib.hid hb2.size
  clear c0 c1 c2 c3 cf
  clear hs1 hb2 K0 K1 B1
  have c0 := K0b.out.cell 0
  have c1 := K0b.out.cell 1
  have c2 := K0b.out.cell 2
  have c3 := K0b.out.cell 3
  have cf := fun i => K0b.out.frozen i
  simp at c0 c1 c2 c3
  go_wp2_with fail
  refine (iSplit_yes q _ HP.out).mono ?_
  rintro e w3 ⟨rfl, hb3⟩
  have K0c := Lib.hid (K0b.out.below hb3 K0b.out.lt)
  have K1c := Lib.hid (K1b.out.below hb3 K1b.out.lt)
  have HS3 := Lib.hid (HS2.out.keep hb3)
  have B3 := Lib.hid (B2.out.andThen hb3)
  have Z3 := Lib.hid (Nat.le_trans Z2.out hb3.size)
  clear c0 c1 c2 c3 cf
  clear hb3 K0b K1b HS2 B2 Z2
  have c0 := K0c.out.cell 0
  have c1 := K0c.out.cell 1
  have c2 := K0c.out.cell 2
  have c3 := K0c.out.cell 3
  have cf := fun i => K0c.out.frozen i
  simp at c0 c1 c2 c3
  go_wp2_with fail
  refine (iNameOk_any _ _ HSM.out).mono ?_
  rintro e w4 ⟨rfl, hb4⟩
  rw [HNM.out]
  have K0d := Lib.hid (K0c.out.below hb4 K0c.out.lt)
  have K1d := Lib.hid (K1c.out.below hb4 K1c.out.lt)
  have HS4 := Lib.hid (HS3.out.keep hb4)
  have B4 := Lib.hid (B3.out.andThen hb4)
  have Z4 := Lib.hid (Nat.le_trans Z3.out hb4.size)
  clear c0 c1 c2 c3 cf
  clear hb4 K0c K1c HS3 B3 Z3
  have c0 := K0d.out.cell 0
  have c1 := K0d.out.cell 1
  have c2 := K0d.out.cell 2
  have c3 := K0d.out.cell 3
  have cf := fun i => K0d.out.frozen i
  simp at c0 c1 c2 c3
  go_wp2_with fail
  refine (iRefused_any h M _ HS4.out hf 1).mono ?_
  rintro e w9 ⟨x, rfl, hb9, ow⟩
  have K1z := Lib.hid (K1d.out.below hb9 K1d.out.lt)
  have BZ := Lib.hid (B4.out.andThen hb9)
  have OW := Lib.hid ow
  clear c0 c1 c2 c3 cf
  clear hb9 ow
  have d0 := K1z.out.cell 0
  have d1 := K1z.out.cell 1
  have d2 := K1z.out.cell 2
  have d3 := K1z.out.cell 3
  have df := fun i => K1z.out.frozen i
  simp at d0 d1 d2 d3
  go_wp2
  have kz := Lib.hid (show Keep (fun i => i = w.heap.size + 1) w9 ((((w9.setCell ⟨w.heap.size + 1, 0, none⟩ (.int .i64 M.now)).setCell ⟨w.heap.size + 1, 1, none⟩ (.slice x.ca M.cpus.length x.cc)).setCell ⟨w.heap.size + 1, 2, none⟩ (.slice x.ta M.tasks.length x.tc)).setCell ⟨w.heap.size + 1, 3, none⟩ (.slice x.ga M.groups.length x.gc)) from ((((Keep.set _ _ _ (by rfl)).trans (Keep.set _ _ _ (by rfl))).trans (Keep.set _ _ _ (by rfl))).trans (Keep.set _ _ _ (by rfl))))
  refine bodyPost_ret (v := .tuple #[.agg #[.int .i64 M.now, .slice x.ca M.cpus.length x.cc, .slice x.ta M.tasks.length x.tc, .slice x.ga M.groups.length x.gc], .int .i64 1]) (by simp [results, Tryz.results19, go_sem, *]) rfl ⟨x, rfl, BZ.out.trans (kz.out.below BZ.out.size fun i h => by omega), ?_⟩
  exact OW.out.fin kz.out (fun i h => by have := S1.out; have := Z4.out; omega) (by have := S1.out; have := Z4.out; omega)
set_option maxRecDepth 100000 in
set_option maxHeartbeats 4000000 in
theorem iFileMake_none (h : WH) (M : WorldM) (w : World) (hs : WAt w h M) (hf : WFit M) (hx : NextOk M) (q : ByteArray) (hB : worldB M = true) (hp : pathOk q = true) (hn : nameB (splitF q) = true) (hd : findM M (splitD q) = none) :
    Calls Tryz.prog 19 #[.agg #[.int .i64 M.now, .slice h.ca M.cpus.length h.cc, .slice h.ta M.tasks.length h.tc, .slice h.ga M.groups.length h.gc], .string q] w (WPost M 2 w) := by
  have HWB := Lib.hid hB
  have HX := Lib.hid hx
  have HP := Lib.hid hp
  have HSM := Lib.hid (splitF_size hp)
  have HNM := Lib.hid hn
  have HFI := Lib.hid (show findI M (splitD q) = -1 by rw [findI, hd])
  clear hB hx hp hn hd
  go_enter Tryz.func19, Tryz.ntmps19
  go_upto_region 1 with (fail)
  refine gen2 (p := fun W => Code.wp _ _ _ _ W) ?_
  intro W b1 s1 k0 k1
  have B1 := Lib.hid b1
  have K0 := Lib.hid k0
  have K1 := Lib.hid k1
  have S1 := Lib.hid s1
  have hs1 := hs.keep b1
  clear b1 k0 k1 s1
  have c0 := K0.out.cell 0
  have c1 := K0.out.cell 1
  have c2 := K0.out.cell 2
  have c3 := K0.out.cell 3
  have cf := fun i => K0.out.frozen i
  simp at c0 c1 c2 c3
  go_wp2_with fail
  refine (iWorldOk_any h.ca h.cc h.ta h.tc h.ga h.gc h.gh M _ (WA.of hs1) (fitG_of hf) HX.out).mono ?_
  rintro e w2 ⟨rfl, hb2⟩
  rw [HWB.out]
  have K0b := Lib.hid (K0.out.below hb2 K0.out.lt)
  have K1b := Lib.hid (K1.out.below hb2 K1.out.lt)
  have HS2 := Lib.hid (hs1.keep hb2)
  have B2 := Lib.hid (B1.out.andThen hb2)
  have Z2 := Lib.hid hb2.size
  clear c0 c1 c2 c3 cf
  clear hs1 hb2 K0 K1 B1
  have c0 := K0b.out.cell 0
  have c1 := K0b.out.cell 1
  have c2 := K0b.out.cell 2
  have c3 := K0b.out.cell 3
  have cf := fun i => K0b.out.frozen i
  simp at c0 c1 c2 c3
  go_wp2_with fail
  refine (iSplit_yes q _ HP.out).mono ?_
  rintro e w3 ⟨rfl, hb3⟩
  have K0c := Lib.hid (K0b.out.below hb3 K0b.out.lt)
  have K1c := Lib.hid (K1b.out.below hb3 K1b.out.lt)
  have HS3 := Lib.hid (HS2.out.keep hb3)
  have B3 := Lib.hid (B2.out.andThen hb3)
  have Z3 := Lib.hid (Nat.le_trans Z2.out hb3.size)
  clear c0 c1 c2 c3 cf
  clear hb3 K0b K1b HS2 B2 Z2
  have c0 := K0c.out.cell 0
  have c1 := K0c.out.cell 1
  have c2 := K0c.out.cell 2
  have c3 := K0c.out.cell 3
  have cf := fun i => K0c.out.frozen i
  simp at c0 c1 c2 c3
  go_wp2_with fail
  refine (iNameOk_any _ _ HSM.out).mono ?_
  rintro e w4 ⟨rfl, hb4⟩
  rw [HNM.out]
  have K0d := Lib.hid (K0c.out.below hb4 K0c.out.lt)
  have K1d := Lib.hid (K1c.out.below hb4 K1c.out.lt)
  have HS4 := Lib.hid (HS3.out.keep hb4)
  have B4 := Lib.hid (B3.out.andThen hb4)
  have Z4 := Lib.hid (Nat.le_trans Z3.out hb4.size)
  clear c0 c1 c2 c3 cf
  clear hb4 K0c K1c HS3 B3 Z3
  have c0 := K0d.out.cell 0
  have c1 := K0d.out.cell 1
  have c2 := K0d.out.cell 2
  have c3 := K0d.out.cell 3
  have cf := fun i => K0d.out.frozen i
  simp at c0 c1 c2 c3
  go_wp2_with fail
  refine (iFind_any h.ca h.ta h.ga h.gc h.gh M _ (WA.of HS4.out) (fitG_of hf) HWB.out HX.out (splitD q)).mono ?_
  rintro e w5 ⟨rfl, hb5⟩
  rw [HFI.out]
  have K0e := Lib.hid (K0d.out.below hb5 K0d.out.lt)
  have K1e := Lib.hid (K1d.out.below hb5 K1d.out.lt)
  have HS5 := Lib.hid (HS4.out.keep hb5)
  have B5 := Lib.hid (B4.out.andThen hb5)
  have Z5 := Lib.hid (Nat.le_trans Z4.out hb5.size)
  clear c0 c1 c2 c3 cf
  clear hb5 K0d K1d HS4 B4 Z4
  have c0 := K0e.out.cell 0
  have c1 := K0e.out.cell 1
  have c2 := K0e.out.cell 2
  have c3 := K0e.out.cell 3
  have cf := fun i => K0e.out.frozen i
  simp at c0 c1 c2 c3
  go_wp2_with fail
  refine (iRefused_any h M _ HS5.out hf 2).mono ?_
  rintro e w9 ⟨x, rfl, hb9, ow⟩
  have K1z := Lib.hid (K1e.out.below hb9 K1e.out.lt)
  have BZ := Lib.hid (B5.out.andThen hb9)
  have OW := Lib.hid ow
  clear c0 c1 c2 c3 cf
  clear hb9 ow
  have d0 := K1z.out.cell 0
  have d1 := K1z.out.cell 1
  have d2 := K1z.out.cell 2
  have d3 := K1z.out.cell 3
  have df := fun i => K1z.out.frozen i
  simp at d0 d1 d2 d3
  go_wp2
  have kz := Lib.hid (show Keep (fun i => i = w.heap.size + 1) w9 ((((w9.setCell ⟨w.heap.size + 1, 0, none⟩ (.int .i64 M.now)).setCell ⟨w.heap.size + 1, 1, none⟩ (.slice x.ca M.cpus.length x.cc)).setCell ⟨w.heap.size + 1, 2, none⟩ (.slice x.ta M.tasks.length x.tc)).setCell ⟨w.heap.size + 1, 3, none⟩ (.slice x.ga M.groups.length x.gc)) from ((((Keep.set _ _ _ (by rfl)).trans (Keep.set _ _ _ (by rfl))).trans (Keep.set _ _ _ (by rfl))).trans (Keep.set _ _ _ (by rfl))))
  refine bodyPost_ret (v := .tuple #[.agg #[.int .i64 M.now, .slice x.ca M.cpus.length x.cc, .slice x.ta M.tasks.length x.tc, .slice x.ga M.groups.length x.gc], .int .i64 2]) (by simp [results, Tryz.results19, go_sem, *]) rfl ⟨x, rfl, BZ.out.trans (kz.out.below BZ.out.size fun i h => by omega), ?_⟩
  exact OW.out.fin kz.out (fun i h => by have := S1.out; have := Z5.out; omega) (by have := S1.out; have := Z5.out; omega)
set_option maxRecDepth 100000 in
set_option maxHeartbeats 4000000 in
theorem iFileMake_some (h : WH) (M : WorldM) (w : World) (hs : WAt w h M) (hf : WFit M) (hx : NextOk M) (q : ByteArray) (hE : ErrIs w) (hB : worldB M = true) (hp : pathOk q = true) (hn : nameB (splitF q) = true) (g : Nat) (hd : findM M (splitD q) = some g) :
    Calls Tryz.prog 19 #[.agg #[.int .i64 M.now, .slice h.ca M.cpus.length h.cc, .slice h.ta M.tasks.length h.tc, .slice h.ga M.groups.length h.gc], .string q] w (WPost (makeW M g (splitF q)) (makeC M g (splitF q)) w) := by
  have HWB := Lib.hid hB
  have HX := Lib.hid hx
  have HP := Lib.hid hp
  have HSM := Lib.hid (splitF_size hp)
  have HNM := Lib.hid hn
  have hgu := findN_some hd
  have hg8 : g < 8 := hgu.1
  have hus : (grp M g).used = true := by have := hgu.2; rw [isAt, Bool.and_eq_true] at this; exact this.1
  have HU := Lib.hid (show usedI M g = true by have := (facts_of hB).tree.len; simp only [usedI, Int.toNat_natCast, hus, Bool.and_true, Bool.and_eq_true, decide_eq_true_eq]; omega)
  have HE := Lib.hid hE
  have HFI := Lib.hid (show findI M (splitD q) = (g : Int) by rw [findI, hd])
  have hg0 : (0 : Int) ≤ (g : Int) := by omega
  clear hB hp hn hx hgu hus hd hE
  go_enter Tryz.func19, Tryz.ntmps19
  go_upto_region 1 with (fail)
  refine gen2 (p := fun W => Code.wp _ _ _ _ W) ?_
  intro W b1 s1 k0 k1
  have B1 := Lib.hid b1
  have K0 := Lib.hid k0
  have K1 := Lib.hid k1
  have S1 := Lib.hid s1
  have hs1 := hs.keep b1
  clear b1 k0 k1 s1
  have c0 := K0.out.cell 0
  have c1 := K0.out.cell 1
  have c2 := K0.out.cell 2
  have c3 := K0.out.cell 3
  have cf := fun i => K0.out.frozen i
  simp at c0 c1 c2 c3
  go_wp2_with fail
  refine (iWorldOk_any h.ca h.cc h.ta h.tc h.ga h.gc h.gh M _ (WA.of hs1) (fitG_of hf) HX.out).mono ?_
  rintro e w2 ⟨rfl, hb2⟩
  rw [HWB.out]
  have K0b := Lib.hid (K0.out.below hb2 K0.out.lt)
  have K1b := Lib.hid (K1.out.below hb2 K1.out.lt)
  have HS2 := Lib.hid (hs1.keep hb2)
  have B2 := Lib.hid (B1.out.andThen hb2)
  have Z2 := Lib.hid hb2.size
  clear c0 c1 c2 c3 cf
  clear hs1 hb2 K0 K1 B1
  have c0 := K0b.out.cell 0
  have c1 := K0b.out.cell 1
  have c2 := K0b.out.cell 2
  have c3 := K0b.out.cell 3
  have cf := fun i => K0b.out.frozen i
  simp at c0 c1 c2 c3
  go_wp2_with fail
  refine (iSplit_yes q _ HP.out).mono ?_
  rintro e w3 ⟨rfl, hb3⟩
  have K0c := Lib.hid (K0b.out.below hb3 K0b.out.lt)
  have K1c := Lib.hid (K1b.out.below hb3 K1b.out.lt)
  have HS3 := Lib.hid (HS2.out.keep hb3)
  have B3 := Lib.hid (B2.out.andThen hb3)
  have Z3 := Lib.hid (Nat.le_trans Z2.out hb3.size)
  clear c0 c1 c2 c3 cf
  clear hb3 K0b K1b HS2 B2 Z2
  have c0 := K0c.out.cell 0
  have c1 := K0c.out.cell 1
  have c2 := K0c.out.cell 2
  have c3 := K0c.out.cell 3
  have cf := fun i => K0c.out.frozen i
  simp at c0 c1 c2 c3
  go_wp2_with fail
  refine (iNameOk_any _ _ HSM.out).mono ?_
  rintro e w4 ⟨rfl, hb4⟩
  rw [HNM.out]
  have K0d := Lib.hid (K0c.out.below hb4 K0c.out.lt)
  have K1d := Lib.hid (K1c.out.below hb4 K1c.out.lt)
  have HS4 := Lib.hid (HS3.out.keep hb4)
  have B4 := Lib.hid (B3.out.andThen hb4)
  have Z4 := Lib.hid (Nat.le_trans Z3.out hb4.size)
  clear c0 c1 c2 c3 cf
  clear hb4 K0c K1c HS3 B3 Z3
  have c0 := K0d.out.cell 0
  have c1 := K0d.out.cell 1
  have c2 := K0d.out.cell 2
  have c3 := K0d.out.cell 3
  have cf := fun i => K0d.out.frozen i
  simp at c0 c1 c2 c3
  go_wp2_with fail
  refine (iFind_any h.ca h.ta h.ga h.gc h.gh M _ (WA.of HS4.out) (fitG_of hf) HWB.out HX.out (splitD q)).mono ?_
  rintro e w5 ⟨rfl, hb5⟩
  rw [HFI.out]
  have K0e := Lib.hid (K0d.out.below hb5 K0d.out.lt)
  have K1e := Lib.hid (K1d.out.below hb5 K1d.out.lt)
  have HS5 := Lib.hid (HS4.out.keep hb5)
  have B5 := Lib.hid (B4.out.andThen hb5)
  have Z5 := Lib.hid (Nat.le_trans Z4.out hb5.size)
  clear c0 c1 c2 c3 cf
  clear hb5 K0d K1d HS4 B4 Z4
  have c0 := K0e.out.cell 0
  have c1 := K0e.out.cell 1
  have c2 := K0e.out.cell 2
  have c3 := K0e.out.cell 3
  have cf := fun i => K0e.out.frozen i
  simp at c0 c1 c2 c3
  go_wp2_with fail
  refine (iMake_any h M _ HS5.out hf HX.out (HE.out.keep B5.out) HWB.out (splitF q) g hg8 HU.out HNM.out HSM.out).mono ?_
  rintro e w9 ⟨sl, x, rfl, hb9, ow⟩
  have K1z := Lib.hid (K1e.out.below hb9 K1e.out.lt)
  have BZ := Lib.hid (B5.out.andThen hb9)
  have OW := Lib.hid ow
  clear c0 c1 c2 c3 cf
  clear hb9 ow
  generalize makeW M g (splitF q) = M' at *
  generalize makeC M g (splitF q) = c at *
  go_upto_region 10 with (fail)
  refine gen1 (p := fun W => Code.wp _ _ _ _ W) ?_
  intro Wa ba sa ka
  have KA := Lib.hid ka
  have K1y := Lib.hid (K1z.out.below ba K1z.out.lt)
  have BY := Lib.hid (BZ.out.andThen ba)
  have OY := Lib.hid (OW.out.below ba)
  clear ba sa ka BZ OW K1z
  have c0 := KA.out.cell 0
  have c1 := KA.out.cell 1
  have c2 := KA.out.cell 2
  have c3 := KA.out.cell 3
  have cf := fun i => KA.out.frozen i
  simp at c0 c1 c2 c3
  have d0 := K1y.out.cell 0
  have d1 := K1y.out.cell 1
  have d2 := K1y.out.cell 2
  have d3 := K1y.out.cell 3
  have df := fun i => K1y.out.frozen i
  simp at d0 d1 d2 d3
  go_wp2
  have kz := Lib.hid (show Keep (fun i => i = w.heap.size + 1) Wa ((((Wa.setCell ⟨w.heap.size + 1, 0, none⟩ (.int .i64 M'.now)).setCell ⟨w.heap.size + 1, 1, none⟩ (.slice x.ca M'.cpus.length x.cc)).setCell ⟨w.heap.size + 1, 2, none⟩ (.slice x.ta M'.tasks.length x.tc)).setCell ⟨w.heap.size + 1, 3, none⟩ (.slice x.ga M'.groups.length x.gc)) from ((((Keep.set _ _ _ (by rfl)).trans (Keep.set _ _ _ (by rfl))).trans (Keep.set _ _ _ (by rfl))).trans (Keep.set _ _ _ (by rfl))))
  refine bodyPost_ret (v := .tuple #[.agg #[.int .i64 M'.now, .slice x.ca M'.cpus.length x.cc, .slice x.ta M'.tasks.length x.tc, .slice x.ga M'.groups.length x.gc], .int .i64 c]) (by simp [results, Tryz.results19, go_sem, *]) rfl ⟨x, rfl, BY.out.trans (kz.out.below BY.out.size fun i h => by omega), ?_⟩
  exact OY.out.fin kz.out (fun i h => by have := S1.out; have := Z5.out; omega) (by have := S1.out; have := Z5.out; omega)
theorem iFileMake_any (h : WH) (M : WorldM) (w : World) (hs : WAt w h M) (hf : WFit M) (hx : NextOk M) (q : ByteArray) (hE : ErrIs w) :
    Calls Tryz.prog 19 #[.agg #[.int .i64 M.now, .slice h.ca M.cpus.length h.cc, .slice h.ta M.tasks.length h.tc, .slice h.ga M.groups.length h.gc], .string q] w (WPost (fmakeW M q) (fmakeC M q) w) := by
  by_cases hB : worldB M = true
  · by_cases hp : pathOk q = true
    · by_cases hn : nameB (splitF q) = true
      · have hpn : (pathOk q && nameB (splitF q)) = true := by rw [hp, hn]; rfl
        rw [fmakeW, fmakeC, if_pos hB, if_pos hB, if_pos hpn, if_pos hpn]
        cases hd : findM M (splitD q) with
        | none => exact iFileMake_none h M w hs hf hx q hB hp hn hd
        | some g => exact iFileMake_some h M w hs hf hx q hE hB hp hn g hd
      · have hpn : ¬ (pathOk q && nameB (splitF q)) = true := by rw [hp]; simpa using hn
        rw [fmakeW, fmakeC, if_pos hB, if_pos hB, if_neg hpn, if_neg hpn]
        exact iFileMake_name h M w hs hf hx q hB hp (by simpa using hn)
    · have hpn : ¬ (pathOk q && nameB (splitF q)) = true := by simp [hp]
      rw [fmakeW, fmakeC, if_pos hB, if_pos hB, if_neg hpn, if_neg hpn]
      exact iFileMake_path h M w hs hf hx q hB (by simpa using hp)
  · rw [fmakeW, fmakeC, if_neg hB, if_neg hB]
    exact iFileMake_bad h M w hs hf hx q (by simpa using hB)
end Go.Proofs.YtknfpigaognklaaGreatDoor
namespace Go.Proofs.YtknfpigaognklaaGreatDoor
open Go.RowKit Go.Sort
set_option maxRecDepth 100000 in
set_option maxHeartbeats 4000000 in
theorem FnFileMake_gen (h : WH) (M : WorldM) (q : ByteArray) (M' : WorldM) (c : Int) (w : World) (hs : WAt w h M) (hm : WMax M) (hx : NextOk M) (hE : ErrIs w) (hf2 : WFit M → WFit M')
    (hSC : WFit M → ∀ (h : WH) (W : World), WAt W h M → Calls Tryz.prog 18 #[.agg #[.int .i64 M.now, .slice h.ca M.cpus.length h.cc, .slice h.ta M.tasks.length h.tc, .slice h.ga M.groups.length h.gc], .string q] W (WPost M' c W))
    (hIC : WFit M → ∀ (h : WH) (W : World), WAt W h M → ErrIs W → Calls Tryz.prog 19 #[.agg #[.int .i64 M.now, .slice h.ca M.cpus.length h.cc, .slice h.ta M.tasks.length h.tc, .slice h.ga M.groups.length h.gc], .string q] W (WPost M' c W)) :
    Calls Tryz.prog 6 #[.agg #[.int .i64 M.now, .slice h.ca M.cpus.length h.cc, .slice h.ta M.tasks.length h.tc, .slice h.ga M.groups.length h.gc], .string q] w fun e w' => e = .returned (.bool true) ∧ Below w.heap.size w w' := by
  have HSC := Lib.hid hSC
  have HIC := Lib.hid hIC
  have HM := Lib.hid hm
  have HX := Lib.hid hx
  have HE := Lib.hid hE
  have HF2 := Lib.hid hf2
  clear hSC hIC hm hx hE hf2
  go_enter Tryz.func6, Tryz.ntmps6
  go_upto_region 1 with (fail)
  refine gen1 (p := fun W => Code.wp _ _ _ _ W) ?_
  intro W b1 s1 kA
  have KA := Lib.hid kA
  have HS := Lib.hid (hs.keep b1)
  have B1 := Lib.hid b1
  have HEW := Lib.hid (HE.out.keep b1)
  clear s1 hs kA b1 HE
  by_cases hq : (1048576 : Int) < (q.size : Int)
  · go_wp2
    go_ret
    exact ⟨rfl, B1.out⟩
  have q0 := KA.out.cell 0
  have q1 := KA.out.cell 1
  have q2 := KA.out.cell 2
  have q3 := KA.out.cell 3
  have qf := fun i => KA.out.frozen i
  simp at q0 q1 q2 q3
  go_upto_region 5 with (go_at_call 7; refine (szWorld_any h M _ HS.out HM.out).mono ?_; rintro e w2 ⟨r, rfl, hb2, hr1, hr2, hfit⟩)
  clear q0 q1 q2 q3 qf
  have B2 := Lib.hid hb2
  by_cases hr : r < 0
  · clear hfit hb2
    go_wp2
    go_ret
    exact ⟨rfl, B1.out.andThen B2.out⟩
  have HF := Lib.hid (hfit (by omega))
  have HN := Lib.hid (HF2.out HF.out)
  have SC := Lib.hid (HSC.out HF.out)
  have IC := Lib.hid (HIC.out HF.out)
  have hr0 : 0 ≤ r := by omega
  clear hr hfit hb2 HSC HIC HF2
  have k := Lib.hid (KA.out.below B2.out KA.out.lt)
  have q0 := k.out.cell 0
  have q1 := k.out.cell 1
  have q2 := k.out.cell 2
  have q3 := k.out.cell 3
  have qf := fun i => k.out.frozen i
  simp at q0 q1 q2 q3
  go_upto_region 8 with (first | (go_at_call 9; refine (toWorld_own h M _ (HS.out.keep B2.out) HF.out).mono ?_; rintro e w3 ⟨x3, rfl, hb3, ow3⟩) | (go_at_call 18; refine (SC.out x3 _ ow3.wat).mono ?_; rintro e w4 ⟨hw, rfl, hb4, ow4⟩))
  have OW := Lib.hid ow4
  have B4 := Lib.hid ((B2.out.andThen hb3).andThen hb4)
  clear q0 q1 q2 q3 qf
  clear hb3 hb4 ow3 ow4 k
  refine gen1 (p := fun W => Code.wp _ _ _ _ W) ?_
  intro W7 b7 s7 kw
  have KW := Lib.hid kw
  have HW := Lib.hid (OW.out.wat.keep b7)
  have B7 := Lib.hid (B4.out.andThen b7)
  have S7 := Lib.hid s7
  clear b7 kw s7 OW
  have k := Lib.hid (KA.out.below B7.out KA.out.lt)
  have q0 := k.out.cell 0
  have q1 := k.out.cell 1
  have q2 := k.out.cell 2
  have q3 := k.out.cell 3
  have qf := fun i => k.out.frozen i
  simp at q0 q1 q2 q3
  go_upto_region 9 with (go_at_call 9; refine (toWorld_own h M _ (HS.out.keep B7.out) HF.out).mono ?_; rintro e w5 ⟨hx, rfl, hb5, ox5⟩)
  clear q0 q1 q2 q3 qf
  have OX5 := Lib.hid ox5
  have B5 := Lib.hid hb5
  clear hb5 ox5 k
  refine gen1 (p := fun W => Code.wp _ _ _ _ W) ?_
  intro W8 b8 s8 kx
  have KX := Lib.hid kx
  have OX := Lib.hid (OX5.out.below b8)
  have C8 := Lib.hid (B5.out.andThen b8)
  have HXS := Lib.hid (show ∀ i, Has hx.ca hx.ta hx.ga hx.gh M.groups.length i → W7.heap.size ≤ i ∧ i < w5.heap.size from fun i hi => OX5.out.has hi)
  have S8 := Lib.hid s8
  clear b8 kx s8 OX5
  have q0 := KX.out.cell 0
  have q1 := KX.out.cell 1
  have q2 := KX.out.cell 2
  have q3 := KX.out.cell 3
  have qf := fun i => KX.out.frozen i
  simp at q0 q1 q2 q3
  go_upto_region 10 with (go_at_call 19; refine (IC.out hx _ OX.out.wat (HEW.out.keep (B7.out.andThen C8.out))).mono ?_; rintro e w6 ⟨hg, rfl, hb6, og6⟩)
  clear q0 q1 q2 q3 qf
  have OG6 := Lib.hid og6
  have B6 := Lib.hid hb6
  clear hb6 og6
  refine gen1 (p := fun W => Code.wp _ _ _ _ W) ?_
  intro W9 b9 s9 kg
  have KG := Lib.hid kg
  have OG := Lib.hid (OG6.out.below b9)
  have C9 := Lib.hid (B6.out.andThen b9)
  have HGS := Lib.hid (show ∀ i, Has hg.ca hg.ta hg.ga hg.gh M'.groups.length i → W8.heap.size ≤ i ∧ i < w6.heap.size from fun i hi => OG6.out.has hi)
  have S9 := Lib.hid s9
  have Z8 := Lib.hid C8.out.size
  have Z5 := Lib.hid B5.out.size
  have Z6 := Lib.hid B6.out.size
  clear b9 kg s9 OG6
  have D7 := Lib.hid (C8.out.andThen C9.out)
  have k := Lib.hid (KW.out.below D7.out KW.out.lt)
  have q0 := k.out.cell 0
  have q1 := k.out.cell 1
  have q2 := k.out.cell 2
  have q3 := k.out.cell 3
  have qf := fun i => k.out.frozen i
  simp at q0 q1 q2 q3
  have p0 := KG.out.cell 0
  have p1 := KG.out.cell 1
  have p2 := KG.out.cell 2
  have p3 := KG.out.cell 3
  have pf := fun i => KG.out.frozen i
  simp at p0 p1 p2 p3
  go_upto_region 12 with (go_at_call 11; refine (eqWorld_any hg hw M' _ HN.out OG.out.wat (HW.out.keep D7.out)).mono ?_; rintro e v1 ⟨rfl, hbv1⟩)
  clear q0 q1 q2 q3 qf p0 p1 p2 p3 pf
  clear k
  have E9 := Lib.hid hbv1
  clear hbv1
  have DX := Lib.hid (C9.out.andThen E9.out)
  have DA := Lib.hid ((B7.out.andThen C8.out).andThen DX.out)
  have k := Lib.hid (KA.out.below DA.out KA.out.lt)
  have k2 := Lib.hid (KX.out.below DX.out KX.out.lt)
  have q0 := k.out.cell 0
  have q1 := k.out.cell 1
  have q2 := k.out.cell 2
  have q3 := k.out.cell 3
  have qf := fun i => k.out.frozen i
  simp at q0 q1 q2 q3
  have p0 := k2.out.cell 0
  have p1 := k2.out.cell 1
  have p2 := k2.out.cell 2
  have p3 := k2.out.cell 3
  have pf := fun i => k2.out.frozen i
  simp at p0 p1 p2 p3
  have z_q0 := fun d os => cell_regrown q0 d os
  have z_q1 := fun d os => cell_regrown q1 d os
  have z_q2 := fun d os => cell_regrown q2 d os
  have z_q3 := fun d os => cell_regrown q3 d os
  have z_p0 := fun d os => cell_regrown p0 d os
  have z_p1 := fun d os => cell_regrown p1 d os
  have z_p2 := fun d os => cell_regrown p2 d os
  have z_p3 := fun d os => cell_regrown p3 d os
  have bd : Below v1.heap.size v1 v1.drew := ⟨rfl, rfl, rfl, Nat.le_refl _, fun _ _ => rfl⟩
  refine region_by [false, false, true, true, false] (by kernel_rfl) (by kernel_rfl) (by kernel_rfl) ?_
  repeat (first | (refine wpR_skip (by rfl) ?_; simp only [Act.put, List.setIfInBounds_toArray, List.set_cons_zero, List.set_cons_succ]) | (refine wpR_det (by rfl) (fun K hK => ?_); go_big_quiet_op; refine hK _ ?_; clear hK K))
  refine wpR_bar (by rfl) (fun K hK => ?_)
  go_big_op
  go_at_call 9
  refine (toWorld_any h M _ (HS.out.keep (DA.out.andThen bd)) HF.out).mono ?_
  rintro e v2 ⟨h8, rfl, hb8, hw8⟩
  refine hK _ _ (regrown_of_below (bd.andThen hb8)) ?_
  clear hK K
  refine wpR_bar (by rfl) (fun K hK => ?_)
  go_big_op
  go_at_call 11
  refine (eqWorld_any hx h8 M _ HF.out (OX.out.wat.keep (DX.out.andThen (bd.andThen hb8))) hw8).mono ?_
  rintro e v3 ⟨rfl, hbv3⟩
  refine hK _ _ (regrown_of_below ((bd.andThen hb8).andThen hbv3)) ?_
  clear hK K
  repeat (first | (refine wpR_skip (by rfl) ?_; simp only [Act.put, List.setIfInBounds_toArray, List.set_cons_zero, List.set_cons_succ]) | (refine wpR_det (by rfl) (fun K hK => ?_); go_big_quiet_op; refine hK _ ?_; clear hK K))
  refine wpR_nil ?_
  have E12 := Lib.hid (E9.out.andThen ((bd.andThen hb8).andThen hbv3))
  clear q0 q1 q2 q3 qf p0 p1 p2 p3 pf
  clear z_q0 z_q1 z_q2 z_q3 z_p0 z_p1 z_p2 z_p3
  clear hw8 hb8 hbv3 bd k k2 DX DA E9
  have DX := Lib.hid (C9.out.andThen E12.out)
  have k := Lib.hid (KX.out.below DX.out KX.out.lt)
  have q0 := k.out.cell 0
  have q1 := k.out.cell 1
  have q2 := k.out.cell 2
  have q3 := k.out.cell 3
  have qf := fun i => k.out.frozen i
  simp at q0 q1 q2 q3
  go_upto_region 16 with (go_at_call 16; refine (markWorld_any hx _ M _ HF.out (OX.out.below DX.out)).mono ?_; rintro e v4 ⟨rfl, km, _⟩)
  clear q0 q1 q2 q3 qf
  have eb := endW_pos HF.out
  have F7 := Lib.hid ((C8.out.andThen DX.out).trans (km.below (by have := (C8.out.andThen DX.out).size; exact this) fun i hi => (HXS.out i hi).1))
  have FA := Lib.hid ((B7.out.andThen (C8.out.andThen DX.out)).trans (km.below (Nat.le_trans B7.out.size ((C8.out.andThen DX.out).size)) fun i hi => Nat.le_trans B7.out.size (HXS.out i hi).1))
  have OG4 := Lib.hid ((OG.out.below E12.out).keep km fun i hi hj => by have := (HGS.out i hi).1; have := (HXS.out i hj).2; have := S8.out; omega)
  have KG4 := Lib.hid (km.blk (KG.out.below E12.out KG.out.lt) fun hj => by have := (HXS.out _ hj).2; have := S8.out; have := S9.out; have := Z6.out; omega)
  generalize endW M 1 = em at *
  clear km k DX E12 OG KG OX KX C9
  have k := Lib.hid (KW.out.below F7.out KW.out.lt)
  have q0 := k.out.cell 0
  have q1 := k.out.cell 1
  have q2 := k.out.cell 2
  have q3 := k.out.cell 3
  have qf := fun i => k.out.frozen i
  simp at q0 q1 q2 q3
  have p0 := KG4.out.cell 0
  have p1 := KG4.out.cell 1
  have p2 := KG4.out.cell 2
  have p3 := KG4.out.cell 3
  have pf := fun i => KG4.out.frozen i
  simp at p0 p1 p2 p3
  have h0 : (em < 0) = False := by simp; omega
  go_upto_region 18 with (go_at_call 11; refine (eqWorld_any hg hw M' _ HN.out OG4.out.wat (HW.out.keep F7.out)).mono ?_; rintro e v5 ⟨rfl, hbv5⟩)
  clear q0 q1 q2 q3 qf p0 p1 p2 p3 pf
  have G7 := Lib.hid (F7.out.andThen hbv5)
  have GA := Lib.hid (FA.out.andThen hbv5)
  have OG5 := Lib.hid (OG4.out.below hbv5)
  have KG5 := Lib.hid (KG4.out.below hbv5 KG4.out.lt)
  clear k hbv5 OG4 KG4 F7 FA h0 eb
  have q0 := KG5.out.cell 0
  have q1 := KG5.out.cell 1
  have q2 := KG5.out.cell 2
  have q3 := KG5.out.cell 3
  have qf := fun i => KG5.out.frozen i
  simp at q0 q1 q2 q3
  go_upto_region 20 with (go_at_call 16; refine (markWorld_any hg _ M' _ HN.out OG5.out).mono ?_; rintro e v6 ⟨rfl, km, om⟩)
  clear q0 q1 q2 q3 qf
  have eb := endW_pos HN.out
  have OM := Lib.hid om
  have F7 := Lib.hid (G7.out.trans (km.below G7.out.size fun i hi => Nat.le_trans Z8.out (HGS.out i hi).1))
  have FA := Lib.hid (GA.out.trans (km.below GA.out.size fun i hi => Nat.le_trans (Nat.le_trans B7.out.size Z8.out) (HGS.out i hi).1))
  have KG6 := Lib.hid (km.blk KG5.out fun hj => by have := (HGS.out _ hj).2; omega)
  clear km om OG5 KG5 G7 GA
  have q0 := KG6.out.cell 0
  have q1 := KG6.out.cell 1
  have q2 := KG6.out.cell 2
  have q3 := KG6.out.cell 3
  have qf := fun i => KG6.out.frozen i
  simp at q0 q1 q2 q3
  go_upto_region 26 with (go_at_call 17; refine (heldWorld_any hg M' _ HN.out OM.out.wa).mono ?_; rintro e v7 ⟨rfl, hbv7⟩)
  clear q0 q1 q2 q3 qf
  have G7 := Lib.hid (F7.out.andThen hbv7)
  have GA := Lib.hid (FA.out.andThen hbv7)
  have OM7 := Lib.hid (OM.out.below hbv7)
  have KG7 := Lib.hid (KG6.out.below hbv7 KG6.out.lt)
  clear hbv7 OM KG6 F7 FA
  have k := Lib.hid (KA.out.below GA.out KA.out.lt)
  have q0 := k.out.cell 0
  have q1 := k.out.cell 1
  have q2 := k.out.cell 2
  have q3 := k.out.cell 3
  have qf := fun i => k.out.frozen i
  simp at q0 q1 q2 q3
  go_upto_region 27 with (first | (go_at_call 9; refine (toWorld_own h M _ (HS.out.keep GA.out) HF.out).mono ?_; rintro e v8 ⟨x8, rfl, hb8, ow8⟩) | (go_at_call 19; refine (IC.out x8 _ ow8.wat (HEW.out.keep (GA.out.andThen hb8))).mono ?_; rintro e v9 ⟨hh, rfl, hb9, oh9⟩))
  clear q0 q1 q2 q3 qf
  have B9 := Lib.hid (hb8.andThen hb9)
  have OH9 := Lib.hid oh9
  clear hb8 hb9 oh9 ow8 k
  refine gen1 (p := fun W => Code.wp _ _ _ _ W) ?_
  intro W26 b26 s26 kh
  have KH := Lib.hid kh
  have OH := Lib.hid (OH9.out.below b26)
  have C26 := Lib.hid (B9.out.andThen b26)
  clear b26 s26 kh OH9
  have H7 := Lib.hid (G7.out.andThen C26.out)
  have k := Lib.hid (KW.out.below H7.out KW.out.lt)
  have q0 := k.out.cell 0
  have q1 := k.out.cell 1
  have q2 := k.out.cell 2
  have q3 := k.out.cell 3
  have qf := fun i => k.out.frozen i
  simp at q0 q1 q2 q3
  have p0 := KH.out.cell 0
  have p1 := KH.out.cell 1
  have p2 := KH.out.cell 2
  have p3 := KH.out.cell 3
  have pf := fun i => KH.out.frozen i
  simp at p0 p1 p2 p3
  go_upto_region 29 with (go_at_call 11; refine (eqWorld_any hh hw M' _ HN.out OH.out.wat (HW.out.keep H7.out)).mono ?_; rintro e u1 ⟨rfl, hbu1⟩)
  clear q0 q1 q2 q3 qf p0 p1 p2 p3 pf
  have D26 := Lib.hid (C26.out.andThen hbu1)
  clear k hbu1
  have k := Lib.hid (KG7.out.below D26.out KG7.out.lt)
  have q0 := k.out.cell 0
  have q1 := k.out.cell 1
  have q2 := k.out.cell 2
  have q3 := k.out.cell 3
  have qf := fun i => k.out.frozen i
  simp at q0 q1 q2 q3
  go_wp2_with (go_at_call 17; refine (heldWorld_any hg M' _ HN.out (OM7.out.below D26.out).wa).mono ?_; rintro e u2 ⟨rfl, hbu2⟩)
  go_ret
  exact ⟨rfl, B1.out.andThen ((GA.out.andThen D26.out).andThen hbu2)⟩
theorem fit_set {M : WorldM} (h : WFit M) (g : Nat) {y : GroupM} (hy : GFit y) : WFit (setG M g y) :=
  ⟨h.1, h.2.1, by simpa [setG] using h.2.2.1, fun k hk => by
    have hk' : k < M.groups.length := by simpa [setG] using hk
    have hh := h.2.2.2 k hk'
    simp only [setG, List.getElem_set]
    split
    · exact hy
    · exact hh⟩
theorem fit_w0 : WFit world0 := ⟨by decide, by decide, by decide, fun k hk => absurd hk (Nat.not_lt_zero _)⟩
theorem fit_g0 : GFit group0 := ⟨Nat.zero_le _, ⟨Nat.zero_le _, Nat.zero_le _⟩, Nat.zero_le _⟩
theorem fit_new {n : Nat} {p : Int} {s : ByteArray} (hn : n ≤ 1048576) (hs : s.size ≤ 1048576) : GFit (newG n p s) := ⟨hs, ⟨Nat.zero_le _, Nat.zero_le _⟩, by show (List.replicate n shelfN).length ≤ 1048576; rw [List.length_replicate]; exact hn⟩
theorem fit_make {M : WorldM} (h : WFit M) (q : ByteArray) : WFit (fmakeW M q) := by
  unfold fmakeW
  split
  · split
    · rename_i hpn
      have hs : (splitF q).size ≤ 1048576 := by
        rw [Bool.and_eq_true] at hpn
        exact splitF_size hpn.1
      unfold makeW
      repeat' split
      all_goals first | exact h | exact fit_set h _ (fit_new h.1 hs)
    · exact h
  · exact fit_w0
theorem FnFileMake_any (h : WH) (M : WorldM) (q : ByteArray) (w : World) (hs : WAt w h M) (hm : WMax M) (hx : NextOk M) (hE : ErrIs w) :
    Calls Tryz.prog 6 #[.agg #[.int .i64 M.now, .slice h.ca M.cpus.length h.cc, .slice h.ta M.tasks.length h.tc, .slice h.ga M.groups.length h.gc], .string q] w fun e w' => e = .returned (.bool true) ∧ Below w.heap.size w w' :=
  FnFileMake_gen h M q _ _ w hs hm hx hE (fun hf => fit_make hf q)
    (fun hf x W hW => sFileMake_any x.ca x.cc x.ta x.tc x.ga x.gc x.gh M W (WA.of hW) hf q hx)
    (fun hf x W hW hE => iFileMake_any x M W hW hf hx q hE)
end Go.Proofs.YtknfpigaognklaaGreatDoor
namespace Go.Proofs.YtknfpigaognklaaGreatDoor
open Go.RowKit Go.Sort
open Go.ChangeShapes Go.WideShapes Go.ChangeAt Go.Deep
open Go.ChangeMaps (open_string shut_string)
theorem err_et : Tryz.prog.globalNamed "errors.errorType" = some 1 := by kernel_rfl
theorem err_rt : (Tryz.prog.cutTypes.find? (·.1 == "internal/reflectlite.rtype")).map (·.2) = some 205 := by kernel_rfl
theorem err_oneRow : ((List.range 247).filter fun t => Tryz.prog.rowNamed t [101, 114, 114, 111, 114]) = [67] := by kernel_rfl
theorem err_size : Tryz.prog.types.size = 247 := by kernel_rfl
theorem errIs_of_laid {W : World} (h : laidMetH Tryz.prog Rows.fnExactFileMakeRow.laid W) : ErrIs W := by
  have h' : laidMet Tryz.prog [] W ∧ handlesMet Tryz.prog Rows.fnExactFileMakeRow.laid W := h
  obtain ⟨name, u, ty, e1, e2, e3, e4, e5⟩ := h'.2 _ (List.mem_singleton.2 rfl)
  have en : name = [101, 114, 114, 111, 114] := (Option.some.inj e1).symm
  subst en
  obtain rfl := Option.some.inj (err_rt.symm.trans e2)
  have hm : ty ∈ (List.range 247).filter fun t => Tryz.prog.rowNamed t [101, 114, 114, 111, 114] := List.mem_filter.2 ⟨List.mem_range.2 (by rw [← err_size]; exact e3), e4⟩
  rw [err_oneRow] at hm
  obtain rfl := List.mem_singleton.1 hm
  have hh : typeHandle Tryz.prog 67 = .pointer (some ⟨5, 67, none⟩) := by kernel_rfl
  rw [hh] at e5
  unfold ErrIs
  simpa using World.var?_cell err_et e5 0
theorem FnFileMake_door (os : Os) (args : Array Value) : laidMetH Tryz.prog Rows.fnExactFileMakeRow.laid ((World.doorLaid Tryz.prog 31 os).forCall (fun _ _ => 0) ⟨#[], args, []⟩).memory :=
  laidMetH_of_parts3 (fuel := 8) (laidMet_nil _ _) (by kernel_rfl) (by kernel_rfl)
set_option maxRecDepth 100000 in
theorem FnFileMake_lifted (os : Os) (started : os.Started) (H : Type) (enc : TypeId × Value → H) :
    ReturnsInHanded {} Tryz.checked os 6 .any (fun w args => (Rows.fnExactFileMakeSpec.pre enc Tryz.prog Tryz.f6 [] false w args ∧ laidMetH Tryz.prog Rows.fnExactFileMakeRow.laid w) ∧ sizedMet enc Tryz.prog Tryz.f6 (OpenSpec.ofChange Rows.fnExactFileMakeSpec) false w args)
      (Rows.fnExactFileMakeSpec.post enc Tryz.prog Tryz.f6 false true false false) := by
  refine returnsInHanded_of_change_and (C := Tryz.checked) (X := fun w _ => laidMetH Tryz.prog Rows.fnExactFileMakeRow.laid w) (fun _ _ _ hh h => h.of_heap hh) own started (by kernel_rfl) Tryz.func6
    (ChangeSpec.witness_shaped (enc := enc) (C := Tryz.checked) (os := os) (X := fun w _ => laidMetH Tryz.prog Rows.fnExactFileMakeRow.laid w) false (World.doorLaid Tryz.prog 31 os) #[.agg #[.int .i64 0, .slice none 0 0, .slice none 0 0, .slice none 0 0], .string ⟨#[]⟩] 8 rfl (World.shaped_of_RefB (by kernel_rfl) (by kernel_rfl)) (by kernel_rfl) (by kernel_rfl) (by kernel_rfl) (FnFileMake_door os _)) ?_
  intro W base args ds gs before hval0 hW _ _ hL _
  have hval : ∀ (j : Nat) t v, Tryz.f6.params[j]? = some t → args[j]? = some v → Value.okWide Tryz.prog W .any base t v := hval0
  have hW' := hW
  obtain ⟨p, q, hA0, hV, rfl, hfz, hnd⟩ := hW
  have hA : DataW.TrodAll enc Tryz.prog W 0 (fun _ => true) true Tryz.f6.params.toList args.toList ds p := hA0
  have hA1 := hA
  rw [Tryz.params6] at hA1 hval
  obtain ⟨v0, v1, d0, d1, p0, p1, rfl, rfl, rfl, h0, h1⟩ := trodAll_two hA1
  obtain ⟨rfl, rfl⟩ := trodVars_none hV
  obtain ⟨cs0, rfl, hsz0⟩ := okWide_struct Tryz.underlying26 (hval 0 26 _ rfl rfl)
  obtain ⟨fuel, hf⟩ := h0
  obtain ⟨h, M, hcs, hwat, hmax, hnx⟩ := open_world hf
  obtain rfl : cs0 = #[.int .i64 M.now, .slice h.ca M.cpus.length h.cc, .slice h.ta M.tasks.length h.tc, .slice h.ga M.groups.length h.gc] := by
    apply Array.ext'
    simpa [Value.cells] using hcs
  obtain ⟨s, rfl, rfl, rfl, hss⟩ := open_string Tryz.underlying9 (hval 1 9 _ rfl rfl) h1
  clear hA0 hval0 hf h1
  simp only [List.append_nil] at hW' hA
  refine (FnFileMake_any h M s W hwat hmax (nextOk_of hnx) (errIs_of_laid hL)).mono fun e W' ⟨he, hb⟩ => ?_
  subst he
  exact ⟨_, rfl, law_post laidOut (by rw [Tryz.params6]; decide +kernel) (by kernel_rfl) Tryz.underlying4 rfl hW' hA rfl hb⟩
theorem FnFileMake_holds : Rows.FnExactFileMakeSaid :=
  OpenClaim.holds_of_wide 6 Tryz.f6 rfl rfl rfl rfl rfl rfl rfl ⟨rfl, rfl, rfl, rfl, rfl⟩ rfl rfl rfl rfl rfl (by kernel_rfl) Tryz.func6 (by kernel_rfl)
    (of_decide_eq_true (by kernel_rfl)) (by unfold Func.isWrapper; first | (rw [if_pos (by decide +kernel)]; kernel_rfl) | (rw [if_neg (by decide +kernel)]; exact ⟨rfl, rfl⟩))
    (fun os started H enc _ => FnFileMake_lifted os started H enc)
theorem FnFileMake_card : Rows.FnExactFileMakeCardSaid :=
  Claim7.holds_tied_plain_at .later [] [.handle] true _ true
    FnFileMake_holds (fun _ h => by cases h) (by kernel_rfl) (fun _ h => by cases h) fnExactFileMake_row_tie rfl ⟨rfl, rfl⟩ (by kernel_rfl) rfl
    (fun f fn hf hfn => by
      obtain rfl : f = 6 := Option.some.inj ((show Tryz.prog.funcNamed "loop.example/stint/laws.FnExactFileMake" = some 6 by kernel_rfl).symm.trans hf) |>.symm
      obtain rfl : fn = Tryz.f6 := (Option.some.inj (Tryz.func6.symm.trans hfn)).symm
      exact ⟨by kernel_rfl, fun j t ht => by
        rw [Tryz.params6] at ht
        have hm : t ∈ [26, 9] := by simpa using Array.mem_of_getElem? ht
        have hall : ([26, 9].all fun u => !Tryz.prog.wantsStandIn u) = true := by kernel_rfl
        exact (show Tryz.prog.wantsStandIn t = false by simpa using List.all_eq_true.1 hall t hm)⟩)
    (by kernel_rfl)
end Go.Proofs.YtknfpigaognklaaGreatDoor
