/- A part of the proof. -/
import Derived.Test.YtomllcclallcdaaGreatDoorWr3
import Derived.Test.YtomllcclallcdaaGreatDoorWr6
import Derived.Test.YtomllcclallcdaaGreatDoorWr8
import Derived.Test.YtomllcclallcdaaGreatDoorWr11
import Derived.Test.YtomllcclallcdaaGreatDoorWr12
import Derived.Lib.SplitLaws
import Derived.Lib.AtoiErrMem
namespace Go.Proofs.YtomllcclallcdaaGreatDoor
section
open Go.RowKit Go.Sort
theorem idx_app {x : UInt8} : ∀ {a : List UInt8} (r : List UInt8), x ∉ a → Lib.index (a ++ x :: r) [x] = a.length
  | [], r, _ => by simp [Lib.index]
  | b :: a, r, h => by
    have hb : ¬ x = b := fun e => h (by simp [e])
    have ih := idx_app (a := a) r (fun e => h (List.mem_cons_of_mem b e))
    rw [List.cons_append, Lib.index, ih, if_neg (by simp [hb]), if_neg (by simp)]
    simp
theorem idx_none {x : UInt8} : ∀ {a : List UInt8}, x ∉ a → Lib.index a [x] = -1
  | [], _ => by simp [Lib.index]
  | b :: a, h => by
    have hb : ¬ x = b := fun e => h (by simp [e])
    have ih := idx_none (a := a) (fun e => h (List.mem_cons_of_mem b e))
    rw [Lib.index, ih, if_neg (by simp [hb])]
    rfl
theorem split_cut (x : UInt8) : ∀ (n : Nat) (l : List UInt8), l.length ≤ n → Lib.splitK [x] 0 (Lib.count l [x]) l = cutB x l := by
  intro n
  induction n with
  | zero =>
    intro l h
    obtain rfl : l = [] := List.length_eq_zero_iff.1 (by omega)
    rw [Lib.count_miss (idx_none (by simp))]
    rfl
  | succ n ih =>
    intro l h
    by_cases hx : x ∈ l
    · obtain ⟨a, r, rfl, ha⟩ := List.eq_append_cons_of_mem hx
      have hi := idx_app r ha
      have hlen : r.length ≤ n := by simp at h; omega
      have hd : (a ++ x :: r).drop (a.length + [x].length) = r := by
        rw [show a.length + [x].length = (a ++ [x]).length by simp, show a ++ x :: r = (a ++ [x]) ++ r by simp, List.drop_left]
      rw [Lib.count_hit (by simp) hi, hd, Nat.add_comm, Lib.splitK, hi, if_neg (by simp)]
      rw [show (a.length : Int).toNat = a.length by simp, hd, ih r hlen, cutB_app r ha]
      simp
    · rw [Lib.count_miss (idx_none hx), Lib.splitK, cutB_none hx]
theorem splitB_cut (x : UInt8) (s : ByteArray) : (Lib.splitB ⟨#[x]⟩ 0 (Lib.countB s ⟨#[x]⟩) s).map (·.data.toList) = cutB x s.data.toList := by
  rw [Lib.splitB_data]
  exact split_cut x _ _ (Nat.le_refl _)
theorem iLNow_any (bt bg kb : Nat) (ca : Option Addr) (cc tc gc : Nat) (gh : Nat → GH) (X : WorldM) (B N : Nat) (w : World) (h : OwnR w B ca cc (some ⟨bt, 0, none⟩) (some ⟨bg, 0, none⟩) gh X) (hf : RFit X) (hk : Blk w kb 26 #[.int .i64 X.now, .slice ca X.cpus.length cc, .slice (some ⟨bt, 0, none⟩) X.tasks.length tc, .slice (some ⟨bg, 0, none⟩) X.groups.length gc]) (hH : ∀ i, Has ca (some ⟨bt, 0, none⟩) (some ⟨bg, 0, none⟩) gh X.groups.length i → i < N ∧ i ≠ kb) (hN : kb < N ∧ N ≤ w.heap.size) (hB : B ≤ w.heap.size) (A : Option Addr) (c : Nat) (l : List Int) (hI : IntR w N A l) (hl : l.length ≤ 20001) (nm : List UInt8) :
    Calls Tryz.prog 69 #[.pointer (some ⟨kb, 0, none⟩), .slice A l.length c] w (IPost bt bg kb ca tc gc gh X B (kindIm X wNow nm l) w) := by
  rw [kindIm, if_pos rfl]
  by_cases hn : l.length = 1
  · rw [if_pos hn]; exact iNow_yes bt bg kb ca cc tc gc gh X B N w h hf hk hH hN hB A c l hI hl hn
  · rw [if_neg hn]; exact iNow_no bt bg kb ca cc tc gc gh X B N w h hf hk hH hN hB A c l hI hl hn
theorem iLCpu_any (bt bg kb : Nat) (ca : Option Addr) (cc tc gc : Nat) (gh : Nat → GH) (X : WorldM) (B N : Nat) (w : World) (h : OwnR w B ca cc (some ⟨bt, 0, none⟩) (some ⟨bg, 0, none⟩) gh X) (hf : RFit X) (hk : Blk w kb 26 #[.int .i64 X.now, .slice ca X.cpus.length cc, .slice (some ⟨bt, 0, none⟩) X.tasks.length tc, .slice (some ⟨bg, 0, none⟩) X.groups.length gc]) (hH : ∀ i, Has ca (some ⟨bt, 0, none⟩) (some ⟨bg, 0, none⟩) gh X.groups.length i → i < N ∧ i ≠ kb) (hN : kb < N ∧ N ≤ w.heap.size) (hB : B ≤ w.heap.size) (A : Option Addr) (c : Nat) (l : List Int) (hI : IntR w N A l) (hl : l.length ≤ 20001) (nm : List UInt8) :
    Calls Tryz.prog 70 #[.pointer (some ⟨kb, 0, none⟩), .slice A l.length c] w (IPost bt bg kb ca tc gc gh X B (kindIm X wCpu nm l) w) := by
  rw [kindIm, if_neg (by decide), if_pos rfl]
  by_cases hn : l.length = 5
  · by_cases h4 : X.cpus.length = 4
    · rw [if_neg (by omega)]; exact iCpu_full bt bg kb ca cc tc gc gh X B N w h hf hk hH hN hB A c l hI hl hn h4
    · rw [if_pos ⟨hn, h4⟩]; exact iCpu_yes bt bg kb ca cc tc gc gh X B N w h hf hk hH hN hB A c l hI hl hn h4
  · rw [if_neg (by omega)]; exact iCpu_no bt bg kb ca cc tc gc gh X B N w h hf hk hH hN hB A c l hI hl hn
theorem iLGroup_any (bt bg kb : Nat) (ca : Option Addr) (cc tc gc : Nat) (gh : Nat → GH) (X : WorldM) (B N : Nat) (w : World) (h : OwnR w B ca cc (some ⟨bt, 0, none⟩) (some ⟨bg, 0, none⟩) gh X) (hf : RFit X) (hk : Blk w kb 26 #[.int .i64 X.now, .slice ca X.cpus.length cc, .slice (some ⟨bt, 0, none⟩) X.tasks.length tc, .slice (some ⟨bg, 0, none⟩) X.groups.length gc]) (hH : ∀ i, Has ca (some ⟨bt, 0, none⟩) (some ⟨bg, 0, none⟩) gh X.groups.length i → i < N ∧ i ≠ kb) (hN : kb < N ∧ N ≤ w.heap.size) (hB : B ≤ w.heap.size) (A : Option Addr) (c : Nat) (l : List Int) (hI : IntR w N A l) (hl : l.length ≤ 20001) (nm : List UInt8) :
    Calls Tryz.prog 71 #[.pointer (some ⟨kb, 0, none⟩), .string (strB nm), .slice A l.length c] w (IPost bt bg kb ca tc gc gh X B (kindIm X wGroup nm l) w) := by
  rw [kindIm, if_neg (by decide), if_neg (by decide), if_pos rfl]
  have nat : ∀ {b : Int}, inR (gI l 0) 0 b = true → ∃ g : Nat, gI l 0 = g := fun hr => by rw [inR_iff] at hr; exact ⟨_, (Int.toNat_of_nonneg hr.1).symm⟩
  by_cases hn : l.length = 7
  · by_cases hr : inR (gI l 0) 0 7 = true
    · rw [if_pos ⟨hn, hr⟩]
      obtain ⟨g, hg⟩ := nat hr
      have hg8 : g < 8 := by rw [hg, inR_iff] at hr; omega
      rw [hg, Int.toNat_natCast]
      by_cases hd : nm = [45]
      · rw [if_pos hd]; exact iGroup_dash bt bg kb ca cc tc gc gh X B N w h hf hk hH hN hB A c l hI hl (strB nm) hn g hg hg8 (by rw [wd_eq]; exact decide_eq_true hd)
      · rw [if_neg hd]; exact iGroup_name bt bg kb ca cc tc gc gh X B N w h hf hk hH hN hB A c l hI hl (strB nm) hn g hg hg8 (by rw [wd_eq]; exact decide_eq_false hd)
    · rw [if_neg (fun e => hr e.2)]; exact iGroup_off bt bg kb ca cc tc gc gh X B N w h hf hk hH hN hB A c l hI hl (strB nm) hn (by simpa using hr)
  · rw [if_neg (fun e => hn e.1)]; exact iGroup_no bt bg kb ca cc tc gc gh X B N w h hf hk hH hN hB A c l hI hl (strB nm) hn
theorem iLShelf_any (bt bg kb : Nat) (ca : Option Addr) (cc tc gc : Nat) (gh : Nat → GH) (X : WorldM) (B N : Nat) (w : World) (h : OwnR w B ca cc (some ⟨bt, 0, none⟩) (some ⟨bg, 0, none⟩) gh X) (hf : RFit X) (hk : Blk w kb 26 #[.int .i64 X.now, .slice ca X.cpus.length cc, .slice (some ⟨bt, 0, none⟩) X.tasks.length tc, .slice (some ⟨bg, 0, none⟩) X.groups.length gc]) (hH : ∀ i, Has ca (some ⟨bt, 0, none⟩) (some ⟨bg, 0, none⟩) gh X.groups.length i → i < N ∧ i ≠ kb) (hN : kb < N ∧ N ≤ w.heap.size) (hB : B ≤ w.heap.size) (A : Option Addr) (c : Nat) (l : List Int) (hI : IntR w N A l) (hl : l.length ≤ 20001) (nm : List UInt8) :
    Calls Tryz.prog 72 #[.pointer (some ⟨kb, 0, none⟩), .slice A l.length c] w (IPost bt bg kb ca tc gc gh X B (kindIm X wShelf nm l) w) := by
  rw [kindIm, if_neg (by decide), if_neg (by decide), if_neg (by decide), if_pos rfl]
  have nat : ∀ {b : Int}, inR (gI l 0) 0 b = true → ∃ g : Nat, gI l 0 = g := fun hr => by rw [inR_iff] at hr; exact ⟨_, (Int.toNat_of_nonneg hr.1).symm⟩
  by_cases hn : l.length = 7
  · by_cases hr : inR (gI l 0) 0 7 = true
    · obtain ⟨g, hg⟩ := nat hr
      have hg8 : g < 8 := by rw [hg, inR_iff] at hr; omega
      by_cases h1 : gI l 1 = (grp X g).shelves.length
      · by_cases h4 : (grp X g).shelves.length < 4
        · rw [if_pos ⟨hn, hr, by rw [hg, Int.toNat_natCast]; exact h1, by omega⟩, hg, Int.toNat_natCast]; exact iShelf_yes bt bg kb ca cc tc gc gh X B N w h hf hk hH hN hB A c l hI hl hn g hg hg8 h1 h4
        · rw [if_neg (fun e => by have := e.2.2.2; omega)]; exact iShelf_full bt bg kb ca cc tc gc gh X B N w h hf hk hH hN hB A c l hI hl hn g hg hg8 h1 (by omega)
      · rw [if_neg (fun e => h1 (by have := e.2.2.1; rw [hg, Int.toNat_natCast] at this; exact this))]; exact iShelf_mis bt bg kb ca cc tc gc gh X B N w h hf hk hH hN hB A c l hI hl hn g hg hg8 h1
    · rw [if_neg (fun e => hr e.2.1)]; exact iShelf_off bt bg kb ca cc tc gc gh X B N w h hf hk hH hN hB A c l hI hl hn (by simpa using hr)
  · rw [if_neg (fun e => hn e.1)]; exact iShelf_no bt bg kb ca cc tc gc gh X B N w h hf hk hH hN hB A c l hI hl hn
theorem iLBand_any (bt bg kb : Nat) (ca : Option Addr) (cc tc gc : Nat) (gh : Nat → GH) (X : WorldM) (B N : Nat) (w : World) (h : OwnR w B ca cc (some ⟨bt, 0, none⟩) (some ⟨bg, 0, none⟩) gh X) (hf : RFit X) (hk : Blk w kb 26 #[.int .i64 X.now, .slice ca X.cpus.length cc, .slice (some ⟨bt, 0, none⟩) X.tasks.length tc, .slice (some ⟨bg, 0, none⟩) X.groups.length gc]) (hH : ∀ i, Has ca (some ⟨bt, 0, none⟩) (some ⟨bg, 0, none⟩) gh X.groups.length i → i < N ∧ i ≠ kb) (hN : kb < N ∧ N ≤ w.heap.size) (hB : B ≤ w.heap.size) (A : Option Addr) (c : Nat) (l : List Int) (hI : IntR w N A l) (hl : l.length ≤ 20001) (nm : List UInt8) :
    Calls Tryz.prog 73 #[.pointer (some ⟨kb, 0, none⟩), .slice A l.length c] w (IPost bt bg kb ca tc gc gh X B (kindIm X wBand nm l) w) := by
  rw [kindIm, if_neg (by decide), if_neg (by decide), if_neg (by decide), if_neg (by decide), if_pos rfl]
  have nat : ∀ {b : Int}, inR (gI l 0) 0 b = true → ∃ g : Nat, gI l 0 = g := fun hr => by rw [inR_iff] at hr; exact ⟨_, (Int.toNat_of_nonneg hr.1).symm⟩
  by_cases hn : 4 ≤ l.length
  · by_cases h2 : l.length % 2 = 0
    · by_cases h3 : l.length ≤ 12
      · by_cases hr : inR (gI l 0) 0 7 = true
        · obtain ⟨g, hg⟩ := nat hr
          have hg8 : g < 8 := by rw [hg, inR_iff] at hr; omega
          rw [if_pos ⟨hn, h2, h3, hr⟩, hg, Int.toNat_natCast]; exact iBand_yes bt bg kb ca cc tc gc gh X B N w h hf hk hH hN hB A c l hI hl hn h2 h3 g hg hg8
        · rw [if_neg (fun e => hr e.2.2.2)]; exact iBand_off bt bg kb ca cc tc gc gh X B N w h hf hk hH hN hB A c l hI hl hn h2 h3 (by simpa using hr)
      · rw [if_neg (fun e => h3 e.2.2.1)]; exact iBand_long bt bg kb ca cc tc gc gh X B N w h hf hk hH hN hB A c l hI hl hn h2 (by omega)
    · rw [if_neg (fun e => h2 e.2.1)]; exact iBand_odd bt bg kb ca cc tc gc gh X B N w h hf hk hH hN hB A c l hI hl hn (by omega)
  · rw [if_neg (fun e => hn e.1)]; exact iBand_short bt bg kb ca cc tc gc gh X B N w h hf hk hH hN hB A c l hI hl (by omega)
theorem iLTask_any (bt bg kb : Nat) (ca : Option Addr) (cc tc gc : Nat) (gh : Nat → GH) (X : WorldM) (B N : Nat) (w : World) (h : OwnR w B ca cc (some ⟨bt, 0, none⟩) (some ⟨bg, 0, none⟩) gh X) (hf : RFit X) (hk : Blk w kb 26 #[.int .i64 X.now, .slice ca X.cpus.length cc, .slice (some ⟨bt, 0, none⟩) X.tasks.length tc, .slice (some ⟨bg, 0, none⟩) X.groups.length gc]) (hH : ∀ i, Has ca (some ⟨bt, 0, none⟩) (some ⟨bg, 0, none⟩) gh X.groups.length i → i < N ∧ i ≠ kb) (hN : kb < N ∧ N ≤ w.heap.size) (hB : B ≤ w.heap.size) (A : Option Addr) (c : Nat) (l : List Int) (hI : IntR w N A l) (hl : l.length ≤ 20001) (nm : List UInt8) :
    Calls Tryz.prog 74 #[.pointer (some ⟨kb, 0, none⟩), .slice A l.length c] w (IPost bt bg kb ca tc gc gh X B (kindIm X wTask nm l) w) := by
  rw [kindIm, if_neg (by decide), if_neg (by decide), if_neg (by decide), if_neg (by decide), if_neg (by decide), if_pos rfl]
  have nat : ∀ {b : Int}, inR (gI l 0) 0 b = true → ∃ g : Nat, gI l 0 = g := fun hr => by rw [inR_iff] at hr; exact ⟨_, (Int.toNat_of_nonneg hr.1).symm⟩
  by_cases hn : l.length = 10
  · by_cases hr : inR (gI l 0) 0 11 = true
    · obtain ⟨g, hg⟩ := nat hr
      have hg8 : g < 12 := by rw [hg, inR_iff] at hr; omega
      rw [if_pos ⟨hn, hr⟩, hg, Int.toNat_natCast]; exact iTask_yes bt bg kb ca cc tc gc gh X B N w h hf hk hH hN hB A c l hI hl hn g hg hg8
    · rw [if_neg (fun e => hr e.2)]; exact iTask_off bt bg kb ca cc tc gc gh X B N w h hf hk hH hN hB A c l hI hl hn (by simpa using hr)
  · rw [if_neg (fun e => hn e.1)]; exact iTask_no bt bg kb ca cc tc gc gh X B N w h hf hk hH hN hB A c l hI hl hn
set_option maxRecDepth 100000 in
set_option maxHeartbeats 4000000 in
theorem iKind_now (bt bg kb : Nat) (ca : Option Addr) (cc tc gc : Nat) (gh : Nat → GH) (X : WorldM) (B N : Nat) (w : World) (h : OwnR w B ca cc (some ⟨bt, 0, none⟩) (some ⟨bg, 0, none⟩) gh X) (hf : RFit X) (hk : Blk w kb 26 #[.int .i64 X.now, .slice ca X.cpus.length cc, .slice (some ⟨bt, 0, none⟩) X.tasks.length tc, .slice (some ⟨bg, 0, none⟩) X.groups.length gc]) (hH : ∀ i, Has ca (some ⟨bt, 0, none⟩) (some ⟨bg, 0, none⟩) gh X.groups.length i → i < N ∧ i ≠ kb) (hN : kb < N ∧ N ≤ w.heap.size) (hB : B ≤ w.heap.size) (A : Option Addr) (c : Nat) (l : List Int) (hI : IntR w N A l) (hl : l.length ≤ 20001) (wd nm : List UInt8) (hw : wd = wNow) :
    Calls Tryz.prog 37 #[.pointer (some ⟨kb, 0, none⟩), .string (strB wd), .string (strB nm), .slice A l.length c] w (IPost bt bg kb ca tc gc gh X B (kindIm X wd nm l) w) := by
  have q0 : ((strB wd).toList == [110, 111, 119]) = true := by rw [wd_eq]; exact decide_eq_true hw
  have HC := Lib.hid (show Calls Tryz.prog 69 #[.pointer (some ⟨kb, 0, none⟩), .slice A l.length c] w (IPost bt bg kb ca tc gc gh X B (kindIm X wd nm l) w) by rw [hw]; exact iLNow_any bt bg kb ca cc tc gc gh X B N w h hf hk hH hN hB A c l hI hl nm)
  clear hw h hf hk hH hN hB hI hl
  generalize kindIm X wd nm l = o at *
  generalize strB wd = s0 at *
  generalize strB nm = s1 at *
  go_enter Tryz.func37, Tryz.ntmps37
  cases o with
  | none =>
    go_wp2_with (go_at_call 69; refine HC.out.mono ?_; rintro e w2 ⟨hke, rfl⟩)
    go_ret
    exact ⟨hke, rfl⟩
  | some X' =>
    go_wp2_with (go_at_call 69; refine HC.out.mono ?_; rintro e w2 ⟨hke, rfl, hrest⟩)
    go_ret
    exact ⟨hke, rfl, hrest⟩
set_option maxRecDepth 100000 in
set_option maxHeartbeats 4000000 in
theorem iKind_cpu (bt bg kb : Nat) (ca : Option Addr) (cc tc gc : Nat) (gh : Nat → GH) (X : WorldM) (B N : Nat) (w : World) (h : OwnR w B ca cc (some ⟨bt, 0, none⟩) (some ⟨bg, 0, none⟩) gh X) (hf : RFit X) (hk : Blk w kb 26 #[.int .i64 X.now, .slice ca X.cpus.length cc, .slice (some ⟨bt, 0, none⟩) X.tasks.length tc, .slice (some ⟨bg, 0, none⟩) X.groups.length gc]) (hH : ∀ i, Has ca (some ⟨bt, 0, none⟩) (some ⟨bg, 0, none⟩) gh X.groups.length i → i < N ∧ i ≠ kb) (hN : kb < N ∧ N ≤ w.heap.size) (hB : B ≤ w.heap.size) (A : Option Addr) (c : Nat) (l : List Int) (hI : IntR w N A l) (hl : l.length ≤ 20001) (wd nm : List UInt8) (hw : wd = wCpu) :
    Calls Tryz.prog 37 #[.pointer (some ⟨kb, 0, none⟩), .string (strB wd), .string (strB nm), .slice A l.length c] w (IPost bt bg kb ca tc gc gh X B (kindIm X wd nm l) w) := by
  have q0 : ((strB wd).toList == [110, 111, 119]) = false := by rw [wd_eq]; exact decide_eq_false (by rw [hw]; decide)
  have q1 : ((strB wd).toList == [99, 112, 117]) = true := by rw [wd_eq]; exact decide_eq_true hw
  have HC := Lib.hid (show Calls Tryz.prog 70 #[.pointer (some ⟨kb, 0, none⟩), .slice A l.length c] w (IPost bt bg kb ca tc gc gh X B (kindIm X wd nm l) w) by rw [hw]; exact iLCpu_any bt bg kb ca cc tc gc gh X B N w h hf hk hH hN hB A c l hI hl nm)
  clear hw h hf hk hH hN hB hI hl
  generalize kindIm X wd nm l = o at *
  generalize strB wd = s0 at *
  generalize strB nm = s1 at *
  go_enter Tryz.func37, Tryz.ntmps37
  cases o with
  | none =>
    go_wp2_with (go_at_call 70; refine HC.out.mono ?_; rintro e w2 ⟨hke, rfl⟩)
    go_ret
    exact ⟨hke, rfl⟩
  | some X' =>
    go_wp2_with (go_at_call 70; refine HC.out.mono ?_; rintro e w2 ⟨hke, rfl, hrest⟩)
    go_ret
    exact ⟨hke, rfl, hrest⟩
set_option maxRecDepth 100000 in
set_option maxHeartbeats 4000000 in
theorem iKind_group (bt bg kb : Nat) (ca : Option Addr) (cc tc gc : Nat) (gh : Nat → GH) (X : WorldM) (B N : Nat) (w : World) (h : OwnR w B ca cc (some ⟨bt, 0, none⟩) (some ⟨bg, 0, none⟩) gh X) (hf : RFit X) (hk : Blk w kb 26 #[.int .i64 X.now, .slice ca X.cpus.length cc, .slice (some ⟨bt, 0, none⟩) X.tasks.length tc, .slice (some ⟨bg, 0, none⟩) X.groups.length gc]) (hH : ∀ i, Has ca (some ⟨bt, 0, none⟩) (some ⟨bg, 0, none⟩) gh X.groups.length i → i < N ∧ i ≠ kb) (hN : kb < N ∧ N ≤ w.heap.size) (hB : B ≤ w.heap.size) (A : Option Addr) (c : Nat) (l : List Int) (hI : IntR w N A l) (hl : l.length ≤ 20001) (wd nm : List UInt8) (hw : wd = wGroup) :
    Calls Tryz.prog 37 #[.pointer (some ⟨kb, 0, none⟩), .string (strB wd), .string (strB nm), .slice A l.length c] w (IPost bt bg kb ca tc gc gh X B (kindIm X wd nm l) w) := by
  have q0 : ((strB wd).toList == [110, 111, 119]) = false := by rw [wd_eq]; exact decide_eq_false (by rw [hw]; decide)
  have q1 : ((strB wd).toList == [99, 112, 117]) = false := by rw [wd_eq]; exact decide_eq_false (by rw [hw]; decide)
  have q2 : ((strB wd).toList == [103, 114, 111, 117, 112]) = true := by rw [wd_eq]; exact decide_eq_true hw
  have HC := Lib.hid (show Calls Tryz.prog 71 #[.pointer (some ⟨kb, 0, none⟩), .string (strB nm), .slice A l.length c] w (IPost bt bg kb ca tc gc gh X B (kindIm X wd nm l) w) by rw [hw]; exact iLGroup_any bt bg kb ca cc tc gc gh X B N w h hf hk hH hN hB A c l hI hl nm)
  clear hw h hf hk hH hN hB hI hl
  generalize kindIm X wd nm l = o at *
  generalize strB wd = s0 at *
  generalize strB nm = s1 at *
  go_enter Tryz.func37, Tryz.ntmps37
  cases o with
  | none =>
    go_wp2_with (go_at_call 71; refine HC.out.mono ?_; rintro e w2 ⟨hke, rfl⟩)
    go_ret
    exact ⟨hke, rfl⟩
  | some X' =>
    go_wp2_with (go_at_call 71; refine HC.out.mono ?_; rintro e w2 ⟨hke, rfl, hrest⟩)
    go_ret
    exact ⟨hke, rfl, hrest⟩
set_option maxRecDepth 100000 in
set_option maxHeartbeats 4000000 in
theorem iKind_shelf (bt bg kb : Nat) (ca : Option Addr) (cc tc gc : Nat) (gh : Nat → GH) (X : WorldM) (B N : Nat) (w : World) (h : OwnR w B ca cc (some ⟨bt, 0, none⟩) (some ⟨bg, 0, none⟩) gh X) (hf : RFit X) (hk : Blk w kb 26 #[.int .i64 X.now, .slice ca X.cpus.length cc, .slice (some ⟨bt, 0, none⟩) X.tasks.length tc, .slice (some ⟨bg, 0, none⟩) X.groups.length gc]) (hH : ∀ i, Has ca (some ⟨bt, 0, none⟩) (some ⟨bg, 0, none⟩) gh X.groups.length i → i < N ∧ i ≠ kb) (hN : kb < N ∧ N ≤ w.heap.size) (hB : B ≤ w.heap.size) (A : Option Addr) (c : Nat) (l : List Int) (hI : IntR w N A l) (hl : l.length ≤ 20001) (wd nm : List UInt8) (hw : wd = wShelf) :
    Calls Tryz.prog 37 #[.pointer (some ⟨kb, 0, none⟩), .string (strB wd), .string (strB nm), .slice A l.length c] w (IPost bt bg kb ca tc gc gh X B (kindIm X wd nm l) w) := by
  have q0 : ((strB wd).toList == [110, 111, 119]) = false := by rw [wd_eq]; exact decide_eq_false (by rw [hw]; decide)
  have q1 : ((strB wd).toList == [99, 112, 117]) = false := by rw [wd_eq]; exact decide_eq_false (by rw [hw]; decide)
  have q2 : ((strB wd).toList == [103, 114, 111, 117, 112]) = false := by rw [wd_eq]; exact decide_eq_false (by rw [hw]; decide)
  have q3 : ((strB wd).toList == [115, 104, 101, 108, 102]) = true := by rw [wd_eq]; exact decide_eq_true hw
  have HC := Lib.hid (show Calls Tryz.prog 72 #[.pointer (some ⟨kb, 0, none⟩), .slice A l.length c] w (IPost bt bg kb ca tc gc gh X B (kindIm X wd nm l) w) by rw [hw]; exact iLShelf_any bt bg kb ca cc tc gc gh X B N w h hf hk hH hN hB A c l hI hl nm)
  clear hw h hf hk hH hN hB hI hl
  generalize kindIm X wd nm l = o at *
  generalize strB wd = s0 at *
  generalize strB nm = s1 at *
  go_enter Tryz.func37, Tryz.ntmps37
  cases o with
  | none =>
    go_wp2_with (go_at_call 72; refine HC.out.mono ?_; rintro e w2 ⟨hke, rfl⟩)
    go_ret
    exact ⟨hke, rfl⟩
  | some X' =>
    go_wp2_with (go_at_call 72; refine HC.out.mono ?_; rintro e w2 ⟨hke, rfl, hrest⟩)
    go_ret
    exact ⟨hke, rfl, hrest⟩
set_option maxRecDepth 100000 in
set_option maxHeartbeats 4000000 in
theorem iKind_band (bt bg kb : Nat) (ca : Option Addr) (cc tc gc : Nat) (gh : Nat → GH) (X : WorldM) (B N : Nat) (w : World) (h : OwnR w B ca cc (some ⟨bt, 0, none⟩) (some ⟨bg, 0, none⟩) gh X) (hf : RFit X) (hk : Blk w kb 26 #[.int .i64 X.now, .slice ca X.cpus.length cc, .slice (some ⟨bt, 0, none⟩) X.tasks.length tc, .slice (some ⟨bg, 0, none⟩) X.groups.length gc]) (hH : ∀ i, Has ca (some ⟨bt, 0, none⟩) (some ⟨bg, 0, none⟩) gh X.groups.length i → i < N ∧ i ≠ kb) (hN : kb < N ∧ N ≤ w.heap.size) (hB : B ≤ w.heap.size) (A : Option Addr) (c : Nat) (l : List Int) (hI : IntR w N A l) (hl : l.length ≤ 20001) (wd nm : List UInt8) (hw : wd = wBand) :
    Calls Tryz.prog 37 #[.pointer (some ⟨kb, 0, none⟩), .string (strB wd), .string (strB nm), .slice A l.length c] w (IPost bt bg kb ca tc gc gh X B (kindIm X wd nm l) w) := by
  have q0 : ((strB wd).toList == [110, 111, 119]) = false := by rw [wd_eq]; exact decide_eq_false (by rw [hw]; decide)
  have q1 : ((strB wd).toList == [99, 112, 117]) = false := by rw [wd_eq]; exact decide_eq_false (by rw [hw]; decide)
  have q2 : ((strB wd).toList == [103, 114, 111, 117, 112]) = false := by rw [wd_eq]; exact decide_eq_false (by rw [hw]; decide)
  have q3 : ((strB wd).toList == [115, 104, 101, 108, 102]) = false := by rw [wd_eq]; exact decide_eq_false (by rw [hw]; decide)
  have q4 : ((strB wd).toList == [98, 97, 110, 100]) = true := by rw [wd_eq]; exact decide_eq_true hw
  have HC := Lib.hid (show Calls Tryz.prog 73 #[.pointer (some ⟨kb, 0, none⟩), .slice A l.length c] w (IPost bt bg kb ca tc gc gh X B (kindIm X wd nm l) w) by rw [hw]; exact iLBand_any bt bg kb ca cc tc gc gh X B N w h hf hk hH hN hB A c l hI hl nm)
  clear hw h hf hk hH hN hB hI hl
  generalize kindIm X wd nm l = o at *
  generalize strB wd = s0 at *
  generalize strB nm = s1 at *
  go_enter Tryz.func37, Tryz.ntmps37
  cases o with
  | none =>
    go_wp2_with (go_at_call 73; refine HC.out.mono ?_; rintro e w2 ⟨hke, rfl⟩)
    go_ret
    exact ⟨hke, rfl⟩
  | some X' =>
    go_wp2_with (go_at_call 73; refine HC.out.mono ?_; rintro e w2 ⟨hke, rfl, hrest⟩)
    go_ret
    exact ⟨hke, rfl, hrest⟩
set_option maxRecDepth 100000 in
set_option maxHeartbeats 4000000 in
theorem iKind_task (bt bg kb : Nat) (ca : Option Addr) (cc tc gc : Nat) (gh : Nat → GH) (X : WorldM) (B N : Nat) (w : World) (h : OwnR w B ca cc (some ⟨bt, 0, none⟩) (some ⟨bg, 0, none⟩) gh X) (hf : RFit X) (hk : Blk w kb 26 #[.int .i64 X.now, .slice ca X.cpus.length cc, .slice (some ⟨bt, 0, none⟩) X.tasks.length tc, .slice (some ⟨bg, 0, none⟩) X.groups.length gc]) (hH : ∀ i, Has ca (some ⟨bt, 0, none⟩) (some ⟨bg, 0, none⟩) gh X.groups.length i → i < N ∧ i ≠ kb) (hN : kb < N ∧ N ≤ w.heap.size) (hB : B ≤ w.heap.size) (A : Option Addr) (c : Nat) (l : List Int) (hI : IntR w N A l) (hl : l.length ≤ 20001) (wd nm : List UInt8) (hw : wd = wTask) :
    Calls Tryz.prog 37 #[.pointer (some ⟨kb, 0, none⟩), .string (strB wd), .string (strB nm), .slice A l.length c] w (IPost bt bg kb ca tc gc gh X B (kindIm X wd nm l) w) := by
  have q0 : ((strB wd).toList == [110, 111, 119]) = false := by rw [wd_eq]; exact decide_eq_false (by rw [hw]; decide)
  have q1 : ((strB wd).toList == [99, 112, 117]) = false := by rw [wd_eq]; exact decide_eq_false (by rw [hw]; decide)
  have q2 : ((strB wd).toList == [103, 114, 111, 117, 112]) = false := by rw [wd_eq]; exact decide_eq_false (by rw [hw]; decide)
  have q3 : ((strB wd).toList == [115, 104, 101, 108, 102]) = false := by rw [wd_eq]; exact decide_eq_false (by rw [hw]; decide)
  have q4 : ((strB wd).toList == [98, 97, 110, 100]) = false := by rw [wd_eq]; exact decide_eq_false (by rw [hw]; decide)
  have q5 : ((strB wd).toList == [116, 97, 115, 107]) = true := by rw [wd_eq]; exact decide_eq_true hw
  have HC := Lib.hid (show Calls Tryz.prog 74 #[.pointer (some ⟨kb, 0, none⟩), .slice A l.length c] w (IPost bt bg kb ca tc gc gh X B (kindIm X wd nm l) w) by rw [hw]; exact iLTask_any bt bg kb ca cc tc gc gh X B N w h hf hk hH hN hB A c l hI hl nm)
  clear hw h hf hk hH hN hB hI hl
  generalize kindIm X wd nm l = o at *
  generalize strB wd = s0 at *
  generalize strB nm = s1 at *
  go_enter Tryz.func37, Tryz.ntmps37
  cases o with
  | none =>
    go_wp2_with (go_at_call 74; refine HC.out.mono ?_; rintro e w2 ⟨hke, rfl⟩)
    go_ret
    exact ⟨hke, rfl⟩
  | some X' =>
    go_wp2_with (go_at_call 74; refine HC.out.mono ?_; rintro e w2 ⟨hke, rfl, hrest⟩)
    go_ret
    exact ⟨hke, rfl, hrest⟩
set_option maxRecDepth 100000 in
set_option maxHeartbeats 4000000 in
theorem iKind_other (bt bg kb : Nat) (ca : Option Addr) (cc tc gc : Nat) (gh : Nat → GH) (X : WorldM) (B N : Nat) (w : World) (h : OwnR w B ca cc (some ⟨bt, 0, none⟩) (some ⟨bg, 0, none⟩) gh X) (hf : RFit X) (hk : Blk w kb 26 #[.int .i64 X.now, .slice ca X.cpus.length cc, .slice (some ⟨bt, 0, none⟩) X.tasks.length tc, .slice (some ⟨bg, 0, none⟩) X.groups.length gc]) (hH : ∀ i, Has ca (some ⟨bt, 0, none⟩) (some ⟨bg, 0, none⟩) gh X.groups.length i → i < N ∧ i ≠ kb) (hN : kb < N ∧ N ≤ w.heap.size) (hB : B ≤ w.heap.size) (A : Option Addr) (c : Nat) (l : List Int) (hI : IntR w N A l) (hl : l.length ≤ 20001) (wd nm : List UInt8) (hw : wd ≠ wNow ∧ wd ≠ wCpu ∧ wd ≠ wGroup ∧ wd ≠ wShelf ∧ wd ≠ wBand ∧ wd ≠ wTask) :
    Calls Tryz.prog 37 #[.pointer (some ⟨kb, 0, none⟩), .string (strB wd), .string (strB nm), .slice A l.length c] w (IPost bt bg kb ca tc gc gh X B (kindIm X wd nm l) w) := by
  have q0 : ((strB wd).toList == [110, 111, 119]) = false := by rw [wd_eq]; exact decide_eq_false (by exact hw.1)
  have q1 : ((strB wd).toList == [99, 112, 117]) = false := by rw [wd_eq]; exact decide_eq_false (by exact hw.2.1)
  have q2 : ((strB wd).toList == [103, 114, 111, 117, 112]) = false := by rw [wd_eq]; exact decide_eq_false (by exact hw.2.2.1)
  have q3 : ((strB wd).toList == [115, 104, 101, 108, 102]) = false := by rw [wd_eq]; exact decide_eq_false (by exact hw.2.2.2.1)
  have q4 : ((strB wd).toList == [98, 97, 110, 100]) = false := by rw [wd_eq]; exact decide_eq_false (by exact hw.2.2.2.2.1)
  have q5 : ((strB wd).toList == [116, 97, 115, 107]) = false := by rw [wd_eq]; exact decide_eq_false (by exact hw.2.2.2.2.2)
  have HK := Lib.hid (show kindIm X wd nm l = none by rw [kindIm, if_neg hw.1, if_neg hw.2.1, if_neg hw.2.2.1, if_neg hw.2.2.2.1, if_neg hw.2.2.2.2.1, if_neg hw.2.2.2.2.2])
  rw [HK.out]
  clear hw h hf hk hH hN hB hI hl
  generalize strB wd = s0 at *
  generalize strB nm = s1 at *
  go_enter Tryz.func37, Tryz.ntmps37
  go_wp2
  go_ret
  exact ⟨Keep.refl _ _, rfl⟩
theorem iKind_any (bt bg kb : Nat) (ca : Option Addr) (cc tc gc : Nat) (gh : Nat → GH) (X : WorldM) (B N : Nat) (w : World) (h : OwnR w B ca cc (some ⟨bt, 0, none⟩) (some ⟨bg, 0, none⟩) gh X) (hf : RFit X) (hk : Blk w kb 26 #[.int .i64 X.now, .slice ca X.cpus.length cc, .slice (some ⟨bt, 0, none⟩) X.tasks.length tc, .slice (some ⟨bg, 0, none⟩) X.groups.length gc]) (hH : ∀ i, Has ca (some ⟨bt, 0, none⟩) (some ⟨bg, 0, none⟩) gh X.groups.length i → i < N ∧ i ≠ kb) (hN : kb < N ∧ N ≤ w.heap.size) (hB : B ≤ w.heap.size) (A : Option Addr) (c : Nat) (l : List Int) (hI : IntR w N A l) (hl : l.length ≤ 20001) (wd nm : List UInt8) :
    Calls Tryz.prog 37 #[.pointer (some ⟨kb, 0, none⟩), .string (strB wd), .string (strB nm), .slice A l.length c] w (IPost bt bg kb ca tc gc gh X B (kindIm X wd nm l) w) := by
  by_cases w0 : wd = wNow
  · exact iKind_now bt bg kb ca cc tc gc gh X B N w h hf hk hH hN hB A c l hI hl wd nm w0
  by_cases w1 : wd = wCpu
  · exact iKind_cpu bt bg kb ca cc tc gc gh X B N w h hf hk hH hN hB A c l hI hl wd nm w1
  by_cases w2 : wd = wGroup
  · exact iKind_group bt bg kb ca cc tc gc gh X B N w h hf hk hH hN hB A c l hI hl wd nm w2
  by_cases w3 : wd = wShelf
  · exact iKind_shelf bt bg kb ca cc tc gc gh X B N w h hf hk hH hN hB A c l hI hl wd nm w3
  by_cases w4 : wd = wBand
  · exact iKind_band bt bg kb ca cc tc gc gh X B N w h hf hk hH hN hB A c l hI hl wd nm w4
  by_cases w5 : wd = wTask
  · exact iKind_task bt bg kb ca cc tc gc gh X B N w h hf hk hH hN hB A c l hI hl wd nm w5
  exact iKind_other bt bg kb ca cc tc gc gh X B N w h hf hk hH hN hB A c l hI hl wd nm ⟨w0, w1, w2, w3, w4, w5⟩
end
end Go.Proofs.YtomllcclallcdaaGreatDoor
namespace Go.Proofs.YtomllcclallcdaaGreatDoor
section
open Go.RowKit Go.Sort
def gLim : Nat := max 0 (max 1 2) + 1
structure LibS (w : World) : Prop where
  lt : gLim ≤ w.heap.size
  m : ∃ m, w.cell? ⟨0, 0, none⟩ = some (.int .i64 m)
  e1 : ∃ ev, w.cell? ⟨1, 0, none⟩ = some ev ∧ (ev = .nilIface ∨ ∃ te pe, ev = .iface te pe)
  e2 : ∃ ev, w.cell? ⟨2, 0, none⟩ = some ev ∧ (ev = .nilIface ∨ ∃ te pe, ev = .iface te pe)
theorem LibS.keep {S : Nat → Prop} {w w' : World} (h : LibS w) (hk : Keep S w w') (hS : ∀ i, S i → gLim ≤ i) : LibS w' := by
  have k : ∀ {b : Nat} {v : Value}, b < gLim → w.cell? ⟨b, 0, none⟩ = some v → w'.cell? ⟨b, 0, none⟩ = some v := fun hb hc => hk.cell hc (Nat.lt_of_lt_of_le hb h.lt) fun hs => by have := hS _ hs; omega
  obtain ⟨m, hm⟩ := h.m
  obtain ⟨e1, h1, h1'⟩ := h.e1
  obtain ⟨e2, h2, h2'⟩ := h.e2
  exact ⟨Nat.le_trans h.lt hk.size, ⟨m, k (by decide) hm⟩, ⟨e1, k (by decide) h1, h1'⟩, ⟨e2, k (by decide) h2, h2'⟩⟩
theorem LibS.below {w w' : World} (h : LibS w) (hb : Below w.heap.size w w') : LibS w' := h.keep (Keep.of_below (S := fun _ => False) hb) fun _ h => h.elim
theorem iAtoi_any (s : ByteArray) (hs : s.size ≤ 20000) (w : World) (hl : LibS w) : Calls Tryz.prog 36 #[.string s] w fun e w' => Below w.heap.size w w' ∧ match atoiO s.data.toList with
    | some v => e = .returned (.tuple #[.int .i64 v, .nilIface])
    | none => ∃ n t p, e = .returned (.tuple #[.int .i64 n, .iface t p]) := by
  obtain ⟨e1, h1, h1'⟩ := hl.e1
  obtain ⟨e2, h2, h2'⟩ := hl.e2
  unfold atoiO
  cases h : Lib.atoiAll s.data.toList with
  | ok v =>
    refine (Tryz.strconv_Atoi_ok s (by omega) v h w).mono fun e w' hh => ?_
    obtain ⟨he, hw⟩ := hh
    refine ⟨?_, he⟩
    rcases hw with rfl | ⟨t, rfl⟩
    · exact Below.refl _ _
    · exact Lib.bytesWorld_below _ _ _
  | range =>
    refine (Tryz.strconv_Atoi_range s (by omega) h e2 w h2 h2').mono fun e w' hh => ?_
    obtain ⟨N, he, _, _, hb⟩ := hh
    exact ⟨hb, _, _, _, he⟩
  | _ =>
    refine (Tryz.strconv_Atoi_syntax s (by omega) (fun v e => by rw [h] at e; cases e) (fun e => by rw [h] at e; cases e) e1 w h1 h1').mono fun e w' hh => ?_
    obtain ⟨N, he, _, _, hb⟩ := hh
    exact ⟨hb, _, _, _, he⟩
theorem iSplit_any (s : ByteArray) (x : UInt8) (hs : s.size ≤ 20000) (w : World) (hl : LibS w) : Calls Tryz.prog 13 #[.string s, .string ⟨#[x]⟩] w fun e w' =>
    e = .returned (.slice (some ⟨w.heap.size, 0, none⟩) (cutB x s.data.toList).length (cutB x s.data.toList).length) ∧ Below w.heap.size w w' ∧ WordS w' (some ⟨w.heap.size, 0, none⟩) (cutB x s.data.toList) := by
  obtain ⟨m, hm⟩ := hl.m
  have hc := splitB_cut x s
  have hn : (cutB x s.data.toList).length = Lib.countB s ⟨#[x]⟩ + 1 := by rw [← hc, List.length_map, Lib.splitB_all ⟨#[x]⟩ (Nat.le_refl 1) 0 _ s rfl]
  refine (Tryz.strings_Split s ⟨#[x]⟩ m w (by omega) hm (Nat.le_refl 1)).mono fun e w' hh => ?_
  obtain ⟨he, rfl⟩ := hh
  refine ⟨by rw [he, hn], (Below.refl _ _).alloc (Nat.le_refl _) _, ⟨fun k hk => ⟨w.heap.size, 0, rfl, by simp, ?_⟩⟩⟩
  rw [World.cell?_alloc_at]
  have hk2 : k < (Lib.splitB ⟨#[x]⟩ 0 (Lib.countB s ⟨#[x]⟩) s).length := by rw [← hc, List.length_map] at hk; exact hk
  have e1 : (cutB x s.data.toList)[k] = ((Lib.splitB ⟨#[x]⟩ 0 (Lib.countB s ⟨#[x]⟩) s)[k]).data.toList := by
    have : (cutB x s.data.toList)[k] = ((Lib.splitB ⟨#[x]⟩ 0 (Lib.countB s ⟨#[x]⟩) s).map (·.data.toList))[k]'(by rw [List.length_map]; exact hk2) := by congr 1 <;> simp [hc]
    rw [this, List.getElem_map]
  rw [e1]
  · simp [hk2]
    rfl
  · rfl
theorem IPost.later {bt bg kb : Nat} {ca : Option Addr} {tc gc : Nat} {gh : Nat → GH} {X : WorldM} {B : Nat} {o : Option WorldM} {w w1 : World} {e : Ending} {w' : World} (hb : Below w.heap.size w w1) (h : IPost bt bg kb ca tc gc gh X B o w1 e w') : IPost bt bg kb ca tc gc gh X B o w e w' := by
  obtain ⟨hk, hm⟩ := h
  refine ⟨(Keep.of_below hb).trans hk, ?_⟩
  cases o with
  | none => exact hm
  | some X' =>
    obtain ⟨he, ca', cc', gh', h1, h2, h3⟩ := hm
    exact ⟨he, ca', cc', gh', h1, h2, fun g hg => (h3 g hg).imp_right fun h => Nat.le_trans hb.size h⟩
def lineO (X : WorldM) (L : List (List UInt8)) : Option WorldM :=
  if L.headD [] = wGroup then (if L.tail = [] then none else (numsO atoiO L.tail.tail).bind (kindIm X wGroup (L.tail.headD [])))
  else (numsO atoiO L.tail).bind (kindIm X (L.headD []) [])
theorem lineIm_eq (X : WorldM) (line : List UInt8) : lineIm X line = lineO X (cutB 32 line) := rfl
theorem lineO_plain {X : WorldM} {L : List (List UInt8)} (h0 : 0 < L.length) (hw : L[0] ≠ wGroup) : lineO X L = (numsO atoiO (L.drop 1)).bind (kindIm X L[0] []) := by
  cases L with
  | nil => simp at h0
  | cons a r =>
    have e : ¬ a = wGroup := hw
    show (if a = wGroup then _ else _) = _
    rw [if_neg e]
    rfl
theorem lineO_one {X : WorldM} {L : List (List UInt8)} (h0 : L.length = 1) (h1 : 0 < L.length) (hw : L[0] = wGroup) : lineO X L = none := by
  cases L with
  | nil => simp at h1
  | cons a r =>
    obtain rfl : r = [] := List.length_eq_zero_iff.1 (by simpa using h0)
    have e : a = wGroup := hw
    show (if a = wGroup then (if ([] : List (List UInt8)) = [] then none else _) else _) = _
    rw [if_pos e, if_pos rfl]
theorem lineO_group {X : WorldM} {L : List (List UInt8)} (h1 : 1 < L.length) (hw : L[0] = wGroup) : lineO X L = (numsO atoiO (L.drop 2)).bind (kindIm X L[0] L[1]) := by
  match L, h1 with
  | a :: b :: r, h1 =>
    have e : a = wGroup := hw
    show (if a = wGroup then (if b :: r = [] then none else _) else _) = (numsO atoiO r).bind (kindIm X a b)
    rw [if_pos e, if_neg (by simp), e]
    rfl
theorem IPost.bool {bt bg kb : Nat} {ca : Option Addr} {tc gc : Nat} {gh : Nat → GH} {X : WorldM} {B : Nat} {o : Option WorldM} {w : World} {e : Ending} {w' : World} (h : IPost bt bg kb ca tc gc gh X B o w e w') : ∃ b, e = .returned (.bool b) ∧ IPost bt bg kb ca tc gc gh X B o w (.returned (.bool b)) w' := by
  obtain ⟨hk, hm⟩ := h
  cases o with
  | none => exact ⟨false, hm, hk, rfl⟩
  | some X' =>
    obtain ⟨he, hr⟩ := hm
    exact ⟨true, he, hk, rfl, hr⟩
set_option maxRecDepth 100000 in
set_option maxHeartbeats 4000000 in
theorem iLine_plain (bt bg kb : Nat) (ca : Option Addr) (cc tc gc : Nat) (gh : Nat → GH) (X : WorldM) (B : Nat) (w : World) (h : OwnR w B ca cc (some ⟨bt, 0, none⟩) (some ⟨bg, 0, none⟩) gh X) (hf : RFit X) (hk : Blk w kb 26 #[.int .i64 X.now, .slice ca X.cpus.length cc, .slice (some ⟨bt, 0, none⟩) X.tasks.length tc, .slice (some ⟨bg, 0, none⟩) X.groups.length gc]) (hH : ∀ i, Has ca (some ⟨bt, 0, none⟩) (some ⟨bg, 0, none⟩) gh X.groups.length i → i < w.heap.size ∧ i ≠ kb) (hN : kb < w.heap.size) (hB : B ≤ w.heap.size) (hl : LibS w) (s : ByteArray) (hs : s.size ≤ 20000) (L : List (List UInt8)) (hL : cutB 32 s.data.toList = L) (h0 : 0 < L.length) (hw : L[0] ≠ wGroup) :
    Calls Tryz.prog 14 #[.pointer (some ⟨kb, 0, none⟩), .string s] w (IPost bt bg kb ca tc gc gh X B (lineO X L) w) := by
  have q0 : ((strB L[0]).toList == [103, 114, 111, 117, 112]) = false := by rw [wd_eq]; exact decide_eq_false hw
  have HZ0 := Lib.hid (lineO_plain (X := X) h0 hw)
  rw [HZ0.out]
  clear hw HZ0
  generalize ew0 : L[0] = w0 at *
  generalize hs1 : strB w0 = s1 at *
  generalize hR : L.drop 1 = R at *
  have HBL := Lib.hid (show ∀ a ∈ L, a.length ≤ 20000 from fun a ha => by rw [← hL] at ha; have := cut_len ha; have := len_s s; omega)
  have HLL := Lib.hid (show L.length ≤ 20001 by rw [← hL]; have := cut_count 32 s.data.toList; have := len_s s; omega)
  have SP := Lib.hid (show Calls Tryz.prog 13 #[.string s, .string ⟨#[32]⟩] w (fun e w' => e = .returned (.slice (some ⟨w.heap.size, 0, none⟩) L.length L.length) ∧ Below w.heap.size w w' ∧ WordS w' (some ⟨w.heap.size, 0, none⟩) L) from by have := iSplit_any s 32 hs w hl; rw [hL] at this; exact this)
  have HP := Lib.hid h0
  have HL0 := Lib.hid hl
  have HLW := Lib.hid (fun (W : World) (hb : Below w.heap.size w W) => hl.below hb)
  have KD := Lib.hid (fun (W : World) (hb : Below w.heap.size w W) (N : Nat) (hN1 : w.heap.size ≤ N) (hN2 : N ≤ W.heap.size) (A : Option Addr) (c : Nat) (l : List Int) (hI : IntR W N A l) (hl : l.length ≤ 20001) (wd nm : List UInt8) => (iKind_any bt bg kb ca cc tc gc gh X B N W (h.below hb) hf (hk.below hb hN) (fun i hi => ⟨Nat.lt_of_lt_of_le (hH i hi).1 hN1, (hH i hi).2⟩) ⟨Nat.lt_of_lt_of_le hN hN1, hN2⟩ (Nat.le_trans hB hb.size) A c l hI hl wd nm).mono fun e w' hp => IPost.bool (IPost.later hb hp))
  have l0 : (0 : Int) < (L.length : Int) := by omega
  clear hL hs h hf hk hH hB hl hN
  go_enter Tryz.func14, Tryz.ntmps14
  go_upto_region 2 with (go_at_call 13; refine SP.out.mono ?_; rintro e w2 ⟨rfl, hb2, hW⟩)
  have HW := Lib.hid hW
  have HB := Lib.hid hb2
  clear hW hb2 SP
  obtain ⟨b0, o0, eA, hb0, cw⟩ := HW.out.at_ 0 HP.out
  cases eA
  simp only [Nat.add_zero] at cw
  have cw2 : w2.cell? ⟨w.heap.size, 0, none⟩ = some (.string s1) := by rw [cw]; exact (congrArg (fun t => some (Value.string (strB t))) ew0).trans (by rw [hs1])
  clear cw
  have cw := cw2
  clear cw2
  have z_cw := fun d os => cell_regrown cw d os
  have hl1 : (1 : Int) ≤ (L.length : Int) := by omega
  refine region_by [false, false, false, false, false, false, false, false] (by kernel_rfl) (by kernel_rfl) (by kernel_rfl) ?_
  repeat (first | (refine wpR_skip (by rfl) ?_; simp only [Act.put, List.setIfInBounds_toArray, List.set_cons_zero, List.set_cons_succ]) | (refine wpR_det (by rfl) (fun K hK => ?_); go_big_quiet_op; refine hK _ ?_; clear hK K))
  refine wpR_nil ?_
  have HB3 := Lib.hid HB.out.drew
  have HW3 := Lib.hid (HW.out.keep (Below.refl _ _).drew)
  clear HB HW cw z_cw
  generalize w2.drew = w3 at *
  have HB := Lib.hid HB3.out
  clear HB3
  have HWR := Lib.hid (by have := HW3.out.tl (Nat.le_refl _) 1; rw [hR] at this; exact this)
  have eRl : L.length - 1 = R.length := by rw [← hR, List.length_drop]
  rw [eRl]
  have HRL := Lib.hid (show R.length ≤ L.length by rw [← hR, List.length_drop]; omega)
  have HBR := Lib.hid (fun a (ha : a ∈ R) => HBL.out a (by rw [← hR] at ha; exact List.mem_of_mem_drop ha))
  clear eRl hR
  generalize (if L.length = 1 then some ⟨w.heap.size, 0, none⟩ else some ⟨w.heap.size, 1, none⟩ : Option Addr) = aw at *
  have HRi : (R.length : Int) ≤ 20001 := by have := HLL.out; have := HRL.out; omega
  go_upto_region 10 with (fail)
  go_loopw [4, 9, 11, 12, 13, 34] (fun r4 v _ _ _ i wr => ∃ (k : Nat) (l : List Int), r4 = .bool false ∧ k ≤ R.length ∧ i = .int .i64 k ∧ numsO atoiO (R.take k) = some l ∧ wr.ownsRow w3.heap.size 3 1 v l.length (rowL (fNum l) 1 l.length) ∧ Below w3.heap.size w3 wr) (fun _ _ _ _ _ i _ => R.length - (intOf i).toNat)
  case atStart => exact ⟨0, [], rfl, Nat.zero_le _, rfl, by simp [numsO], World.ownsRow_nil _ _ _ _, Below.refl _ _⟩
  case round =>
    obtain ⟨k, l, rfl, hk, rfl, hd, ho, hbl⟩ := hrel
    have HD := Lib.hid hd
    have HO := Lib.hid ho
    have HBr := Lib.hid hbl
    have HBw := Lib.hid (HB.out.andThen hbl)
    have LW := Lib.hid (HLW.out _ HBw.out)
    have hlk : l.length = k := by rw [numsO_len hd]; simp; omega
    have HWr := Lib.hid (HWR.out.keep HBr.out)
    clear hd ho hbl
    by_cases hlt : k < R.length
    · obtain ⟨b, o, rfl, hb, c0⟩ := HWr.out.at_ k hlt
      have i0 : (0 : Int) ≤ (k : Int) := by omega
      have i1 : (k : Int) < (R.length : Int) := by omega
      have SA := Lib.hid (iAtoi_any (strB R[k]) (by rw [strB_size]; exact HBR.out _ (List.getElem_mem hlt)) wr LW.out)
      have e0 : (strB R[k]).data.toList = R[k] := rfl
      rw [e0] at SA
      clear e0
      cases hq : atoiO R[k] with
      | none =>
        have HZ := Lib.hid (numsO_none (num := atoiO) hlt hq)
        rw [hq] at SA
        generalize strB R[k] = s0 at *
        clear hq hlk hlt
        go_wp2_with (go_at_call 36; refine SA.out.mono ?_; rintro e w5 ⟨hbA, nE, tE, pE, rfl⟩)
        refine bodyPost_ret (v := .bool false) (by simp [results, Tryz.results14, go_sem, *]) rfl ?_
        rw [HZ.out]
        exact ⟨(Keep.of_below (HB.out.andThen (HBr.out.andThen hbA))), rfl⟩
      | some n =>
        have HT := Lib.hid (show numsO atoiO (R.take (k + 1)) = some (l ++ [n]) by rw [List.take_succ_eq_append_getElem hlt]; exact numsO_snoc hq HD.out)
        rw [hq] at SA
        generalize strB R[k] = s0 at *
        clear hq
        go_upto_region 13 with (go_at_call 36; refine SA.out.mono ?_; rintro e w5 ⟨hbA, rfl⟩)
        have HO5 := Lib.hid (own_below HO.out hbA)
        have HB5 := Lib.hid (HBr.out.andThen hbA)
        have hlk2 : l.length ≤ 1048576 := by have := HLL.out; have := HRL.out; omega
        obtain ⟨g5, cap5, w6, hrun, hown5, hkeep5, _⟩ := app_one slNum (by omega) (by omega) (ty := 45) (T' := 3) HO5.out HB5.out.size hlk2 [.int .i64 n] rfl (by simp [Value.oneCell']) (W1 := w5.alloc (.cells #[.int .i64 n] 3)) ((Below.refl _ _).alloc (Nat.le_refl _) _) (by simp) (Blk.new w5 3 _)
        have HRUN := Lib.hid hrun
        have HOW := Lib.hid hown5
        have HKE := Lib.hid hkeep5
        have HLT := Lib.hid hlt
        clear hrun hown5 hkeep5 hlt hlk hlk2
        go_wp2_with (at_builtin; refine wpList_append_run rfl rfl rfl rfl HRUN.out ?_)
        go_roundw
        case rel => exact ⟨k + 1, l ++ [n], rfl, by have := HLT.out; omega, by go_num, HT.out, by rw [List.length_append, List.length_singleton, fNum_snoc]; exact HOW.out, HB5.out.trans (HKE.out.below HB5.out.size fun j hj => by have := (HO5.out.lt _ hj).1; omega)⟩
        case measure => have := HLT.out; simp [intOf]; omega
    · have HZ := Lib.hid (show numsO atoiO R = some l by rw [List.take_of_length_le (by omega)] at HD; exact HD.out)
      obtain ⟨A', c', rfl, hR⟩ := row_of_own HO.out
      have i1 : (R.length : Int) ≤ (k : Int) := by omega
      have HC := Lib.hid (show Calls Tryz.prog 37 #[.pointer (some ⟨kb, 0, none⟩), .string s1, .string ⟨#[]⟩, .slice A' l.length c'] wr (fun e w' => ∃ bb, e = .returned (.bool bb) ∧ IPost bt bg kb ca tc gc gh X B (kindIm X w0 [] l) w (.returned (.bool bb)) w') from by have := KD.out wr HBw.out w3.heap.size HB.out.size HBr.out.size A' c' l hR (by have := HLL.out; have := HRL.out; omega) w0 []; rw [hs1] at this; exact this)
      clear hR hlt hlk
      go_wp2_with (go_at_call 37; refine HC.out.mono ?_; rintro e w7 ⟨bb, rfl, hp⟩)
      go_ret
      rw [HZ.out]
      exact hp
set_option maxRecDepth 100000 in
set_option maxHeartbeats 4000000 in
theorem iLine_one (bt bg kb : Nat) (ca : Option Addr) (cc tc gc : Nat) (gh : Nat → GH) (X : WorldM) (B : Nat) (w : World) (h : OwnR w B ca cc (some ⟨bt, 0, none⟩) (some ⟨bg, 0, none⟩) gh X) (hf : RFit X) (hk : Blk w kb 26 #[.int .i64 X.now, .slice ca X.cpus.length cc, .slice (some ⟨bt, 0, none⟩) X.tasks.length tc, .slice (some ⟨bg, 0, none⟩) X.groups.length gc]) (hH : ∀ i, Has ca (some ⟨bt, 0, none⟩) (some ⟨bg, 0, none⟩) gh X.groups.length i → i < w.heap.size ∧ i ≠ kb) (hN : kb < w.heap.size) (hB : B ≤ w.heap.size) (hl : LibS w) (s : ByteArray) (hs : s.size ≤ 20000) (L : List (List UInt8)) (hL : cutB 32 s.data.toList = L) (h0 : 0 < L.length) (hw : L[0] = wGroup) (h1 : L.length = 1) :
    Calls Tryz.prog 14 #[.pointer (some ⟨kb, 0, none⟩), .string s] w (IPost bt bg kb ca tc gc gh X B (lineO X L) w) := by
  have q0 : ((strB L[0]).toList == [103, 114, 111, 117, 112]) = true := by rw [wd_eq]; exact decide_eq_true hw
  have HZ0 := Lib.hid (lineO_one (X := X) h1 h0 hw)
  rw [HZ0.out]
  clear hw HZ0
  generalize ew0 : L[0] = w0 at *
  generalize hs1 : strB w0 = s1 at *
  have HBL := Lib.hid (show ∀ a ∈ L, a.length ≤ 20000 from fun a ha => by rw [← hL] at ha; have := cut_len ha; have := len_s s; omega)
  have HLL := Lib.hid (show L.length ≤ 20001 by rw [← hL]; have := cut_count 32 s.data.toList; have := len_s s; omega)
  have SP := Lib.hid (show Calls Tryz.prog 13 #[.string s, .string ⟨#[32]⟩] w (fun e w' => e = .returned (.slice (some ⟨w.heap.size, 0, none⟩) L.length L.length) ∧ Below w.heap.size w w' ∧ WordS w' (some ⟨w.heap.size, 0, none⟩) L) from by have := iSplit_any s 32 hs w hl; rw [hL] at this; exact this)
  have HP := Lib.hid h0
  have HL0 := Lib.hid hl
  have HLW := Lib.hid (fun (W : World) (hb : Below w.heap.size w W) => hl.below hb)
  have KD := Lib.hid (fun (W : World) (hb : Below w.heap.size w W) (N : Nat) (hN1 : w.heap.size ≤ N) (hN2 : N ≤ W.heap.size) (A : Option Addr) (c : Nat) (l : List Int) (hI : IntR W N A l) (hl : l.length ≤ 20001) (wd nm : List UInt8) => (iKind_any bt bg kb ca cc tc gc gh X B N W (h.below hb) hf (hk.below hb hN) (fun i hi => ⟨Nat.lt_of_lt_of_le (hH i hi).1 hN1, (hH i hi).2⟩) ⟨Nat.lt_of_lt_of_le hN hN1, hN2⟩ (Nat.le_trans hB hb.size) A c l hI hl wd nm).mono fun e w' hp => IPost.bool (IPost.later hb hp))
  have l0 : (0 : Int) < (L.length : Int) := by omega
  clear hL hs h hf hk hH hB hl hN
  go_enter Tryz.func14, Tryz.ntmps14
  go_upto_region 2 with (go_at_call 13; refine SP.out.mono ?_; rintro e w2 ⟨rfl, hb2, hW⟩)
  have HW := Lib.hid hW
  have HB := Lib.hid hb2
  clear hW hb2 SP
  obtain ⟨b0, o0, eA, hb0, cw⟩ := HW.out.at_ 0 HP.out
  cases eA
  simp only [Nat.add_zero] at cw
  have cw2 : w2.cell? ⟨w.heap.size, 0, none⟩ = some (.string s1) := by rw [cw]; exact (congrArg (fun t => some (Value.string (strB t))) ew0).trans (by rw [hs1])
  clear cw
  have cw := cw2
  clear cw2
  have z_cw := fun d os => cell_regrown cw d os
  have hl1 : (1 : Int) ≤ (L.length : Int) := by omega
  refine region_by [false, false, false, false, false, false, false, false] (by kernel_rfl) (by kernel_rfl) (by kernel_rfl) ?_
  repeat (first | (refine wpR_skip (by rfl) ?_; simp only [Act.put, List.setIfInBounds_toArray, List.set_cons_zero, List.set_cons_succ]) | (refine wpR_det (by rfl) (fun K hK => ?_); go_big_quiet_op; refine hK _ ?_; clear hK K))
  refine wpR_nil ?_
  have HB3 := Lib.hid HB.out.drew
  have HW3 := Lib.hid (HW.out.keep (Below.refl _ _).drew)
  clear HB HW cw z_cw
  generalize w2.drew = w3 at *
  have HB := Lib.hid HB3.out
  clear HB3
  clear h1 hl1 l0
  go_wp2
  go_ret
  exact ⟨Keep.of_below HB.out, rfl⟩
set_option maxRecDepth 100000 in
set_option maxHeartbeats 4000000 in
theorem iLine_group (bt bg kb : Nat) (ca : Option Addr) (cc tc gc : Nat) (gh : Nat → GH) (X : WorldM) (B : Nat) (w : World) (h : OwnR w B ca cc (some ⟨bt, 0, none⟩) (some ⟨bg, 0, none⟩) gh X) (hf : RFit X) (hk : Blk w kb 26 #[.int .i64 X.now, .slice ca X.cpus.length cc, .slice (some ⟨bt, 0, none⟩) X.tasks.length tc, .slice (some ⟨bg, 0, none⟩) X.groups.length gc]) (hH : ∀ i, Has ca (some ⟨bt, 0, none⟩) (some ⟨bg, 0, none⟩) gh X.groups.length i → i < w.heap.size ∧ i ≠ kb) (hN : kb < w.heap.size) (hB : B ≤ w.heap.size) (hl : LibS w) (s : ByteArray) (hs : s.size ≤ 20000) (L : List (List UInt8)) (hL : cutB 32 s.data.toList = L) (h0 : 0 < L.length) (hw : L[0] = wGroup) (h1 : 1 < L.length) :
    Calls Tryz.prog 14 #[.pointer (some ⟨kb, 0, none⟩), .string s] w (IPost bt bg kb ca tc gc gh X B (lineO X L) w) := by
  have q0 : ((strB L[0]).toList == [103, 114, 111, 117, 112]) = true := by rw [wd_eq]; exact decide_eq_true hw
  have HZ0 := Lib.hid (lineO_group (X := X) h1 hw)
  rw [HZ0.out]
  clear HZ0
  have H1 := Lib.hid h1
  have HWD := Lib.hid hw
  clear hw
  generalize ew0 : L[0] = w0 at *
  generalize hs1 : strB w0 = s1 at *
  generalize ew1 : L[1] = w1 at *
  generalize hs2 : strB w1 = s2 at *
  generalize hR : L.drop 2 = R at *
  have HBL := Lib.hid (show ∀ a ∈ L, a.length ≤ 20000 from fun a ha => by rw [← hL] at ha; have := cut_len ha; have := len_s s; omega)
  have HLL := Lib.hid (show L.length ≤ 20001 by rw [← hL]; have := cut_count 32 s.data.toList; have := len_s s; omega)
  have SP := Lib.hid (show Calls Tryz.prog 13 #[.string s, .string ⟨#[32]⟩] w (fun e w' => e = .returned (.slice (some ⟨w.heap.size, 0, none⟩) L.length L.length) ∧ Below w.heap.size w w' ∧ WordS w' (some ⟨w.heap.size, 0, none⟩) L) from by have := iSplit_any s 32 hs w hl; rw [hL] at this; exact this)
  have HP := Lib.hid h0
  have HL0 := Lib.hid hl
  have HLW := Lib.hid (fun (W : World) (hb : Below w.heap.size w W) => hl.below hb)
  have KD := Lib.hid (fun (W : World) (hb : Below w.heap.size w W) (N : Nat) (hN1 : w.heap.size ≤ N) (hN2 : N ≤ W.heap.size) (A : Option Addr) (c : Nat) (l : List Int) (hI : IntR W N A l) (hl : l.length ≤ 20001) (wd nm : List UInt8) => (iKind_any bt bg kb ca cc tc gc gh X B N W (h.below hb) hf (hk.below hb hN) (fun i hi => ⟨Nat.lt_of_lt_of_le (hH i hi).1 hN1, (hH i hi).2⟩) ⟨Nat.lt_of_lt_of_le hN hN1, hN2⟩ (Nat.le_trans hB hb.size) A c l hI hl wd nm).mono fun e w' hp => IPost.bool (IPost.later hb hp))
  have l0 : (0 : Int) < (L.length : Int) := by omega
  clear hL hs h hf hk hH hB hl hN
  go_enter Tryz.func14, Tryz.ntmps14
  go_upto_region 2 with (go_at_call 13; refine SP.out.mono ?_; rintro e w2 ⟨rfl, hb2, hW⟩)
  have HW := Lib.hid hW
  have HB := Lib.hid hb2
  clear hW hb2 SP
  obtain ⟨b0, o0, eA, hb0, cw⟩ := HW.out.at_ 0 HP.out
  cases eA
  simp only [Nat.add_zero] at cw
  have cw2 : w2.cell? ⟨w.heap.size, 0, none⟩ = some (.string s1) := by rw [cw]; exact (congrArg (fun t => some (Value.string (strB t))) ew0).trans (by rw [hs1])
  clear cw
  have cw := cw2
  clear cw2
  have z_cw := fun d os => cell_regrown cw d os
  have hl1 : (1 : Int) ≤ (L.length : Int) := by omega
  refine region_by [false, false, false, false, false, false, false, false] (by kernel_rfl) (by kernel_rfl) (by kernel_rfl) ?_
  repeat (first | (refine wpR_skip (by rfl) ?_; simp only [Act.put, List.setIfInBounds_toArray, List.set_cons_zero, List.set_cons_succ]) | (refine wpR_det (by rfl) (fun K hK => ?_); go_big_quiet_op; refine hK _ ?_; clear hK K))
  refine wpR_nil ?_
  have HB3 := Lib.hid HB.out.drew
  have HW3 := Lib.hid (HW.out.keep (Below.refl _ _).drew)
  clear HB HW cw z_cw
  generalize w2.drew = w3 at *
  have HB := Lib.hid HB3.out
  clear HB3
  obtain ⟨b1, o1, eA, hb1, cw1⟩ := HW3.out.at_ 1 H1.out
  cases eA
  simp only [Nat.zero_add] at cw1
  have cw2 : w3.cell? ⟨w.heap.size, 1, none⟩ = some (.string s2) := by rw [cw1]; exact (congrArg (fun t => some (Value.string (strB t))) ew1).trans (by rw [hs2])
  clear cw1
  have cw1 := cw2
  clear cw2
  have z_cw1 := fun d os => cell_regrown cw1 d os
  have HRL := Lib.hid (show R.length ≤ L.length by rw [← hR, List.length_drop]; omega)
  have HBR := Lib.hid (fun a (ha : a ∈ R) => HBL.out a (by rw [← hR] at ha; exact List.mem_of_mem_drop ha))
  have HRD := Lib.hid (show R.length = L.length - 2 by rw [← hR, List.length_drop])
  generalize en : L.length - 1 = n1 at *
  have n0 : (0 : Int) < (n1 : Int) := by omega
  have n2 : (1 : Int) ≤ (n1 : Int) := by omega
  have n3 : ((n1 : Int) == 0) = false := by rw [beq_eq_false_iff_ne]; omega
  have EN := Lib.hid en
  clear en
  go_upto_region 8 with (fail)
  clear n3
  refine region_by [false, false, false, false, false, false, false] (by kernel_rfl) (by kernel_rfl) (by kernel_rfl) ?_
  repeat (first | (refine wpR_skip (by rfl) ?_; simp only [Act.put, List.setIfInBounds_toArray, List.set_cons_zero, List.set_cons_succ]) | (refine wpR_det (by rfl) (fun K hK => ?_); go_big_quiet_op; refine hK _ ?_; clear hK K))
  refine wpR_nil ?_
  have HWR3 := Lib.hid (show WordS w3 (if n1 = 1 then some ⟨w.heap.size, 1, none⟩ else some ⟨w.heap.size, 2, none⟩) R from by
    split
    · exact ⟨fun k hk => absurd hk (by have := HRD.out; have := EN.out; omega)⟩
    · have := HW3.out.drop 2; rw [hR, Nat.zero_add] at this; exact this)
  have HB3 := Lib.hid HB.out.drew
  have HWR := Lib.hid (HWR3.out.keep (Below.refl _ _).drew)
  clear HB HW3 HWR3 cw1 z_cw1 hb1
  generalize w3.drew = w4 at *
  have HB := Lib.hid HB3.out
  clear HB3
  have eR : n1 - 1 = R.length := by rw [HRD.out, ← EN.out]; omega
  rw [eR]
  clear eR hR
  have EW := Lib.hid ew0
  clear ew0 ew1 h1
  generalize (if n1 = 1 then some ⟨w.heap.size, 1, none⟩ else some ⟨w.heap.size, 2, none⟩ : Option Addr) = aw at *
  have HRi : (R.length : Int) ≤ 20001 := by have := HLL.out; have := HRL.out; omega
  go_upto_region 10 with (fail)
  go_loopw [4, 9, 11, 12, 13, 34] (fun r4 v _ _ _ i wr => ∃ (k : Nat) (l : List Int), r4 = .bool false ∧ k ≤ R.length ∧ i = .int .i64 k ∧ numsO atoiO (R.take k) = some l ∧ wr.ownsRow w4.heap.size 3 1 v l.length (rowL (fNum l) 1 l.length) ∧ Below w4.heap.size w4 wr) (fun _ _ _ _ _ i _ => R.length - (intOf i).toNat)
  case atStart => exact ⟨0, [], rfl, Nat.zero_le _, rfl, by simp [numsO], World.ownsRow_nil _ _ _ _, Below.refl _ _⟩
  case round =>
    obtain ⟨k, l, rfl, hk, rfl, hd, ho, hbl⟩ := hrel
    have HD := Lib.hid hd
    have HO := Lib.hid ho
    have HBr := Lib.hid hbl
    have HBw := Lib.hid (HB.out.andThen hbl)
    have LW := Lib.hid (HLW.out _ HBw.out)
    have hlk : l.length = k := by rw [numsO_len hd]; simp; omega
    have HWr := Lib.hid (HWR.out.keep HBr.out)
    clear hd ho hbl
    by_cases hlt : k < R.length
    · obtain ⟨b, o, rfl, hb, c0⟩ := HWr.out.at_ k hlt
      have i0 : (0 : Int) ≤ (k : Int) := by omega
      have i1 : (k : Int) < (R.length : Int) := by omega
      have SA := Lib.hid (iAtoi_any (strB R[k]) (by rw [strB_size]; exact HBR.out _ (List.getElem_mem hlt)) wr LW.out)
      have e0 : (strB R[k]).data.toList = R[k] := rfl
      rw [e0] at SA
      clear e0
      cases hq : atoiO R[k] with
      | none =>
        have HZ := Lib.hid (numsO_none (num := atoiO) hlt hq)
        rw [hq] at SA
        generalize strB R[k] = s0 at *
        clear hq hlk hlt
        go_wp2_with (go_at_call 36; refine SA.out.mono ?_; rintro e w5 ⟨hbA, nE, tE, pE, rfl⟩)
        refine bodyPost_ret (v := .bool false) (by simp [results, Tryz.results14, go_sem, *]) rfl ?_
        rw [HZ.out]
        exact ⟨(Keep.of_below (HB.out.andThen (HBr.out.andThen hbA))), rfl⟩
      | some n =>
        have HT := Lib.hid (show numsO atoiO (R.take (k + 1)) = some (l ++ [n]) by rw [List.take_succ_eq_append_getElem hlt]; exact numsO_snoc hq HD.out)
        rw [hq] at SA
        generalize strB R[k] = s0 at *
        clear hq
        go_upto_region 13 with (go_at_call 36; refine SA.out.mono ?_; rintro e w5 ⟨hbA, rfl⟩)
        have HO5 := Lib.hid (own_below HO.out hbA)
        have HB5 := Lib.hid (HBr.out.andThen hbA)
        have hlk2 : l.length ≤ 1048576 := by have := HLL.out; have := HRL.out; omega
        obtain ⟨g5, cap5, w6, hrun, hown5, hkeep5, _⟩ := app_one slNum (by omega) (by omega) (ty := 45) (T' := 3) HO5.out HB5.out.size hlk2 [.int .i64 n] rfl (by simp [Value.oneCell']) (W1 := w5.alloc (.cells #[.int .i64 n] 3)) ((Below.refl _ _).alloc (Nat.le_refl _) _) (by simp) (Blk.new w5 3 _)
        have HRUN := Lib.hid hrun
        have HOW := Lib.hid hown5
        have HKE := Lib.hid hkeep5
        have HLT := Lib.hid hlt
        clear hrun hown5 hkeep5 hlt hlk hlk2
        go_wp2_with (at_builtin; refine wpList_append_run rfl rfl rfl rfl HRUN.out ?_)
        go_roundw
        case rel => exact ⟨k + 1, l ++ [n], rfl, by have := HLT.out; omega, by go_num, HT.out, by rw [List.length_append, List.length_singleton, fNum_snoc]; exact HOW.out, HB5.out.trans (HKE.out.below HB5.out.size fun j hj => by have := (HO5.out.lt _ hj).1; omega)⟩
        case measure => have := HLT.out; simp [intOf]; omega
    · have HZ := Lib.hid (show numsO atoiO R = some l by rw [List.take_of_length_le (by omega)] at HD; exact HD.out)
      obtain ⟨A', c', rfl, hR⟩ := row_of_own HO.out
      have i1 : (R.length : Int) ≤ (k : Int) := by omega
      have HC := Lib.hid (show Calls Tryz.prog 37 #[.pointer (some ⟨kb, 0, none⟩), .string s1, .string s2, .slice A' l.length c'] wr (fun e w' => ∃ bb, e = .returned (.bool bb) ∧ IPost bt bg kb ca tc gc gh X B (kindIm X w0 w1 l) w (.returned (.bool bb)) w') from by have := KD.out wr HBw.out w4.heap.size HB.out.size HBr.out.size A' c' l hR (by have := HLL.out; have := HRL.out; omega) w0 w1; rw [hs1, hs2] at this; exact this)
      clear hR hlt hlk
      go_wp2_with (go_at_call 37; refine HC.out.mono ?_; rintro e w7 ⟨bb, rfl, hp⟩)
      go_ret
      rw [HZ.out]
      exact hp
theorem iLine_any (bt bg kb : Nat) (ca : Option Addr) (cc tc gc : Nat) (gh : Nat → GH) (X : WorldM) (B : Nat) (w : World) (h : OwnR w B ca cc (some ⟨bt, 0, none⟩) (some ⟨bg, 0, none⟩) gh X) (hf : RFit X) (hk : Blk w kb 26 #[.int .i64 X.now, .slice ca X.cpus.length cc, .slice (some ⟨bt, 0, none⟩) X.tasks.length tc, .slice (some ⟨bg, 0, none⟩) X.groups.length gc]) (hH : ∀ i, Has ca (some ⟨bt, 0, none⟩) (some ⟨bg, 0, none⟩) gh X.groups.length i → i < w.heap.size ∧ i ≠ kb) (hN : kb < w.heap.size) (hB : B ≤ w.heap.size) (hl : LibS w) (s : ByteArray) (hs : s.size ≤ 20000) :
    Calls Tryz.prog 14 #[.pointer (some ⟨kb, 0, none⟩), .string s] w (IPost bt bg kb ca tc gc gh X B (lineIm X s.data.toList) w) := by
  rw [lineIm_eq]
  have h0 : 0 < (cutB 32 s.data.toList).length := List.length_pos_iff.2 (cutB_ne 32 s.data.toList)
  generalize hL : cutB 32 s.data.toList = L at *
  by_cases hw : L[0] = wGroup
  · by_cases h1 : L.length = 1
    · exact iLine_one bt bg kb ca cc tc gc gh X B w h hf hk hH hN hB hl s hs L hL h0 hw h1
    · exact iLine_group bt bg kb ca cc tc gc gh X B w h hf hk hH hN hB hl s hs L hL h0 hw (by omega)
  · exact iLine_plain bt bg kb ca cc tc gc gh X B w h hf hk hH hN hB hl s hs L hL h0 hw
end
end Go.Proofs.YtomllcclallcdaaGreatDoor
namespace Go.Proofs.YtomllcclallcdaaGreatDoor
section
open Go.RowKit Go.Sort
attribute [local go_sem] strB_size
set_option maxHeartbeats 400000 in
theorem iBit_any (b : Bool) (w : World) : Calls Tryz.prog 41 #[.bool b] w fun e w' => e = .returned (.int .i64 (bitM b)) ∧ w = w' := by
  cases b
  all_goals
    go_enter Tryz.func41, Tryz.ntmps41
    go_wp2
    go_ret
    exact ⟨rfl, rfl⟩
set_option maxRecDepth 100000 in
set_option maxHeartbeats 8000000 in
theorem iGroup_any (ca : Option Addr) (ta : Option Addr) (ga : Option Addr) (gh : Nat → GH) (M : WorldM) (w : World) (hs : WA w ca ta ga gh M) (htab : Lib.TabIs Tryz.prog w "internal/strconv.uint64pow10" .u64 Lib.pow10Tab) (FA : Facts M) (NO : NumOk M) (k : Nat) (hk : k < 8) (hu : (grp M k).used = true) :
    Calls Tryz.prog 42 #[.int .i64 k, .agg #[.bool (grp M k).used, .int .i64 (grp M k).parent, .string (grp M k).name, .int .i64 (grp M k).weight, .int .i64 (grp M k).cpus, .int .i64 (grp M k).period, .int .i64 (grp M k).next, .int .i64 (grp M k).sum, .int .i64 (grp M k).band.quota, .int .i64 (grp M k).band.pool, .int .i64 (grp M k).band.spent, .slice (gh k).la (grp M k).band.locals.length (gh k).lc, .slice (gh k).da (grp M k).band.dry.length (gh k).dc, .slice (gh k).sa (grp M k).shelves.length (gh k).sc]] w fun e w' => e = .returned (.string (strB (groupT M k))) ∧ Below w.heap.size w w' := by
  have HFA := Lib.hid FA
  have HNO := Lib.hid NO
  have HU := Lib.hid hu
  have HT := Lib.hid htab
  have HS := Lib.hid hs
  have hlg : k < M.groups.length := by have := FA.tree.len; omega
  clear FA NO htab hs hu
  rw [HU.out]
  have hi0 : (0 : Int) ≤ (k : Int) := by omega
  have hi9 : (k : Int) < 9 := by omega
  go_enter Tryz.func42, Tryz.ntmps42
  go_upto_region 1 with (fail)
  refine gen1 (p := fun W => Code.wp _ _ _ _ W) ?_
  intro W2 b2 s2 kx
  have y1 := kx.cell 1
  have y2 := kx.cell 2
  have y3 := kx.cell 3
  have y4 := kx.cell 4
  have y5 := kx.cell 5
  have y6 := kx.cell 6
  have y7 := kx.cell 7
  have y8 := kx.cell 8
  have y9 := kx.cell 9
  have y10 := kx.cell 10
  have y11 := kx.cell 11
  have y12 := kx.cell 12
  have y13 := kx.cell 13
  simp at y1 y2 y3 y4 y5 y6 y7 y8 y9 y10 y11 y12 y13
  have hx := kx.lt
  have bel := Lib.hid b2
  clear kx s2 b2
  by_cases h0 : k = 0
  · have hz : ((k : Int) == 0) = true := by simp [h0]
    have hnm : (⟨#[45]⟩ : ByteArray).data.toList = nameT M k := by rw [nameT, if_pos h0]
    have hns : (⟨#[45]⟩ : ByteArray).size ≤ 8 := by decide
    have HNM := Lib.hid hnm
    clear hnm h0
    go_upto_region 5 with (go_at_call 40; refine (iRow_any _ _ _ [(k : Int), (grp M k).parent, (grp M k).weight, (grp M k).cpus, (grp M k).period, (grp M k).next, (grp M k).sum] _ (IntS.fresh0 _ _ _ rfl _) (by rw [ByteArray.size_append']; have : (⟨#[103, 114, 111, 117, 112, 32]⟩ : ByteArray).size = 6 := rfl; omega) (by simp) (HNO.out.grpF k hk HU.out) (tab_keep HT.out (bel.out.andThen ((Below.refl _ _).alloc (Nat.le_refl _) _)))).mono ?_; rintro e w3 ⟨rfl, hb3⟩; rw [head_name, show (⟨#[45]⟩ : ByteArray).data.toList = nameT M k from HNM.out, show lineB ([103, 114, 111, 117, 112, 32] ++ nameT M k) [(k : Int), (grp M k).parent, (grp M k).weight, (grp M k).cpus, (grp M k).period, (grp M k).next, (grp M k).sum] = headT M k from rfl])
    have hb3' := ((Below.refl _ W2).alloc (Nat.le_refl _) _).andThen hb3
    have y8 := (hb3'.cell (p := ⟨w.heap.size, 8, none⟩) hx).trans y8
    have y9 := (hb3'.cell (p := ⟨w.heap.size, 9, none⟩) hx).trans y9
    have y10 := (hb3'.cell (p := ⟨w.heap.size, 10, none⟩) hx).trans y10
    have y11 := (hb3'.cell (p := ⟨w.heap.size, 11, none⟩) hx).trans y11
    have y12 := (hb3'.cell (p := ⟨w.heap.size, 12, none⟩) hx).trans y12
    have y13 := (hb3'.cell (p := ⟨w.heap.size, 13, none⟩) hx).trans y13
    have hx := Nat.lt_of_lt_of_le hx hb3'.size
    have bel3 := Lib.hid (bel.out.andThen hb3')
    have WA3 := Lib.hid (HS.out.keep bel3.out)
    clear hb3 hb3' bel
    go_wp2
    go_loopw [6, 36] (fun t i wr => ∃ c : Nat, c ≤ (grp M k).shelves.length ∧ i = .int .i64 c ∧ t = .string (strB (headT M k ++ catB (shelfT M k) c)) ∧ Below w3.heap.size w3 wr) (fun _ i _ => (grp M k).shelves.length - (intOf i).toNat)
    case atStart => exact ⟨0, by omega, rfl, str_eq (by rw [catB, List.append_nil]), Below.refl _ _⟩
    case round =>
      obtain ⟨c, hc, rfl, rfl, hb⟩ := hrel
      have y8 := (hb.cell (p := ⟨w.heap.size, 8, none⟩) hx).trans y8
      have y9 := (hb.cell (p := ⟨w.heap.size, 9, none⟩) hx).trans y9
      have y10 := (hb.cell (p := ⟨w.heap.size, 10, none⟩) hx).trans y10
      have y11 := (hb.cell (p := ⟨w.heap.size, 11, none⟩) hx).trans y11
      have y12 := (hb.cell (p := ⟨w.heap.size, 12, none⟩) hx).trans y12
      have y13 := (hb.cell (p := ⟨w.heap.size, 13, none⟩) hx).trans y13
      have hx := Nat.lt_of_lt_of_le hx hb.size
      have WA4 := Lib.hid (WA3.out.keep hb)
      have HX := Lib.hid (show (headT M k ++ catB (shelfT M k) c).length ≤ 1000 by rw [List.length_append]; have := headT_len HNO.out hk HU.out; have := catB_len (f := shelfT M k) (B := 200) c (fun j hj => shelfT_len HNO.out hk HU.out (by omega)); have := HFA.out.gok.she k hk HU.out; have := HFA.out.c4; omega)
      by_cases hlt : c < (grp M k).shelves.length
      · obtain ⟨bs, os, es, hBs, f0, f1, f2, f3, f4⟩ := WA4.out.shelf_ hlg hlt
        have hc0 : (0 : Int) ≤ (c : Int) := by omega
        have hc9 : (c : Int) < 9 := by have := HFA.out.gok.she k hk HU.out; have := HFA.out.c4; omega
        have hc1 : (c : Int) < ((grp M k).shelves.length : Int) := by omega
        have ES := Lib.hid es
        clear es
        rw [ES.out]
        go_upto_region 8 with (fail)
        refine gen1 (p := fun W => Code.wp _ _ _ _ W) ?_
        intro W5 b5 s5 kz
        have z0 := kz.cell 0
        have z1 := kz.cell 1
        have z2 := kz.cell 2
        have z3 := kz.cell 3
        have z4 := kz.cell 4
        simp at z0 z1 z2 z3 z4
        have HBEL := Lib.hid (hb.andThen b5)
        have bd : Below W5.heap.size W5 W5.drew := ⟨rfl, rfl, rfl, Nat.le_refl _, fun _ _ => rfl⟩
        have q0 := fun d os => cell_regrown z0 d os
        have q1 := fun d os => cell_regrown z1 d os
        have q2 := fun d os => cell_regrown z2 d os
        have q3 := fun d os => cell_regrown z3 d os
        have q4 := fun d os => cell_regrown z4 d os
        have HC := Lib.hid (show strB (headT M k ++ catB (shelfT M k) c) ++ strB (shelfT M k c) = strB (headT M k ++ catB (shelfT M k) (c + 1)) by rw [strB_append, catB, List.append_assoc])
        have HY := Lib.hid (shelfT_len HNO.out hk HU.out hlt)
        have HSR := Lib.hid (HNO.out.sheF k c hk HU.out hlt)
        have HSH := Lib.hid (show lineB [115, 104, 101, 108, 102] [(k : Int), (c : Int), (she M k c).floor, bitM (she M k c).on, (she M k c).v, (she M k c).w, (she M k c).sum] = shelfT M k c from rfl)
        have hX1 : ((headT M k ++ catB (shelfT M k) c).length : Int) ≤ 1000 := by have := HX.out; omega
        have hY1 : ((shelfT M k c).length : Int) ≤ 200 := by have := HY.out; omega
        have HTB := Lib.hid (bel3.out.andThen HBEL.out)
        clear kz s5 f0 f1 f2 f3 f4 y8 y9 y10 y11 y12 y13 z0 z1 z2 z3 z4 b5 hb
        refine region_or [false, false, false, false, false, false, false, false, false, false, false, false, false, true, true, true, false, false] [0, 1, 2, 3, 4, 5, 6, 8, 9, 10, 11, 12, 13, 7, 14, 15, 16, 17] (by kernel_rfl) (by kernel_rfl) rfl (by kernel_rfl) (by kernel_rfl) ?_
        simp only [permL, List.getElem?_cons_zero, List.getElem?_cons_succ, Option.toList_some, List.cons_append, List.nil_append]
        repeat (first | (refine wpR_skip (by rfl) ?_; simp only [Act.put, List.setIfInBounds_toArray, List.set_cons_zero, List.set_cons_succ]) | (refine wpR_det (by rfl) (fun K hK => ?_); go_big_quiet_op; refine hK _ ?_; clear hK K))
        refine wpR_bar (by rfl) (fun K hK => ?_)
        go_big_op
        go_at_call 41
        refine (iBit_any _ _).mono ?_
        rintro e w' ⟨rfl, rfl⟩
        refine hK _ _ (regrown_of_below bd) ?_
        clear hK K
        refine wpR_bar (by rfl) (fun K hK => ?_)
        go_big_op
        refine hK _ _ (regrown_of_below (bd.andThen ((Below.refl _ _).alloc (Nat.le_refl _) _))) ?_
        clear hK K
        refine wpR_bar (by rfl) (fun K hK => ?_)
        go_big_op
        go_at_call 40
        refine (iRow_any ⟨#[115, 104, 101, 108, 102]⟩ _ _ [(k : Int), (c : Int), (she M k c).floor, bitM (she M k c).on, (she M k c).v, (she M k c).w, (she M k c).sum] _ (IntS.fresh _ _ _ rfl _) (by decide) (by simp) HSR.out (tab_keep HT.out (HTB.out.andThen (bd.andThen ((Below.refl _ _).alloc (Nat.le_refl _) _))))).mono ?_
        rintro e w6 ⟨rfl, hb6⟩
        rw [show (⟨#[115, 104, 101, 108, 102]⟩ : ByteArray).data.toList = [115, 104, 101, 108, 102] from rfl, HSH.out]
        refine hK _ _ (regrown_of_below ((bd.andThen ((Below.refl _ _).alloc (Nat.le_refl _) _)).andThen hb6)) ?_
        clear hK K
        generalize headT M k ++ catB (shelfT M k) c = X at *
        generalize shelfT M k c = Y at *
        repeat (first | (refine wpR_skip (by rfl) ?_; simp only [Act.put, List.setIfInBounds_toArray, List.set_cons_zero, List.set_cons_succ]) | (refine wpR_det (by rfl) (fun K hK => ?_); go_big_quiet_op; refine hK _ ?_; clear hK K))
        refine wpR_nil ?_
        go_wp2
        go_roundw
        case rel => exact ⟨c + 1, by omega, by go_num, str_eq HC.out, HBEL.out.andThen ((bd.andThen ((Below.refl _ _).alloc (Nat.le_refl _) _)).andThen hb6)⟩
        case measure => simp [intOf]; omega
      · have hcl : c = (grp M k).shelves.length := by omega
        have HTX := Lib.hid (show headT M k ++ catB (shelfT M k) c ++ bandT k (grp M k).band = groupT M k by rw [hcl]; rfl)
        have hge : ((grp M k).shelves.length : Int) ≤ (c : Int) := by omega
        have hdec : decide (c < (grp M k).shelves.length) = false := decide_eq_false (by omega)
        have HBEL := Lib.hid (bel3.out.andThen hb)
        clear hlt hcl hc
        have hX1 : ((headT M k ++ catB (shelfT M k) c).length : Int) ≤ 1000 := by have := HX.out; omega
        generalize headT M k ++ catB (shelfT M k) c = X at *
        by_cases hq : 0 < (grp M k).band.quota
        · have HQ := Lib.hid hq
          have hdq : decide (0 < (grp M k).band.quota) = true := decide_eq_true hq
          have HB := Lib.hid (show bandT k (grp M k).band = lineB [98, 97, 110, 100] (bandN k (grp M k).band (grp M k).band.locals.length) by rw [bandT, if_pos hq])
          have hbd := HFA.out.gok.dry k hk HU.out hq
          have HLC := Lib.hid (show (grp M k).band.locals.length ≤ 4 by have := HFA.out.c4; omega)
          have HDL := Lib.hid (show (grp M k).band.dry.length = (grp M k).band.locals.length by omega)
          clear hbd
          go_upto_region 12 with (fail)
          have HR0 := Lib.hid (World.ownsRow_lit (base := wr.heap.size) (e := 3) (size := 1) wr #[.int .i64 (k : Int), .int .i64 (grp M k).band.quota, .int .i64 (grp M k).band.pool, .int .i64 (grp M k).band.spent] 4 (Nat.le_refl _) (by decide) rfl)
          obtain ⟨i0, hi, hz0, hz1, hz2⟩ := info_parts infoInt
          have bwr : Below wr.heap.size wr (wr.alloc (.cells #[.int .i64 (k : Int), .int .i64 (grp M k).band.quota, .int .i64 (grp M k).band.pool, .int .i64 (grp M k).band.spent] 3)) := (Below.refl _ _).alloc (Nat.le_refl _) _
          have Y12 := Lib.hid y12
          have e11 := (bwr.cell (p := ⟨w.heap.size, 11, none⟩) hx).trans y11
          clear y8 y9 y10 y11 y12 y13 hq
          go_wp2
          obtain ⟨wq, hwq⟩ : ∃ wq, wr.alloc (.cells #[.int .i64 (k : Int), .int .i64 (grp M k).band.quota, .int .i64 (grp M k).band.pool, .int .i64 (grp M k).band.spent] 3) = wq := ⟨_, rfl⟩
          rw [hwq] at bwr HR0 ⊢
          clear hwq e11 hge hdec hdq
          obtain ⟨wo, hwo⟩ : ∃ wo : World, wo = wr := ⟨_, rfl⟩
          subst hwo
          go_loopw [9, 78] (fun l i wr => ∃ c2 : Nat, c2 ≤ (grp M k).band.locals.length ∧ i = .int .i64 c2 ∧ wr.ownsRow wo.heap.size 3 1 l (bandN k (grp M k).band c2).length ((bandN k (grp M k).band c2).map (Value.int .i64)) ∧ Below wo.heap.size wo wr) (fun _ i _ => (grp M k).band.locals.length - (intOf i).toNat)
          case atStart => exact ⟨0, by omega, rfl, by simpa [bandN, pairsN] using HR0.out, bwr⟩
          case round =>
            obtain ⟨c2, hc2, rfl, hown, hb2⟩ := hrel
            have e12 := (hb2.cell (p := ⟨w.heap.size, 12, none⟩) hx).trans Y12.out
            have HL2 := Lib.hid (show (bandN k (grp M k).band c2).length ≤ 12 by rw [bandN_len]; have := HLC.out; omega)
            have WA5 := Lib.hid (WA4.out.keep hb2)
            by_cases hlt2 : c2 < (grp M k).band.locals.length
            · obtain ⟨bl, ol, el, hBl, l0⟩ := WA5.out.local_ hlg hlt2
              obtain ⟨bd2, od, ed, hBd, d0⟩ := WA5.out.dry_ hlg (k := c2) (by rw [HDL.out]; exact hlt2)
              obtain ⟨lv, hlv⟩ : ∃ lv, (grp M k).band.locals.getD c2 0 = lv := ⟨_, rfl⟩
              obtain ⟨dv, hdv⟩ : ∃ dv, (grp M k).band.dry.getD c2 false = dv := ⟨_, rfl⟩
              rw [hlv] at l0
              rw [hdv] at d0
              have HLV := Lib.hid hlv
              have HDV := Lib.hid hdv
              clear hlv hdv
              rw [ed] at e12
              have EL := Lib.hid el
              have hj0 : (0 : Int) ≤ (c2 : Int) := by omega
              have hj1 : (c2 : Int) < ((grp M k).band.locals.length : Int) := by omega
              have hj9 : (c2 : Int) < 9 := by have := HLC.out; omega
              have hj2 : (c2 : Int) < ((grp M k).band.dry.length : Int) := by rw [HDL.out]; omega
              have hsz2 := hb2.size
              clear el ed
              rw [EL.out]
              go_wp2_with (first | (go_at_call 41; refine (iBit_any _ _).mono ?_; rintro e w' ⟨rfl, rfl⟩) | (at_builtin; refine wpList_append_own _ rfl _ _ 45 rfl wo.heap.size 3 i0 (.int .i64 0) 1 8 Tryz.underlying45 hi hz0 hz1 hz2 rfl (by decide) _ (bandN k (grp M k).band c2).length _ rfl (hown.alloc _) ⟨wr.heap.size, 0, none⟩ 2 2 [.int .i64 lv, .int .i64 (bitM dv)] rfl rfl (two_new _ _ _ _) (by intro u hu; simp at hu; rcases hu with rfl | rfl <;> rfl) (by unfold maxLen; have := HL2.out; omega) (by have := HL2.out; omega) (by simp; omega) ?_; intro vB w5 hownB hgrowB _))
              have hb5 : Below wo.heap.size wo w5 := (hb2.alloc hsz2 _).grown hgrowB (by simp; omega) (fun j e => (hown.lt j e).1)
              go_roundw
              case rel => exact ⟨c2 + 1, by omega, by go_num, by rw [bandN_snoc, HLV.out, HDV.out]; simpa using hownB, hb5⟩
              case measure => simp [intOf]; omega
            · have hcl : c2 = (grp M k).band.locals.length := by omega
              have hge2 : ((grp M k).band.locals.length : Int) ≤ (c2 : Int) := by omega
              have HO := Lib.hid hown
              obtain ⟨al, cl, rfl⟩ := row_form hown
              have HFB := Lib.hid (HNO.out.bandF k hk HU.out HQ.out c2 hc2)
              have HB2 := Lib.hid (show lineB [98, 97, 110, 100] (bandN k (grp M k).band c2) = bandT k (grp M k).band by rw [hcl, HB.out])
              have HY := Lib.hid (show (bandT k (grp M k).band).length ≤ 300 by rw [← HB2.out]; have := lineB_len (w := [98, 97, 110, 100]) HFB.out; have := HL2.out; simp only [List.length_cons, List.length_nil] at *; omega)
              have hY1 : ((bandT k (grp M k).band).length : Int) ≤ 300 := by have := HY.out; omega
              clear hlt2 hcl hown hc2
              go_wp2_with (go_at_call 40; refine (iRow_any ⟨#[98, 97, 110, 100]⟩ _ _ _ _ (IntS.own HO.out) (by decide) (by have := HL2.out; omega) HFB.out (tab_keep HT.out (HBEL.out.andThen hb2))).mono ?_; rintro e w6 ⟨rfl, hb6⟩; rw [show (⟨#[98, 97, 110, 100]⟩ : ByteArray).data.toList = [98, 97, 110, 100] from rfl, HB2.out])
              go_ret
              exact ⟨ret_str (by rw [strB_append, ← HTX.out]), HBEL.out.andThen (hb2.andThen hb6)⟩
        · have HB := Lib.hid (show bandT k (grp M k).band = [] by rw [bandT, if_neg hq])
          have hq2 : (grp M k).band.quota ≤ 0 := by omega
          clear hq
          go_wp2
          go_ret
          exact ⟨ret_str (by rw [← HTX.out, HB.out, List.append_nil]), HBEL.out⟩
  · have hz : ((k : Int) == 0) = false := by simp [h0]
    have hnm : ((grp M k).name : ByteArray).data.toList = nameT M k := by rw [nameT, if_neg h0]
    have hns : ((grp M k).name : ByteArray).size ≤ 8 := by exact HNO.out.nameF k hk h0 HU.out
    have HNM := Lib.hid hnm
    clear hnm h0
    go_upto_region 5 with (go_at_call 40; refine (iRow_any _ _ _ [(k : Int), (grp M k).parent, (grp M k).weight, (grp M k).cpus, (grp M k).period, (grp M k).next, (grp M k).sum] _ (IntS.fresh0 _ _ _ rfl _) (by rw [ByteArray.size_append']; have : (⟨#[103, 114, 111, 117, 112, 32]⟩ : ByteArray).size = 6 := rfl; omega) (by simp) (HNO.out.grpF k hk HU.out) (tab_keep HT.out (bel.out.andThen ((Below.refl _ _).alloc (Nat.le_refl _) _)))).mono ?_; rintro e w3 ⟨rfl, hb3⟩; rw [head_name, show ((grp M k).name : ByteArray).data.toList = nameT M k from HNM.out, show lineB ([103, 114, 111, 117, 112, 32] ++ nameT M k) [(k : Int), (grp M k).parent, (grp M k).weight, (grp M k).cpus, (grp M k).period, (grp M k).next, (grp M k).sum] = headT M k from rfl])
    have hb3' := ((Below.refl _ W2).alloc (Nat.le_refl _) _).andThen hb3
    have y8 := (hb3'.cell (p := ⟨w.heap.size, 8, none⟩) hx).trans y8
    have y9 := (hb3'.cell (p := ⟨w.heap.size, 9, none⟩) hx).trans y9
    have y10 := (hb3'.cell (p := ⟨w.heap.size, 10, none⟩) hx).trans y10
    have y11 := (hb3'.cell (p := ⟨w.heap.size, 11, none⟩) hx).trans y11
    have y12 := (hb3'.cell (p := ⟨w.heap.size, 12, none⟩) hx).trans y12
    have y13 := (hb3'.cell (p := ⟨w.heap.size, 13, none⟩) hx).trans y13
    have hx := Nat.lt_of_lt_of_le hx hb3'.size
    have bel3 := Lib.hid (bel.out.andThen hb3')
    have WA3 := Lib.hid (HS.out.keep bel3.out)
    clear hb3 hb3' bel
    go_wp2
    go_loopw [6, 36] (fun t i wr => ∃ c : Nat, c ≤ (grp M k).shelves.length ∧ i = .int .i64 c ∧ t = .string (strB (headT M k ++ catB (shelfT M k) c)) ∧ Below w3.heap.size w3 wr) (fun _ i _ => (grp M k).shelves.length - (intOf i).toNat)
    case atStart => exact ⟨0, by omega, rfl, str_eq (by rw [catB, List.append_nil]), Below.refl _ _⟩
    case round =>
      obtain ⟨c, hc, rfl, rfl, hb⟩ := hrel
      have y8 := (hb.cell (p := ⟨w.heap.size, 8, none⟩) hx).trans y8
      have y9 := (hb.cell (p := ⟨w.heap.size, 9, none⟩) hx).trans y9
      have y10 := (hb.cell (p := ⟨w.heap.size, 10, none⟩) hx).trans y10
      have y11 := (hb.cell (p := ⟨w.heap.size, 11, none⟩) hx).trans y11
      have y12 := (hb.cell (p := ⟨w.heap.size, 12, none⟩) hx).trans y12
      have y13 := (hb.cell (p := ⟨w.heap.size, 13, none⟩) hx).trans y13
      have hx := Nat.lt_of_lt_of_le hx hb.size
      have WA4 := Lib.hid (WA3.out.keep hb)
      have HX := Lib.hid (show (headT M k ++ catB (shelfT M k) c).length ≤ 1000 by rw [List.length_append]; have := headT_len HNO.out hk HU.out; have := catB_len (f := shelfT M k) (B := 200) c (fun j hj => shelfT_len HNO.out hk HU.out (by omega)); have := HFA.out.gok.she k hk HU.out; have := HFA.out.c4; omega)
      by_cases hlt : c < (grp M k).shelves.length
      · obtain ⟨bs, os, es, hBs, f0, f1, f2, f3, f4⟩ := WA4.out.shelf_ hlg hlt
        have hc0 : (0 : Int) ≤ (c : Int) := by omega
        have hc9 : (c : Int) < 9 := by have := HFA.out.gok.she k hk HU.out; have := HFA.out.c4; omega
        have hc1 : (c : Int) < ((grp M k).shelves.length : Int) := by omega
        have ES := Lib.hid es
        clear es
        rw [ES.out]
        go_upto_region 8 with (fail)
        refine gen1 (p := fun W => Code.wp _ _ _ _ W) ?_
        intro W5 b5 s5 kz
        have z0 := kz.cell 0
        have z1 := kz.cell 1
        have z2 := kz.cell 2
        have z3 := kz.cell 3
        have z4 := kz.cell 4
        simp at z0 z1 z2 z3 z4
        have HBEL := Lib.hid (hb.andThen b5)
        have bd : Below W5.heap.size W5 W5.drew := ⟨rfl, rfl, rfl, Nat.le_refl _, fun _ _ => rfl⟩
        have q0 := fun d os => cell_regrown z0 d os
        have q1 := fun d os => cell_regrown z1 d os
        have q2 := fun d os => cell_regrown z2 d os
        have q3 := fun d os => cell_regrown z3 d os
        have q4 := fun d os => cell_regrown z4 d os
        have HC := Lib.hid (show strB (headT M k ++ catB (shelfT M k) c) ++ strB (shelfT M k c) = strB (headT M k ++ catB (shelfT M k) (c + 1)) by rw [strB_append, catB, List.append_assoc])
        have HY := Lib.hid (shelfT_len HNO.out hk HU.out hlt)
        have HSR := Lib.hid (HNO.out.sheF k c hk HU.out hlt)
        have HSH := Lib.hid (show lineB [115, 104, 101, 108, 102] [(k : Int), (c : Int), (she M k c).floor, bitM (she M k c).on, (she M k c).v, (she M k c).w, (she M k c).sum] = shelfT M k c from rfl)
        have hX1 : ((headT M k ++ catB (shelfT M k) c).length : Int) ≤ 1000 := by have := HX.out; omega
        have hY1 : ((shelfT M k c).length : Int) ≤ 200 := by have := HY.out; omega
        have HTB := Lib.hid (bel3.out.andThen HBEL.out)
        clear kz s5 f0 f1 f2 f3 f4 y8 y9 y10 y11 y12 y13 z0 z1 z2 z3 z4 b5 hb
        refine region_or [false, false, false, false, false, false, false, false, false, false, false, false, false, true, true, true, false, false] [0, 1, 2, 3, 4, 5, 6, 8, 9, 10, 11, 12, 13, 7, 14, 15, 16, 17] (by kernel_rfl) (by kernel_rfl) rfl (by kernel_rfl) (by kernel_rfl) ?_
        simp only [permL, List.getElem?_cons_zero, List.getElem?_cons_succ, Option.toList_some, List.cons_append, List.nil_append]
        repeat (first | (refine wpR_skip (by rfl) ?_; simp only [Act.put, List.setIfInBounds_toArray, List.set_cons_zero, List.set_cons_succ]) | (refine wpR_det (by rfl) (fun K hK => ?_); go_big_quiet_op; refine hK _ ?_; clear hK K))
        refine wpR_bar (by rfl) (fun K hK => ?_)
        go_big_op
        go_at_call 41
        refine (iBit_any _ _).mono ?_
        rintro e w' ⟨rfl, rfl⟩
        refine hK _ _ (regrown_of_below bd) ?_
        clear hK K
        refine wpR_bar (by rfl) (fun K hK => ?_)
        go_big_op
        refine hK _ _ (regrown_of_below (bd.andThen ((Below.refl _ _).alloc (Nat.le_refl _) _))) ?_
        clear hK K
        refine wpR_bar (by rfl) (fun K hK => ?_)
        go_big_op
        go_at_call 40
        refine (iRow_any ⟨#[115, 104, 101, 108, 102]⟩ _ _ [(k : Int), (c : Int), (she M k c).floor, bitM (she M k c).on, (she M k c).v, (she M k c).w, (she M k c).sum] _ (IntS.fresh _ _ _ rfl _) (by decide) (by simp) HSR.out (tab_keep HT.out (HTB.out.andThen (bd.andThen ((Below.refl _ _).alloc (Nat.le_refl _) _))))).mono ?_
        rintro e w6 ⟨rfl, hb6⟩
        rw [show (⟨#[115, 104, 101, 108, 102]⟩ : ByteArray).data.toList = [115, 104, 101, 108, 102] from rfl, HSH.out]
        refine hK _ _ (regrown_of_below ((bd.andThen ((Below.refl _ _).alloc (Nat.le_refl _) _)).andThen hb6)) ?_
        clear hK K
        generalize headT M k ++ catB (shelfT M k) c = X at *
        generalize shelfT M k c = Y at *
        repeat (first | (refine wpR_skip (by rfl) ?_; simp only [Act.put, List.setIfInBounds_toArray, List.set_cons_zero, List.set_cons_succ]) | (refine wpR_det (by rfl) (fun K hK => ?_); go_big_quiet_op; refine hK _ ?_; clear hK K))
        refine wpR_nil ?_
        go_wp2
        go_roundw
        case rel => exact ⟨c + 1, by omega, by go_num, str_eq HC.out, HBEL.out.andThen ((bd.andThen ((Below.refl _ _).alloc (Nat.le_refl _) _)).andThen hb6)⟩
        case measure => simp [intOf]; omega
      · have hcl : c = (grp M k).shelves.length := by omega
        have HTX := Lib.hid (show headT M k ++ catB (shelfT M k) c ++ bandT k (grp M k).band = groupT M k by rw [hcl]; rfl)
        have hge : ((grp M k).shelves.length : Int) ≤ (c : Int) := by omega
        have hdec : decide (c < (grp M k).shelves.length) = false := decide_eq_false (by omega)
        have HBEL := Lib.hid (bel3.out.andThen hb)
        clear hlt hcl hc
        have hX1 : ((headT M k ++ catB (shelfT M k) c).length : Int) ≤ 1000 := by have := HX.out; omega
        generalize headT M k ++ catB (shelfT M k) c = X at *
        by_cases hq : 0 < (grp M k).band.quota
        · have HQ := Lib.hid hq
          have hdq : decide (0 < (grp M k).band.quota) = true := decide_eq_true hq
          have HB := Lib.hid (show bandT k (grp M k).band = lineB [98, 97, 110, 100] (bandN k (grp M k).band (grp M k).band.locals.length) by rw [bandT, if_pos hq])
          have hbd := HFA.out.gok.dry k hk HU.out hq
          have HLC := Lib.hid (show (grp M k).band.locals.length ≤ 4 by have := HFA.out.c4; omega)
          have HDL := Lib.hid (show (grp M k).band.dry.length = (grp M k).band.locals.length by omega)
          clear hbd
          go_upto_region 12 with (fail)
          have HR0 := Lib.hid (World.ownsRow_lit (base := wr.heap.size) (e := 3) (size := 1) wr #[.int .i64 (k : Int), .int .i64 (grp M k).band.quota, .int .i64 (grp M k).band.pool, .int .i64 (grp M k).band.spent] 4 (Nat.le_refl _) (by decide) rfl)
          obtain ⟨i0, hi, hz0, hz1, hz2⟩ := info_parts infoInt
          have bwr : Below wr.heap.size wr (wr.alloc (.cells #[.int .i64 (k : Int), .int .i64 (grp M k).band.quota, .int .i64 (grp M k).band.pool, .int .i64 (grp M k).band.spent] 3)) := (Below.refl _ _).alloc (Nat.le_refl _) _
          have Y12 := Lib.hid y12
          have e11 := (bwr.cell (p := ⟨w.heap.size, 11, none⟩) hx).trans y11
          clear y8 y9 y10 y11 y12 y13 hq
          go_wp2
          obtain ⟨wq, hwq⟩ : ∃ wq, wr.alloc (.cells #[.int .i64 (k : Int), .int .i64 (grp M k).band.quota, .int .i64 (grp M k).band.pool, .int .i64 (grp M k).band.spent] 3) = wq := ⟨_, rfl⟩
          rw [hwq] at bwr HR0 ⊢
          clear hwq e11 hge hdec hdq
          obtain ⟨wo, hwo⟩ : ∃ wo : World, wo = wr := ⟨_, rfl⟩
          subst hwo
          go_loopw [9, 78] (fun l i wr => ∃ c2 : Nat, c2 ≤ (grp M k).band.locals.length ∧ i = .int .i64 c2 ∧ wr.ownsRow wo.heap.size 3 1 l (bandN k (grp M k).band c2).length ((bandN k (grp M k).band c2).map (Value.int .i64)) ∧ Below wo.heap.size wo wr) (fun _ i _ => (grp M k).band.locals.length - (intOf i).toNat)
          case atStart => exact ⟨0, by omega, rfl, by simpa [bandN, pairsN] using HR0.out, bwr⟩
          case round =>
            obtain ⟨c2, hc2, rfl, hown, hb2⟩ := hrel
            have e12 := (hb2.cell (p := ⟨w.heap.size, 12, none⟩) hx).trans Y12.out
            have HL2 := Lib.hid (show (bandN k (grp M k).band c2).length ≤ 12 by rw [bandN_len]; have := HLC.out; omega)
            have WA5 := Lib.hid (WA4.out.keep hb2)
            by_cases hlt2 : c2 < (grp M k).band.locals.length
            · obtain ⟨bl, ol, el, hBl, l0⟩ := WA5.out.local_ hlg hlt2
              obtain ⟨bd2, od, ed, hBd, d0⟩ := WA5.out.dry_ hlg (k := c2) (by rw [HDL.out]; exact hlt2)
              obtain ⟨lv, hlv⟩ : ∃ lv, (grp M k).band.locals.getD c2 0 = lv := ⟨_, rfl⟩
              obtain ⟨dv, hdv⟩ : ∃ dv, (grp M k).band.dry.getD c2 false = dv := ⟨_, rfl⟩
              rw [hlv] at l0
              rw [hdv] at d0
              have HLV := Lib.hid hlv
              have HDV := Lib.hid hdv
              clear hlv hdv
              rw [ed] at e12
              have EL := Lib.hid el
              have hj0 : (0 : Int) ≤ (c2 : Int) := by omega
              have hj1 : (c2 : Int) < ((grp M k).band.locals.length : Int) := by omega
              have hj9 : (c2 : Int) < 9 := by have := HLC.out; omega
              have hj2 : (c2 : Int) < ((grp M k).band.dry.length : Int) := by rw [HDL.out]; omega
              have hsz2 := hb2.size
              clear el ed
              rw [EL.out]
              go_wp2_with (first | (go_at_call 41; refine (iBit_any _ _).mono ?_; rintro e w' ⟨rfl, rfl⟩) | (at_builtin; refine wpList_append_own _ rfl _ _ 45 rfl wo.heap.size 3 i0 (.int .i64 0) 1 8 Tryz.underlying45 hi hz0 hz1 hz2 rfl (by decide) _ (bandN k (grp M k).band c2).length _ rfl (hown.alloc _) ⟨wr.heap.size, 0, none⟩ 2 2 [.int .i64 lv, .int .i64 (bitM dv)] rfl rfl (two_new _ _ _ _) (by intro u hu; simp at hu; rcases hu with rfl | rfl <;> rfl) (by unfold maxLen; have := HL2.out; omega) (by have := HL2.out; omega) (by simp; omega) ?_; intro vB w5 hownB hgrowB _))
              have hb5 : Below wo.heap.size wo w5 := (hb2.alloc hsz2 _).grown hgrowB (by simp; omega) (fun j e => (hown.lt j e).1)
              go_roundw
              case rel => exact ⟨c2 + 1, by omega, by go_num, by rw [bandN_snoc, HLV.out, HDV.out]; simpa using hownB, hb5⟩
              case measure => simp [intOf]; omega
            · have hcl : c2 = (grp M k).band.locals.length := by omega
              have hge2 : ((grp M k).band.locals.length : Int) ≤ (c2 : Int) := by omega
              have HO := Lib.hid hown
              obtain ⟨al, cl, rfl⟩ := row_form hown
              have HFB := Lib.hid (HNO.out.bandF k hk HU.out HQ.out c2 hc2)
              have HB2 := Lib.hid (show lineB [98, 97, 110, 100] (bandN k (grp M k).band c2) = bandT k (grp M k).band by rw [hcl, HB.out])
              have HY := Lib.hid (show (bandT k (grp M k).band).length ≤ 300 by rw [← HB2.out]; have := lineB_len (w := [98, 97, 110, 100]) HFB.out; have := HL2.out; simp only [List.length_cons, List.length_nil] at *; omega)
              have hY1 : ((bandT k (grp M k).band).length : Int) ≤ 300 := by have := HY.out; omega
              clear hlt2 hcl hown hc2
              go_wp2_with (go_at_call 40; refine (iRow_any ⟨#[98, 97, 110, 100]⟩ _ _ _ _ (IntS.own HO.out) (by decide) (by have := HL2.out; omega) HFB.out (tab_keep HT.out (HBEL.out.andThen hb2))).mono ?_; rintro e w6 ⟨rfl, hb6⟩; rw [show (⟨#[98, 97, 110, 100]⟩ : ByteArray).data.toList = [98, 97, 110, 100] from rfl, HB2.out])
              go_ret
              exact ⟨ret_str (by rw [strB_append, ← HTX.out]), HBEL.out.andThen (hb2.andThen hb6)⟩
        · have HB := Lib.hid (show bandT k (grp M k).band = [] by rw [bandT, if_neg hq])
          have hq2 : (grp M k).band.quota ≤ 0 := by omega
          clear hq
          go_wp2
          go_ret
          exact ⟨ret_str (by rw [← HTX.out, HB.out, List.append_nil]), HBEL.out⟩
end
end Go.Proofs.YtomllcclallcdaaGreatDoor
namespace Go.Proofs.YtomllcclallcdaaGreatDoor
section
open Go.RowKit Go.Sort
section
variable {P : Program} {ops : Array Oper} {C : World → Prop} {md : Region.Mode} {Q : Exit → Act → World → Prop} {n : Nat}
theorem anyB_firstV {i : Nat} {oi : Oper} {v : Value} (hs : Region.sinkB md ops n = true) (hc : Region.chainB md ops n = true) (hn : n < ops.size) (hin : i < n) (hi : ops[i]? = some oi) (hsel : ∀ (j : Nat) (o : Oper) cs b, ops[j]? = some o → o.op ≠ .select cs b)
    (hQ : ∀ c a w, Q (.panic c) (a.put oi.dst v) w → Q (.panic c) a w) : ∀ (fuel : Nat) (listed : Array Bool) (a : Act) (w : World), HeadInv md ops n listed →
      (∀ j oj, ops[j]? = some oj → j ≠ i → listed.getD j true = false → (∀ e ∈ oj.after, Region.binds md e = true → e.on ≠ i) → oi.apart ops oj = true) →
      i ∈ Region.ready md ops listed → YieldsIf P ops C oi v a → C w →
      anyB P md ops Q C n fuel (listed.setIfInBounds i true) (a.put oi.dst v) w → anyB P md ops Q C n (fuel + 1) listed a w
  | 0, listed, a, w, _, _, hr, hy, hS, H => by
    refine ⟨fun h => (by rw [h] at hr; cases hr), fun j hj => ?_⟩
    by_cases hji : j = i
    · subst hji; exact hy.wpOp hi hS ⟨.inl hS, H⟩
    · have := ready_mono hj hji
      rw [H.1] at this
      cases this
  | fuel + 1, listed, a, w, inv, hfree, hr, hy, hS, H => by
    have hiun := (mem_ready.1 hr).1
    refine ⟨fun h => (by rw [h] at hr; cases hr), fun j hj => ?_⟩
    have hjn : j < n := by
      rcases Nat.lt_or_ge j n with h | h
      · exact h
      · exact absurd hj (tail_waits hs hc hn inv _ i rfl hin hiun j h)
    by_cases hji : j = i
    · subst hji; exact hy.wpOp hi hS ⟨.inl hS, H⟩
    · have h1 := H.2 j (ready_mono hj hji)
      obtain ⟨hjun, oj, hoj, hall⟩ := mem_ready.1 hj
      have hnot : ∀ e ∈ oj.after, Region.binds md e = true → e.on ≠ i := fun e he hb heq => by
        have h1 := hall e he hb
        rw [heq, getD_both hiun] at h1
        cases h1
      have h2 := wpOp_putIf hoj (hfree j oj hoj hji hjun hnot) (fun cs b => hsel i oi cs b hi) (fun cs b => hsel j oj cs b hoj) hQ hy h1
      have hfree' : ∀ k ok, ops[k]? = some ok → k ≠ i → (listed.setIfInBounds j true).getD k true = false →
          (∀ e ∈ ok.after, Region.binds md e = true → e.on ≠ i) → oi.apart ops ok = true := fun k ok hk hki hun hno => by
        refine hfree k ok hk hki ?_ hno
        by_cases hjk : j = k
        · subst hjk; exact hjun
        · rw [getD_set_ne true hjk] at hun; exact hun
      refine wpOp_mono (fun a' w' h3 => ?_) h2
      obtain ⟨hy3, hC3, h3⟩ := h3
      rcases hC3 with hC3 | hC3
      · refine ⟨.inl hC3, anyB_firstV hs hc hn hin hi hsel hQ fuel (listed.setIfInBounds j true) a' w' (inv.set hj hjn) hfree' (ready_mono hr (Ne.symm hji)) hy3 hC3 ?_⟩
        rw [Array.setIfInBounds_comm _ _ hji]
        exact h3
      · omega
def ordV (md : Region.Mode) (ops : Array Oper) (n : Nat) : List Nat → List Nat → Array Bool → Bool
  | _, [], listed => (Region.ready md ops listed).isEmpty
  | [], _ :: _, _ => false
  | b :: fs, i :: rest, listed => (if b = 0 then decide (i < n) && ((Region.ready md ops listed).contains i && (Region.free md ops listed i && ((ops[i]?).map plainOp).getD false))
      else (Region.ready md ops listed == [i] && (if b = 2 then decide (n ≤ i) && fs.all (· == 2) else decide (i < n)))) && ordV md ops n fs rest (listed.setIfInBounds i true)
theorem anyB_of_wpV {K : Act → World → Prop} (hsl : Region.noSelect ops = true) (hs : Region.sinkB md ops n = true) (hc : Region.chainB md ops n = true) (hn : n < ops.size) : ∀ (fs l : List Nat) (L : List Oper) (listed : Array Bool) (a : Act) (w : World), l.map (fun i => ops[i]?) = L.map some → ordV md ops n fs l listed = true → ((C w ∧ HeadInv md ops n listed) ∨ fs.all (· == 2) = true) →
    wpS P ops C K fs L a w → anyB P md ops (fun e a w => e = .normal ∧ K a w) C n l.length listed a w
  | fs, [], [], listed, a, w, _, ho, _, h => ⟨by cases fs <;> simpa [ordV] using ho, rfl, by cases fs <;> exact h⟩
  | _, [], _ :: _, _, _, _, hl, _, _, _ => by simp at hl
  | _, _ :: _, [], _, _, _, hl, _, _, _ => by simp at hl
  | [], _ :: _, _ :: _, _, _, _, _, ho, _, _ => by simp [ordV] at ho
  | b :: fs, i :: rest, o :: L, listed, a, w, hl, ho, hC, h => by
    simp only [ordV, Bool.and_eq_true] at ho
    obtain ⟨ho1, ho2⟩ := ho
    simp only [wpS] at h
    simp only [List.map_cons, List.cons.injEq] at hl
    obtain ⟨hi, hl⟩ := hl
    by_cases hb : b = 0
    · subst hb
      simp only [if_true, Bool.and_eq_true, decide_eq_true_eq] at ho1 h
      obtain ⟨hin, hr, hf, hp⟩ := ho1
      have hrd : i ∈ Region.ready md ops listed := by simpa using hr
      obtain ⟨hCw, inv⟩ : C w ∧ HeadInv md ops n listed := by
        rcases hC with hC | hC
        · exact hC
        · simp at hC
      have hp' : plainOp o = true := by simpa [hi] using hp
      by_cases hwd : Region.wanted o (yielded ops a.tmps) = true
      · simp only [hwd, if_true] at h
        obtain ⟨v, h1, h2⟩ := h
        refine anyB_firstV hs hc hn hin hi (Region.noSelect_spec hsl) (fun c a w q => by cases q.1) rest.length listed a w inv (Region.free_spec hi hf) hrd (.inl ⟨hwd, fun w' hw' => ?_⟩) hCw (anyB_of_wpV hsl hs hc hn fs rest L _ _ w hl ho2 (.inl ⟨hCw, inv.set hrd hin⟩) h2)
        have h3 := h1 w' hw'
        unfold Oper.quietAt at h3
        generalize hx : (execOp a.eval o).run P w' = r at h3
        cases r with
        | ok n w'' =>
          obtain ⟨u, rfl⟩ := plain_value hp' hx
          simp only [Oper.quietUpon] at h3
          rw [h3.1, h3.2]
        | halt x w'' => exact h3.elim
      · have hwd' : Region.wanted o (yielded ops a.tmps) = false := by simpa using hwd
        simp only [hwd', Bool.false_eq_true, if_false] at h
        exact anyB_firstV hs hc hn hin hi (Region.noSelect_spec hsl) (fun c a w q => by cases q.1) rest.length listed a w inv (Region.free_spec hi hf) hrd (.inr ⟨hwd', rfl⟩) hCw (anyB_of_wpV hsl hs hc hn fs rest L _ _ w hl ho2 (.inl ⟨hCw, inv.set hrd hin⟩) h)
    · simp only [if_neg hb, Bool.and_eq_true] at ho1 h
      obtain ⟨ho1, ht⟩ := ho1
      have hr : Region.ready md ops listed = [i] := by simpa using ho1
      have hrd : i ∈ Region.ready md ops listed := by rw [hr]; simp
      refine ⟨fun h0 => (by rw [hr] at h0; cases h0), fun j hj => ?_⟩
      obtain rfl : j = i := by rw [hr] at hj; simpa using hj
      have done : ∀ a' w', (b = 2 ∨ C w') ∧ wpS P ops C K fs L a' w' → (C w' ∨ n ≤ j) ∧ anyB P md ops (fun e a w => e = .normal ∧ K a w) C n rest.length (listed.setIfInBounds j true) a' w' := fun a' w' hh => by
        by_cases e : b = 2
        · simp only [e, if_true, Bool.and_eq_true, decide_eq_true_eq] at ht
          exact ⟨.inr ht.1, anyB_of_wpV hsl hs hc hn fs rest L _ a' w' hl ho2 (.inr ht.2) hh.2⟩
        · simp only [e, if_false, decide_eq_true_eq] at ht
          have hCw' : C w' := hh.1.resolve_left e
          rcases hC with ⟨_, inv⟩ | hC
          · exact ⟨.inl hCw', anyB_of_wpV hsl hs hc hn fs rest L _ a' w' hl ho2 (.inl ⟨hCw', inv.set hrd ht⟩) hh.2⟩
          · simp [e] at hC
      unfold wpOp
      simp only [hi]
      split
      · rename_i hwd
        simp only [hwd, if_true] at h
        refine .inl ?_
        have h2 := Oper.wp_mono done h
        unfold Oper.wp at *
        generalize (execOp a.eval o).run P w = r at *
        cases r with
        | ok n w' =>
          cases n <;> simp only [Oper.upon] at h2 ⊢ <;> first
            | exact h2
            | exact Calls.mono h2 fun e w'' he => by
                cases e with
                | returned v => exact he
                | panicked c => exact he.elim
                | outgrown => obtain ⟨_, _, q⟩ := he; exact q.elim
        | halt x w' => cases x <;> simp only [Oper.upon] at h2 ⊢ <;> exact h2.elim
      · rename_i hwd
        simp only [hwd] at h
        refine done _ _ ⟨?_, h⟩
        by_cases e : b = 2
        · exact .inl e
        · rcases hC with hC | hC
          · exact .inr hC.1
          · simp [e] at hC
end
theorem region_V {P : Program} {id : Nat} {Q : Exit → Act → World → Prop} {a : Act} {w : World} {L0 : List Oper} (n : Nat) (fs ord : List Nat) (hm : P.follows .mixedOrders = true) (hs : Region.noSelect L0.toArray = true) (hk : Region.sinkB .any L0.toArray n = true) (hc : Region.chainB .any L0.toArray n = true) (hnn : n < L0.toArray.size)
    (hn : ord.length = L0.length) (hL : ord.map (fun i => L0.toArray[i]?) = (permL L0 ord).map some) (hB : ordV .any L0.toArray n fs ord (Array.replicate L0.length false) = true)
    (h : Rgs P L0.toArray (fun w' => ∃ p : Regrown, w' = grow (redrawn w p.d) p.os) (fun a' w' => Q .normal a' w') fs (permL L0 ord) a w.drew) : (Code.region id L0.toArray true).wp P Q a w := by
  refine Code.wp_mono (Q := fun e a w => e = .normal ∧ Q .normal a w) (fun e a w hh => by obtain ⟨rfl, hh⟩ := hh; exact hh) ?_
  refine wp_region_any hm ?_
  have inv0 : HeadInv .any L0.toArray n (Array.replicate L0.length false) :=
    ⟨by simp, fun j oj _ hl => (by rw [getD_replicate_false] at hl; cases hl), fun t _ ht => getD_in (by simpa using ht) (getD_replicate_false _ _)⟩
  have := anyB_of_wpV (md := .any) hs hk hc hnn fs ord (permL L0 ord) (Array.replicate L0.length false) a w.drew hL hB (.inl ⟨⟨⟨w.drawn + 1, #[]⟩, by rw [grow_empty]; rfl⟩, inv0⟩) h.out
  rw [hn] at this
  simpa using any_of_B _ _ _ _ this
end
end Go.Proofs.YtomllcclallcdaaGreatDoor
