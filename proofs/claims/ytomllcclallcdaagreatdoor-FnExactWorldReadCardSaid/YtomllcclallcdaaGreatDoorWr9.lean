/- A part of the proof. -/
import Derived.Test.YtomllcclallcdaaGreatDoorWr8
namespace Go.Proofs.YtomllcclallcdaaGreatDoor
section
open Go.RowKit Go.Sort
theorem slStr : SlT 32 9 1 16 := slT_of (z := .string .empty) Tryz.underlying32 (by kernel_rfl) rfl
theorem slNum : SlT 45 3 1 8 := slT_of (z := .int .i64 0) Tryz.underlying45 (by kernel_rfl) rfl
def fNum (l : List Int) : Nat → Nat → Value := fun k _ => .int .i64 (l.getD k 0)
theorem fNum_snoc (l : List Int) (n : Int) : rowL (fNum (l ++ [n])) 1 (l.length + 1) = rowL (fNum l) 1 l.length ++ [.int .i64 n] := by
  rw [rowL]
  congr 1
  · exact rowL_congr fun j i hj => by simp [fNum, List.getElem?_append_left hj]
  · simp [fNum]
def fWord (l : List (List UInt8)) : Nat → Nat → Value := fun k _ => .string (strB (l.getD k []))
theorem fWord_snoc (l : List (List UInt8)) (a : List UInt8) : rowL (fWord (l ++ [a])) 1 (l.length + 1) = rowL (fWord l) 1 l.length ++ [.string (strB a)] := by
  rw [rowL]
  congr 1
  · exact rowL_congr fun j i hj => by simp [fWord, List.getElem?_append_left hj]
  · simp [fWord]
structure WordS (w : World) (A : Option Addr) (L : List (List UInt8)) : Prop where
  at_ : ∀ k (h : k < L.length), ∃ b o, A = some ⟨b, o, none⟩ ∧ b < w.heap.size ∧ w.cell? ⟨b, o + k, none⟩ = some (.string (strB L[k]))
theorem WordS.keep {w w' : World} {A : Option Addr} {L : List (List UInt8)} (h : WordS w A L) (hb : Below w.heap.size w w') : WordS w' A L := ⟨fun k hk => by
  obtain ⟨b, o, h1, h2, h3⟩ := h.at_ k hk
  exact ⟨b, o, h1, Nat.lt_of_lt_of_le h2 hb.size, (hb.cell h2).trans h3⟩⟩
theorem WordS.of_row {w : World} {B : Nat} {A : Option Addr} {L : List (List UInt8)} (h : RowR w B A 9 1 L.length (fWord L)) : WordS w A L := ⟨fun k hk => by
  obtain ⟨g, hA, hg, _, hc, _⟩ := h.cell hk (i := 0) (by omega)
  refine ⟨g, 0, hA, hg, ?_⟩
  rw [show 0 + k = k * 1 + 0 by omega, hc, fWord]
  simp [hk]⟩
theorem WordS.drop {w : World} {b o : Nat} {L : List (List UInt8)} (h : WordS w (some ⟨b, o, none⟩) L) (n : Nat) : WordS w (some ⟨b, o + n, none⟩) (L.drop n) := ⟨fun k hk => by
  rw [List.length_drop] at hk
  obtain ⟨b', o', e, h2, h3⟩ := h.at_ (n + k) (by omega)
  cases e
  refine ⟨b, o + n, rfl, h2, ?_⟩
  rw [List.getElem_drop, Nat.add_assoc]
  exact h3⟩
theorem numsO_snoc {num : List UInt8 → Option Int} {a : List UInt8} {n : Int} (h : num a = some n) : ∀ {L : List (List UInt8)} {l : List Int}, numsO num L = some l → numsO num (L ++ [a]) = some (l ++ [n])
  | [], l, e => by simp [numsO] at e; subst e; simp [numsO, h]
  | w :: r, l, e => by
    rw [numsO] at e
    split at e
    · rename_i m hm
      rw [Option.map_eq_some_iff] at e
      obtain ⟨l', hl, rfl⟩ := e
      rw [List.cons_append, numsO, hm, numsO_snoc h hl]
      rfl
    · cases e
theorem numsO_none {num : List UInt8 → Option Int} : ∀ {L : List (List UInt8)} {k : Nat} (h : k < L.length), num L[k] = none → numsO num L = none
  | [], k, h, _ => by simp at h
  | w :: r, 0, _, e => by
    have e' : num w = none := e
    rw [numsO, e']
  | w :: r, k + 1, h, e => by
    rw [numsO, numsO_none (L := r) (k := k) (by simpa using h) e]
    split <;> rfl
def NumsPost (o : Option (List Int)) (w : World) (e : Ending) (w' : World) : Prop := Below w.heap.size w w' ∧ match o with
  | some l => ∃ A c, e = .returned (.tuple #[.slice A l.length c, .bool true]) ∧ IntR w' w.heap.size A l
  | none => ∃ v, e = .returned (.tuple #[v, .bool false])
set_option maxRecDepth 100000 in
set_option maxHeartbeats 4000000 in
theorem sNums_any (A : Option Addr) (n c : Nat) (L : List (List UInt8)) (hnl : n = L.length) (m : Int) (many : Nat) (hmm : m = many) (w : World) (h : WordS w A L) (hl : L.length ≤ 20001) (hb : ∀ a ∈ L, a.length ≤ 20000) :
    Calls Tryz.prog 26 #[.slice A n c, .int .i64 m] w (NumsPost (numsN L many) w) := by
  subst hnl
  have HW := Lib.hid h
  have HBL := Lib.hid hb
  have hl0 : (L.length : Int) ≤ 20001 := by omega
  clear h hb
  by_cases hn : L.length = many
  · have hmn : m = (L.length : Int) := by omega
    have HNN := Lib.hid (show numsN L many = numsO numS L by rw [numsN, if_pos hn])
    clear hmm hn
    subst hmn
    go_enter Tryz.func26, Tryz.ntmps26
    go_wp2
    go_loopw [4, 5, 6, 7, 8, 9] (fun r4 r5 v i _ _ wr => ∃ (k : Nat) (l : List Int), r4 = .slice none 0 0 ∧ r5 = .bool false ∧ k ≤ L.length ∧ i = .int .i64 k ∧ numsO numS (L.take k) = some l ∧ wr.ownsRow w.heap.size 3 1 v l.length (rowL (fNum l) 1 l.length) ∧ Below w.heap.size w wr) (fun _ _ _ i _ _ _ => L.length - (intOf i).toNat)
    case atStart => exact ⟨0, [], rfl, rfl, Nat.zero_le _, rfl, by simp [numsO], World.ownsRow_nil _ _ _ _, Below.refl _ _⟩
    case round =>
      obtain ⟨k, l, rfl, rfl, hk, rfl, hd, ho, hbl⟩ := hrel
      have HD := Lib.hid hd
      have HO := Lib.hid ho
      have HB := Lib.hid hbl
      have hlk : l.length = k := by rw [numsO_len hd]; simp; omega
      clear hd ho hbl
      by_cases hlt : k < L.length
      · obtain ⟨b, o, rfl, hb, c0⟩ := (HW.out.keep HB.out).at_ k hlt
        have i0 : (0 : Int) ≤ (k : Int) := by omega
        have i1 : (k : Int) < (L.length : Int) := by omega
        have hsz : (strB L[k]).size ≤ 1048576 := by rw [strB_size]; have := HBL.out L[k] (List.getElem_mem hlt); omega
        have SN := Lib.hid (sNum_any (strB L[k]) wr hsz)
        have e0 : (strB L[k]).data.toList = L[k] := rfl
        rw [e0] at SN
        clear e0 hsz
        cases hq : numS L[k] with
        | none =>
          have HZ := Lib.hid (HNN.out.trans (numsO_none hlt hq))
          rw [hq] at SN
          generalize strB L[k] = s0 at *
          clear hq hlk hlt
          go_wp2_with (go_at_call 54; refine SN.out.mono ?_; rintro e w' ⟨rfl, rfl⟩)
          refine bodyPost_ret (v := .tuple #[u6, .bool false]) (by simp [results, Tryz.results26, go_sem, *]) rfl ?_
          rw [HZ.out]
          exact ⟨HB.out, _, rfl⟩
        | some n =>
          have HT := Lib.hid (show numsO numS (L.take (k + 1)) = some (l ++ [n]) by rw [List.take_succ_eq_append_getElem hlt]; exact numsO_snoc hq HD.out)
          rw [hq] at SN
          generalize strB L[k] = s0 at *
          clear hq
          have hlk2 : l.length ≤ 1048576 := by omega
          obtain ⟨g5, cap5, w5, hrun, hown5, hkeep5, _⟩ := app_one slNum (by omega) (by omega) (ty := 45) (T' := 3) HO.out HB.out.size hlk2 [.int .i64 n] rfl (by simp [Value.oneCell']) (W1 := wr.alloc (.cells #[.int .i64 n] 3)) ((Below.refl _ _).alloc (Nat.le_refl _) _) (by simp) (Blk.new wr 3 _)
          have HRUN := Lib.hid hrun
          have HOW := Lib.hid hown5
          have HKE := Lib.hid hkeep5
          have HLT := Lib.hid hlt
          clear hrun hown5 hkeep5 hlt hlk hlk2
          go_wp2_with (first | (go_at_call 54; refine SN.out.mono ?_; rintro e w' ⟨rfl, rfl⟩) | (at_builtin; refine wpList_append_run rfl rfl rfl rfl HRUN.out ?_))
          go_roundw
          case rel =>
            refine ⟨k + 1, l ++ [n], rfl, rfl, by have := HLT.out; omega, by go_num, HT.out, ?_, HB.out.trans (HKE.out.below HB.out.size fun j hj => by have := (HO.out.lt _ hj).1; omega)⟩
            rw [List.length_append, List.length_singleton, fNum_snoc]
            exact HOW.out
          case measure => have := HLT.out; simp [intOf]; omega
      · have HZ := Lib.hid (show numsN L many = some l by rw [HNN.out]; rw [List.take_of_length_le (by omega)] at HD; exact HD.out)
        obtain ⟨A', c', rfl, hR⟩ := row_of_own HO.out
        have HR := Lib.hid hR
        have i1 : (L.length : Int) ≤ (k : Int) := by omega
        clear hR hlt
        go_wp2
        refine bodyPost_ret (v := .tuple #[.slice A' l.length c', .bool true]) (by simp [results, Tryz.results26, go_sem, *]) rfl ?_
        rw [HZ.out]
        exact ⟨HB.out, A', c', rfl, HR.out⟩
  · have HZ := Lib.hid (show numsN L many = none by rw [numsN, if_neg hn])
    have hmn : ((L.length : Int) == m) = false := by rw [beq_eq_false_iff_ne]; omega
    clear hmm hn
    go_enter Tryz.func26, Tryz.ntmps26
    go_wp2
    refine bodyPost_ret (v := .tuple #[.slice none 0 0, .bool false]) (by simp [results, Tryz.results26, go_sem, *]) rfl ?_
    rw [HZ.out]
    exact ⟨Below.refl _ _, _, rfl⟩
theorem sNums_yes (A : Option Addr) (n c : Nat) (L : List (List UInt8)) (hnl : n = L.length) (m : Int) (many : Nat) (hmm : m = many) (w : World) (h : WordS w A L) (hl : L.length ≤ 20001) (hb : ∀ a ∈ L, a.length ≤ 20000) {l : List Int} (hq : numsN L many = some l) :
    Calls Tryz.prog 26 #[.slice A n c, .int .i64 m] w fun e w' => ∃ A c, e = .returned (.tuple #[.slice A l.length c, .bool true]) ∧ Below w.heap.size w w' ∧ IntR w' w.heap.size A l :=
  (sNums_any A n c L hnl m many hmm w h hl hb).mono fun e w' hp => by
    rw [hq] at hp
    obtain ⟨hb, A, c, he, hR⟩ := hp
    exact ⟨A, c, he, hb, hR⟩
theorem sNums_no (A : Option Addr) (n c : Nat) (L : List (List UInt8)) (hnl : n = L.length) (m : Int) (many : Nat) (hmm : m = many) (w : World) (h : WordS w A L) (hl : L.length ≤ 20001) (hb : ∀ a ∈ L, a.length ≤ 20000) (hq : numsN L many = none) :
    Calls Tryz.prog 26 #[.slice A n c, .int .i64 m] w fun e w' => ∃ v, e = .returned (.tuple #[v, .bool false]) ∧ Below w.heap.size w w' :=
  (sNums_any A n c L hnl m many hmm w h hl hb).mono fun e w' hp => by
    rw [hq] at hp
    obtain ⟨hb, v, he⟩ := hp
    exact ⟨v, he, hb⟩
theorem piece (s : ByteArray) (a b : Nat) : s.extract a b = strB ((s.data.toList.drop a).take (b - a)) := by
  apply ByteArray.ext
  rw [ByteArray.data_extract]
  apply Array.toList_inj.1
  rw [Array.toList_extract]
  rfl
theorem drop_at {l : List UInt8} {f k : Nat} (hf : f ≤ k) (hk : k < l.length) : l.drop f = (l.drop f).take (k - f) ++ l[k] :: l.drop (k + 1) := by
  have h1 : l.drop f = (l.drop f).take (k - f) ++ (l.drop f).drop (k - f) := (List.take_append_drop _ _).symm
  rw [List.drop_drop, show f + (k - f) = k by omega, List.drop_eq_getElem_cons hk] at h1
  exact h1
theorem cut_at {x : UInt8} {l : List UInt8} {f k : Nat} (hf : f ≤ k) (hk : k < l.length) (hx : l[k] = x) (hn : x ∉ (l.drop f).take (k - f)) : cutB x (l.drop f) = (l.drop f).take (k - f) :: cutB x (l.drop (k + 1)) := by
  have h1 := drop_at hf hk
  rw [hx] at h1
  generalize (l.drop f).take (k - f) = t at *
  rw [h1, cutB_app _ hn]
theorem take_on {x : UInt8} {l : List UInt8} {f k : Nat} (hf : f ≤ k) (hk : k < l.length) (hx : l[k] ≠ x) (hn : x ∉ (l.drop f).take (k - f)) : x ∉ (l.drop f).take (k + 1 - f) := by
  intro hm
  rw [show k + 1 - f = (k - f) + 1 by omega, List.take_succ_eq_append_getElem (by simp; omega), List.mem_append, List.mem_singleton] at hm
  rcases hm with hm | hm
  · exact hn hm
  · rw [List.getElem_drop] at hm
    exact hx (by rw [hm]; congr 1; omega)
theorem own_cap {w : World} {B : Nat} {T : TypeId} {n k c : Nat} {A : Option Addr} {xs : List Value} (h : w.ownsRow B T n (.slice A k c) k xs) : k ≤ c := by
  rcases h.2 with ⟨h1, h2⟩ | ⟨g, cap, cur, h1, _, _, h2, _⟩
  · cases h1; omega
  · cases h1; exact h2
def WordsOut (l : List (List UInt8)) (w : World) (e : Ending) (w' : World) : Prop := ∃ A c, e = .returned (.slice A l.length c) ∧ Below w.heap.size w w' ∧ RowR w' w.heap.size A 9 1 l.length (fWord l) ∧ l.length ≤ c
set_option maxRecDepth 100000 in
set_option maxHeartbeats 4000000 in
theorem sWords_any (s : ByteArray) (w : World) (hm : s.size ≤ 20000) :
    Calls Tryz.prog 25 #[.string s] w (WordsOut (cutB 32 s.data.toList) w) := by
  have hsl : s.data.toList.length = s.size := by simp
  have HSL := Lib.hid hsl
  clear hsl
  go_enter Tryz.func25, Tryz.ntmps25
  go_wp2
  go_loopw [3, 4, 5] (fun v f i wr => ∃ (k a : Nat) (l : List (List UInt8)), i = .int .i64 k ∧ f = .int .i64 a ∧ ((k ≤ s.size ∧ a ≤ k ∧ cutB 32 s.data.toList = l ++ cutB 32 (s.data.toList.drop a) ∧ (32 : UInt8) ∉ (s.data.toList.drop a).take (k - a)) ∨ (k = s.size + 1 ∧ cutB 32 s.data.toList = l)) ∧ l.length ≤ k ∧ wr.ownsRow w.heap.size 9 1 v l.length (rowL (fWord l) 1 l.length) ∧ Below w.heap.size w wr) (fun _ _ i _ => s.size + 1 - (intOf i).toNat)
  case atStart => exact ⟨0, 0, [], rfl, rfl, .inl ⟨Nat.zero_le _, Nat.le_refl _, by simp, by simp⟩, Nat.le_refl _, World.ownsRow_nil _ _ _ _, Below.refl _ _⟩
  case round =>
    obtain ⟨k, a, l, rfl, rfl, hc, hll, ho, hbl⟩ := hrel
    have HO := Lib.hid ho
    have HB := Lib.hid hbl
    have i0 : (0 : Int) ≤ (k : Int) := by omega
    clear ho hbl
    rcases hc with ⟨hk, ha, hcut, hno⟩ | ⟨hk, hcut⟩
    · have HC := Lib.hid hcut
      have HN := Lib.hid hno
      have HLL := Lib.hid hll
      have HA := Lib.hid ha
      have HK := Lib.hid hk
      have hln : l.length ≤ 1048576 := by omega
      have a0 : (0 : Int) ≤ (a : Int) := by omega
      have a1 : (a : Int) ≤ (k : Int) := by omega
      have i2 : (k : Int) ≤ (s.size : Int) := by omega
      clear hcut hno hll
      by_cases hlt : k < s.size
      · have hlt' : k < s.data.toList.length := by rw [HSL.out]; exact hlt
        have hsk : s.data.toList[k] = s[k] := by simp [ByteArray.getElem_eq_getElem_data]
        have HSK := Lib.hid hsk
        have i1 : (k : Int) < (s.size : Int) := by omega
        have i3 : ((k : Int) == (s.size : Int)) = false := by rw [beq_eq_false_iff_ne]; omega
        clear hsk
        by_cases hz : (s[k].toNat : Int) = 32
        · have HE := Lib.hid (show cutB 32 s.data.toList = (l ++ [(s.data.toList.drop a).take (k - a)]) ++ cutB 32 (s.data.toList.drop (k + 1)) by rw [HC.out, cut_at HA.out hlt' (by rw [HSK.out]; exact byte_eq hz) HN.out]; simp)
          obtain ⟨g5, cap5, w5, hrun, hown5, hkeep5, _⟩ := app_one slStr (by omega) (by omega) (ty := 32) (T' := 9) HO.out HB.out.size hln [.string (s.extract a k)] rfl (by simp [Value.oneCell']) (W1 := wr.alloc (.cells #[.string (s.extract a k)] 9)) ((Below.refl _ _).alloc (Nat.le_refl _) _) (by simp) (Blk.new wr 9 _)
          have HRUN := Lib.hid hrun
          have HOW := Lib.hid hown5
          have HKE := Lib.hid hkeep5
          clear hrun hown5 hkeep5
          clear hk ha
          go_wp2_with (at_builtin; refine wpList_append_run rfl rfl rfl rfl HRUN.out ?_)
          go_roundw
          case rel =>
            refine ⟨k + 1, k + 1, l ++ [(s.data.toList.drop a).take (k - a)], by go_num, by go_num, .inl ⟨by omega, Nat.le_refl _, HE.out, by simp⟩, by have := HLL.out; simp; omega, ?_, HB.out.trans (HKE.out.below HB.out.size fun j hj => by have := (HO.out.lt _ hj).1; omega)⟩
            rw [List.length_append, List.length_singleton, fWord_snoc, ← piece]
            exact HOW.out
          case measure => simp [intOf]; omega
        · have HE := Lib.hid (show (32 : UInt8) ∉ (s.data.toList.drop a).take (k + 1 - a) from take_on HA.out hlt' (by rw [HSK.out]; intro e; apply hz; rw [e]; rfl) HN.out)
          have hz2 : ((s[k].toNat : Int) == 32) = false := by rw [beq_eq_false_iff_ne]; exact hz
          clear hk ha
          go_wp2
          go_roundw
          case rel => exact ⟨k + 1, a, l, by go_num, rfl, .inl ⟨by omega, by have := HA.out; omega, HC.out, HE.out⟩, by have := HLL.out; omega, HO.out, HB.out⟩
          case measure => simp [intOf]; omega
      · have hks : k = s.size := by omega
        have HE := Lib.hid (show cutB 32 s.data.toList = l ++ [(s.data.toList.drop a).take (k - a)] by
          have hn := HN.out
          rw [List.take_of_length_le (by rw [List.length_drop, HSL.out]; omega)] at hn ⊢
          rw [HC.out, cutB_none hn])
        have HKS := Lib.hid hks
        have i3 : ((k : Int) == (s.size : Int)) = true := by rw [beq_iff_eq]; omega
        obtain ⟨g5, cap5, w5, hrun, hown5, hkeep5, _⟩ := app_one slStr (by omega) (by omega) (ty := 32) (T' := 9) HO.out HB.out.size hln [.string (s.extract a k)] rfl (by simp [Value.oneCell']) (W1 := wr.alloc (.cells #[.string (s.extract a k)] 9)) ((Below.refl _ _).alloc (Nat.le_refl _) _) (by simp) (Blk.new wr 9 _)
        have HRUN := Lib.hid hrun
        have HOW := Lib.hid hown5
        have HKE := Lib.hid hkeep5
        clear hrun hown5 hkeep5
        clear hks hlt hk ha
        go_wp2_with (at_builtin; refine wpList_append_run rfl rfl rfl rfl HRUN.out ?_)
        go_roundw
        case rel =>
          refine ⟨k + 1, k + 1, l ++ [(s.data.toList.drop a).take (k - a)], by go_num, by go_num, .inr ⟨by have := HKS.out; omega, HE.out⟩, by have := HLL.out; simp; omega, ?_, HB.out.trans (HKE.out.below HB.out.size fun j hj => by have := (HO.out.lt _ hj).1; omega)⟩
          rw [List.length_append, List.length_singleton, fWord_snoc, ← piece]
          exact HOW.out
        case measure => have := HK.out; simp [intOf]; omega
    · obtain ⟨A', c', rfl, hR⟩ := row_of_own HO.out
      have HR := Lib.hid hR
      have HCP := Lib.hid (own_cap HO.out)
      have i1 : (s.size : Int) < (k : Int) := by omega
      subst hcut
      clear hR hk hll
      go_wp2
      refine bodyPost_ret (v := .slice A' (cutB 32 s.data.toList).length c') (by simp [results, Tryz.results25, go_sem, *]) rfl ⟨A', c', rfl, HB.out, HR.out, HCP.out⟩
set_option maxRecDepth 100000 in
set_option maxHeartbeats 4000000 in
theorem sLines_any (s : ByteArray) (w : World) (hm : s.size ≤ 20000) :
    Calls Tryz.prog 9 #[.string s] w (WordsOut (linesSp s.data.toList) w) := by
  have hsl : s.data.toList.length = s.size := by simp
  have HSL := Lib.hid hsl
  clear hsl
  go_enter Tryz.func9, Tryz.ntmps9
  go_wp2
  go_loopw [3, 4, 5] (fun v f i wr => ∃ (k a : Nat) (l : List (List UInt8)), i = .int .i64 k ∧ f = .int .i64 a ∧ k ≤ s.size ∧ a ≤ k ∧ cutB 10 s.data.toList = l ++ cutB 10 (s.data.toList.drop a) ∧ (10 : UInt8) ∉ (s.data.toList.drop a).take (k - a) ∧ l.length ≤ k ∧ wr.ownsRow w.heap.size 9 1 v l.length (rowL (fWord l) 1 l.length) ∧ Below w.heap.size w wr) (fun _ _ i _ => s.size - (intOf i).toNat)
  case atStart => exact ⟨0, 0, [], rfl, rfl, Nat.zero_le _, Nat.le_refl _, by simp, by simp, Nat.le_refl _, World.ownsRow_nil _ _ _ _, Below.refl _ _⟩
  case round =>
    obtain ⟨k, a, l, rfl, rfl, hk, ha, hcut, hno, hll, ho, hbl⟩ := hrel
    have HO := Lib.hid ho
    have HB := Lib.hid hbl
    have i0 : (0 : Int) ≤ (k : Int) := by omega
    clear ho hbl
    have HC := Lib.hid hcut
    have HN := Lib.hid hno
    have HLL := Lib.hid hll
    have HA := Lib.hid ha
    have HK := Lib.hid hk
    have hln : l.length ≤ 1048576 := by omega
    have a0 : (0 : Int) ≤ (a : Int) := by omega
    have a1 : (a : Int) ≤ (k : Int) := by omega
    have i2 : (k : Int) ≤ (s.size : Int) := by omega
    clear hcut hno hll
    by_cases hlt : k < s.size
    · have hlt' : k < s.data.toList.length := by rw [HSL.out]; exact hlt
      have hsk : s.data.toList[k] = s[k] := by simp [ByteArray.getElem_eq_getElem_data]
      have HSK := Lib.hid hsk
      have i1 : (k : Int) < (s.size : Int) := by omega
      clear hsk
      by_cases hz : (s[k].toNat : Int) = 10
      · have HE := Lib.hid (show cutB 10 s.data.toList = (l ++ [(s.data.toList.drop a).take (k - a)]) ++ cutB 10 (s.data.toList.drop (k + 1)) by rw [HC.out, cut_at HA.out hlt' (by rw [HSK.out]; exact byte_eq hz) HN.out]; simp)
        obtain ⟨g5, cap5, w5, hrun, hown5, hkeep5, _⟩ := app_one slStr (by omega) (by omega) (ty := 32) (T' := 9) HO.out HB.out.size hln [.string (s.extract a k)] rfl (by simp [Value.oneCell']) (W1 := wr.alloc (.cells #[.string (s.extract a k)] 9)) ((Below.refl _ _).alloc (Nat.le_refl _) _) (by simp) (Blk.new wr 9 _)
        have HRUN := Lib.hid hrun
        have HOW := Lib.hid hown5
        have HKE := Lib.hid hkeep5
        clear hrun hown5 hkeep5
        clear hk ha
        go_wp2_with (at_builtin; refine wpList_append_run rfl rfl rfl rfl HRUN.out ?_)
        go_roundw
        case rel =>
          refine ⟨k + 1, k + 1, l ++ [(s.data.toList.drop a).take (k - a)], by go_num, by go_num, by omega, Nat.le_refl _, HE.out, by simp, by have := HLL.out; simp; omega, ?_, HB.out.trans (HKE.out.below HB.out.size fun j hj => by have := (HO.out.lt _ hj).1; omega)⟩
          rw [List.length_append, List.length_singleton, fWord_snoc, ← piece]
          exact HOW.out
        case measure => simp [intOf]; omega
      · have HE := Lib.hid (show (10 : UInt8) ∉ (s.data.toList.drop a).take (k + 1 - a) from take_on HA.out hlt' (by rw [HSK.out]; intro e; apply hz; rw [e]; rfl) HN.out)
        have hz2 : ((s[k].toNat : Int) == 10) = false := by rw [beq_eq_false_iff_ne]; exact hz
        clear hk ha
        go_wp2
        go_roundw
        case rel => exact ⟨k + 1, a, l, by go_num, rfl, by omega, by have := HA.out; omega, HC.out, HE.out, by have := HLL.out; omega, HO.out, HB.out⟩
        case measure => simp [intOf]; omega
    · have hks : k = s.size := by omega
      have HE := Lib.hid (show cutB 10 s.data.toList = l ++ [s.data.toList.drop a] by
        have hn := HN.out
        rw [List.take_of_length_le (by rw [List.length_drop, HSL.out]; omega)] at hn
        rw [HC.out, cutB_none hn])
      by_cases hf : a < s.size
      · have hne : ¬ (l ++ [s.data.toList.drop a]).getLast? = some [] := fun e => by
          rw [List.getLast?_append, List.getLast?_singleton] at e
          have e2 : s.data.toList.drop a = [] := by simpa using e
          rw [List.drop_eq_nil_iff, HSL.out] at e2
          omega
        have HL := Lib.hid (show linesSp s.data.toList = l ++ [s.data.toList.drop a] by rw [linesSp, HE.out, if_neg hne])
        clear hne
        have a2 : (a : Int) < (s.size : Int) := by omega
        have i9 : (s.size : Int) ≤ (k : Int) := by omega
        go_upto_region 10 with (fail)
        obtain ⟨g5, cap5, w5, hrun, hown5, hkeep5, _⟩ := app_one slStr (by omega) (by omega) (ty := 32) (T' := 9) HO.out HB.out.size hln [.string (s.extract a s.size)] rfl (by simp [Value.oneCell']) (W1 := wr.alloc (.cells #[.string (s.extract a s.size)] 9)) ((Below.refl _ _).alloc (Nat.le_refl _) _) (by simp) (Blk.new wr 9 _)
        have HRUN := Lib.hid hrun
        have HOW := Lib.hid hown5
        have HKE := Lib.hid hkeep5
        clear hrun hown5 hkeep5
        have HR2 := Lib.hid (show w5.ownsRow w.heap.size 9 1 (.slice (some ⟨g5, 0, none⟩) (l.length + 1 : Nat) cap5) (l.length + 1) (rowL (fWord (l ++ [s.data.toList.drop a])) 1 (l.length + 1)) by rw [fWord_snoc]; have h2 := HOW.out; rw [piece, List.take_of_length_le (by rw [List.length_drop, HSL.out]; omega)] at h2; exact h2)
        obtain ⟨A', c', hv, hR⟩ := row_of_own HR2.out
        cases hv
        have HR := Lib.hid hR
        have HBB := Lib.hid (HB.out.trans (HKE.out.below HB.out.size fun j hj => by have := (HO.out.lt _ hj).1; omega))
        clear hR hks hlt hk ha hf
        go_wp2_with (at_builtin; refine wpList_append_run rfl rfl rfl rfl HRUN.out ?_)
        refine bodyPost_ret (v := .slice (some ⟨g5, 0, none⟩) (l.length + 1 : Nat) cap5) (by simp [results, Tryz.results9, go_sem, *]) rfl ?_
        rw [HL.out]
        refine ⟨some ⟨g5, 0, none⟩, cap5, by rw [List.length_append, List.length_singleton], HBB.out, ?_⟩
        rw [List.length_append, List.length_singleton]
        exact ⟨HR.out, own_cap HR2.out⟩
      · have HL := Lib.hid (show linesSp s.data.toList = l by rw [linesSp, HE.out, show s.data.toList.drop a = [] from List.drop_eq_nil_iff.2 (by rw [HSL.out]; omega), if_pos (by simp)]; simp)
        have a2 : (s.size : Int) ≤ (a : Int) := by omega
        obtain ⟨A', c', rfl, hR⟩ := row_of_own HO.out
        have HR := Lib.hid hR
        have HCP := Lib.hid (own_cap HO.out)
        have i1 : (s.size : Int) ≤ (k : Int) := by omega
        clear hR hks hlt hk ha hf
        go_wp2
        refine bodyPost_ret (v := .slice A' l.length c') (by simp [results, Tryz.results9, go_sem, *]) rfl ?_
        rw [HL.out]
        exact ⟨A', c', rfl, HB.out, HR.out, HCP.out⟩
end
end Go.Proofs.YtomllcclallcdaaGreatDoor
namespace Go.Proofs.YtomllcclallcdaaGreatDoor
section
open Go.RowKit Go.Sort
theorem genR {p : World → Prop} {w : World} (h : ∀ W, w = W → p W) : p w := h w rfl
theorem sPlace_any (ca ta ga : Option Addr) (cc tc gc : Nat) (gh : Nat → GH) (M : WorldM) (w : World) (hs : WA w ca ta ga gh M) (g : Int) :
    Calls Tryz.prog 28 #[.agg #[.int .i64 M.now, .slice ca M.cpus.length cc, .slice ta M.tasks.length tc, .slice ga M.groups.length gc], .int .i64 g] w fun e w' => e = .returned (.bool (usedI M g)) ∧ Below w.heap.size w w' := by
  go_enter Tryz.func28, Tryz.ntmps28
  go_upto_region 1 with (fail)
  refine gen1 (p := fun W => Code.wp _ _ _ _ W) ?_
  intro W b1 s1 k0
  have hs1 := hs.keep b1
  have c3 := k0.cell 3
  simp at c3
  go_wp2_with (go_at_call 55; refine (sl6Used_any ca ta ga gc gh M _ hs1 g).mono ?_; rintro e w' ⟨rfl, rfl⟩)
  go_ret
  exact ⟨rfl, b1⟩
def LPost (bt bg : Nat) (ca : Option Addr) (cc tc gc : Nat) (gh : Nat → GH) (X : WorldM) (B : Nat) (o : Option WorldM) (w : World) (e : Ending) (w' : World) : Prop :=
  Keep (Has ca (some ⟨bt, 0, none⟩) (some ⟨bg, 0, none⟩) gh X.groups.length) w w' ∧ match o with
  | some X' => ∃ (ca' : Option Addr) (cc' : Nat) (gh' : Nat → GH), e = .returned (.tuple #[.agg #[.int .i64 X'.now, .slice ca' X'.cpus.length cc', .slice (some ⟨bt, 0, none⟩) X'.tasks.length tc, .slice (some ⟨bg, 0, none⟩) X'.groups.length gc], .bool true]) ∧
      OwnR w' B ca' cc' (some ⟨bt, 0, none⟩) (some ⟨bg, 0, none⟩) gh' X' ∧ ∀ g, Has ca' (some ⟨bt, 0, none⟩) (some ⟨bg, 0, none⟩) gh' X'.groups.length g → Has ca (some ⟨bt, 0, none⟩) (some ⟨bg, 0, none⟩) gh X.groups.length g ∨ w.heap.size ≤ g
  | none => e = .returned (.tuple #[.agg #[.int .i64 X.now, .slice ca X.cpus.length cc, .slice (some ⟨bt, 0, none⟩) X.tasks.length tc, .slice (some ⟨bg, 0, none⟩) X.groups.length gc], .bool false])
def fBool (l : List Bool) : Nat → Nat → Value := fun k _ => .bool (l.getD k false)
theorem fBool_snoc (l : List Bool) (n : Bool) : rowL (fBool (l ++ [n])) 1 (l.length + 1) = rowL (fBool l) 1 l.length ++ [.bool n] := by
  rw [rowL]
  congr 1
  · exact rowL_congr fun j i hj => by simp [fBool, List.getElem?_append_left hj]
  · simp [fBool]
theorem slBo : SlT 51 4 1 1 := slT_of (z := .bool false) Tryz.underlying51 (by kernel_rfl) rfl
structure BI (K : Nat) (q p s : Int) (w wr : World) (ll : List Int) (dd : List Bool) (vl vd : Value) : Prop where
  bk : Blk wr K 53 #[.int .i64 q, .int .i64 p, .int .i64 s, vl, vd]
  rl : wr.ownsRow (K + 1) 3 1 vl ll.length (rowL (fNum ll) 1 ll.length)
  rd : wr.ownsRow (K + 1) 4 1 vd dd.length (rowL (fBool dd) 1 dd.length)
  bel : Below w.heap.size w wr
  kw : w.heap.size ≤ K
theorem BI.locals {K : Nat} {q p s : Int} {w wr w5 : World} {ll : List Int} {dd : List Bool} {vl vd u : Value} (n : Int) (I : BI K q p s w wr ll dd vl vd) (hk : Keep (fun j => vl.ownBlock = some j) wr w5) (ho : w5.ownsRow (K + 1) 3 1 u (ll.length + 1) (rowL (fNum ll) 1 ll.length ++ [.int .i64 n])) :
    BI K q p s w (w5.setCell ⟨K, 3, none⟩ u) (ll ++ [n]) dd u vd :=
  ⟨(hk.blk I.bk (own_far I.rl (by omega))).set_ 3 u, by rw [List.length_append, List.length_singleton, fNum_snoc]; exact own_set ho (by omega) _, own_set (own_keep I.rd hk (own_ne I.rd I.rl (by decide))) (by omega) _,
   (I.bel.trans ((hk.below (B := w.heap.size) I.bel.size fun j hj => by have := (I.rl.lt _ hj).1; have := I.kw; omega))).setCell (by have := I.kw; simp; omega) _, I.kw⟩
theorem BI.dry {K : Nat} {q p s : Int} {w wr w5 : World} {ll : List Int} {dd : List Bool} {vl vd u : Value} (n : Bool) (I : BI K q p s w wr ll dd vl vd) (hk : Keep (fun j => vd.ownBlock = some j) wr w5) (ho : w5.ownsRow (K + 1) 4 1 u (dd.length + 1) (rowL (fBool dd) 1 dd.length ++ [.bool n])) :
    BI K q p s w (w5.setCell ⟨K, 4, none⟩ u) ll (dd ++ [n]) vl u :=
  ⟨(hk.blk I.bk (own_far I.rd (by omega))).set_ 4 u, own_set (own_keep I.rl hk (own_ne I.rl I.rd (by decide))) (by omega) _, by rw [List.length_append, List.length_singleton, fBool_snoc]; exact own_set ho (by omega) _,
   (I.bel.trans ((hk.below (B := w.heap.size) I.bel.size fun j hj => by have := (I.rd.lt _ hj).1; have := I.kw; omega))).setCell (by have := I.kw; simp; omega) _, I.kw⟩
def locN (l : List Int) (n : Nat) : List Int := (List.range n).map fun i => gI l (4 + 2 * i)
def dryN (l : List Int) (n : Nat) : List Bool := (List.range n).map fun i => gI l (5 + 2 * i) == 1
theorem locN_len (l : List Int) (n : Nat) : (locN l n).length = n := by simp [locN]
theorem dryN_len (l : List Int) (n : Nat) : (dryN l n).length = n := by simp [dryN]
theorem locN_succ (l : List Int) (n : Nat) : locN l (n + 1) = locN l n ++ [gI l (4 + 2 * n)] := by simp [locN, List.range_succ]
theorem dryN_succ (l : List Int) (n : Nat) : dryN l (n + 1) = dryN l n ++ [gI l (5 + 2 * n) == 1] := by simp [dryN, List.range_succ]
theorem int_at {w : World} {B : Nat} {A : Option Addr} {l : List Int} (h : IntR w B A l) {i : Nat} (hi : i < l.length) : ∃ g, A = some ⟨g, 0, none⟩ ∧ g < w.heap.size ∧ B ≤ g ∧ w.cell? ⟨g, i, none⟩ = some (.int .i64 (gI l i)) := by
  obtain ⟨g, h1, h2, h3, h4, _⟩ := h.cell hi (i := 0) (by omega)
  rw [show i * 1 + 0 = i by omega] at h4
  exact ⟨g, h1, h2, h3, h4⟩
theorem has_set {ca ta ga : Option Addr} {gh : Nat → GH} {n k N : Nat} {x : GH} (hk : k < n) (hl : ∀ g, x.la = some ⟨g, 0, none⟩ → (gh k).la = some ⟨g, 0, none⟩ ∨ N ≤ g) (hd : ∀ g, x.da = some ⟨g, 0, none⟩ → (gh k).da = some ⟨g, 0, none⟩ ∨ N ≤ g) (hs : ∀ g, x.sa = some ⟨g, 0, none⟩ → (gh k).sa = some ⟨g, 0, none⟩ ∨ N ≤ g)
    {g : Nat} (h : Has ca ta ga (hset gh k x) n g) : Has ca ta ga gh n g ∨ N ≤ g := by
  rcases h with h | h | h | ⟨j, hj, h⟩
  · exact .inl (.inl h)
  · exact .inl (.inr (.inl h))
  · exact .inl (.inr (.inr (.inl h)))
  · by_cases e : j = k
    · subst e
      rw [hset_same] at h
      rcases h with h | h | h
      · exact (hl g h).imp_left fun h => .inr (.inr (.inr ⟨j, hj, .inl h⟩))
      · exact (hd g h).imp_left fun h => .inr (.inr (.inr ⟨j, hj, .inr (.inl h)⟩))
      · exact (hs g h).imp_left fun h => .inr (.inr (.inr ⟨j, hj, .inr (.inr h)⟩))
    · rw [hset_other _ _ e] at h
      exact .inl (.inr (.inr (.inr ⟨j, hj, h⟩)))
theorem numsN_len {ws : List (List UInt8)} {m : Nat} {l : List Int} (h : numsN ws m = some l) : l.length = m := by
  unfold numsN at h
  split at h
  · rw [numsO_len h]; assumption
  · cases h
set_option maxRecDepth 100000 in
set_option maxHeartbeats 4000000 in
theorem sBand_none (bt bg : Nat) (ca : Option Addr) (cc tc gc : Nat) (gh : Nat → GH) (X : WorldM) (B : Nat) (w : World) (h : OwnR w B ca cc (some ⟨bt, 0, none⟩) (some ⟨bg, 0, none⟩) gh X) (hf : RFit X) (hB : B ≤ w.heap.size) (A : Option Addr) (n c : Nat) (L : List (List UInt8)) (hn : n = L.length) (hw : WordS w A L) (hl : L.length ≤ 20001) (hb : ∀ a ∈ L, a.length ≤ 20000) (hq : numsN L (4 + 2 * X.cpus.length) = none) :
    Calls Tryz.prog 29 #[.agg #[.int .i64 X.now, .slice ca X.cpus.length cc, .slice (some ⟨bt, 0, none⟩) X.tasks.length tc, .slice (some ⟨bg, 0, none⟩) X.groups.length gc], .slice A n c] w (LPost bt bg ca cc tc gc gh X B none w) := by
  subst hn
  have hc4 := hf.cpu
  have HG8 := Lib.hid hf.gl
  have hc0 : (X.cpus.length : Int) ≤ 4 := by omega
  have WW := Lib.hid hw
  have HBL := Lib.hid hb
  clear hw hb
  have HQ := Lib.hid hq
  clear hq
  have SN := Lib.hid (fun (W : World) (hW : WordS W A L) => sNums_no A L.length c L rfl (4 + 2 * (X.cpus.length : Int)) (4 + 2 * X.cpus.length) (by omega) W hW hl HBL.out HQ.out)
  go_enter Tryz.func29, Tryz.ntmps29
  go_upto_region 1 with (fail)
  refine gen2 (p := fun W => Code.wp _ _ _ _ W) ?_
  intro W b1 s1 k0 k1
  have B1 := Lib.hid b1
  have K0 := Lib.hid k0
  have K1 := Lib.hid k1
  have S1 := Lib.hid s1
  have OW1 := Lib.hid (h.below b1)
  clear b1 k0 k1 s1 h
  have c0 := K0.out.cell 0
  have c1 := K0.out.cell 1
  have c2 := K0.out.cell 2
  have c3 := K0.out.cell 3
  have cf := fun i => K0.out.frozen i
  simp at c0 c1 c2 c3
  go_upto_region 2 with (go_at_call 26; refine (SN.out _ (WW.out.keep B1.out)).mono ?_; rintro e w2 ⟨v, rfl, hb2⟩)
  have K0b := Lib.hid (K0.out.below hb2 K0.out.lt)
  have K1b := Lib.hid (K1.out.below hb2 K1.out.lt)
  have KE := Lib.hid (Keep.of_below (S := Has ca (some ⟨bt, 0, none⟩) (some ⟨bg, 0, none⟩) gh X.groups.length) (B1.out.andThen hb2))
  clear hb2 K0 K1 OW1 B1
  clear c0 c1 c2 c3 cf
  refine region_by [false, false, false, false, false, false, false, true, false, false] (by kernel_rfl) (by kernel_rfl) (by kernel_rfl) ?_
  repeat (first | (refine wpR_skip (by rfl) ?_; simp only [Act.put, List.setIfInBounds_toArray, List.set_cons_zero, List.set_cons_succ]) | (refine wpR_det (by rfl) (fun K hK => ?_); go_big_quiet_op; refine hK _ ?_; clear hK K))
  refine wpR_nil ?_
  go_upto_region 3 with (fail)
  have K0c := Lib.hid (K0b.out.below (Below.refl _ _).drew K0b.out.lt)
  have K1c := Lib.hid (K1b.out.below (Below.refl _ _).drew K1b.out.lt)
  have KE2 := Lib.hid (KE.out.trans (Keep.of_below (Below.refl _ _).drew))
  generalize w2.drew = w3 at *
  clear K0b K1b KE
  have c0 := K0c.out.cell 0
  have c1 := K0c.out.cell 1
  have c2 := K0c.out.cell 2
  have c3 := K0c.out.cell 3
  have cf := fun i => K0c.out.frozen i
  simp at c0 c1 c2 c3
  have d0 := K1c.out.cell 0
  have d1 := K1c.out.cell 1
  have d2 := K1c.out.cell 2
  have d3 := K1c.out.cell 3
  have df := fun i => K1c.out.frozen i
  simp at d0 d1 d2 d3
  go_wp2
  have kk := Lib.hid (show Keep (fun i => i = w.heap.size + 1) w3 ((((w3.setCell ⟨w.heap.size + 1, 0, none⟩ (.int .i64 X.now)).setCell ⟨w.heap.size + 1, 1, none⟩ (.slice ca X.cpus.length cc)).setCell ⟨w.heap.size + 1, 2, none⟩ (.slice (some ⟨bt, 0, none⟩) X.tasks.length tc)).setCell ⟨w.heap.size + 1, 3, none⟩ (.slice (some ⟨bg, 0, none⟩) X.groups.length gc)) from ((((Keep.set _ _ _ (by rfl)).trans (Keep.set _ _ _ (by rfl))).trans (Keep.set _ _ _ (by rfl))).trans (Keep.set _ _ _ (by rfl))))
  refine bodyPost_ret (v := .tuple #[.agg #[.int .i64 X.now, .slice ca X.cpus.length cc, .slice (some ⟨bt, 0, none⟩) X.tasks.length tc, .slice (some ⟨bg, 0, none⟩) X.groups.length gc], .bool false]) (by simp [results, Tryz.results29, go_sem, *]) rfl ⟨?_, rfl⟩
  exact Keep.then_ (S' := fun i => i = w.heap.size + 1) KE2.out kk.out fun i hi e => by omega
set_option maxRecDepth 100000 in
set_option maxHeartbeats 4000000 in
theorem sBand_off (bt bg : Nat) (ca : Option Addr) (cc tc gc : Nat) (gh : Nat → GH) (X : WorldM) (B : Nat) (w : World) (h : OwnR w B ca cc (some ⟨bt, 0, none⟩) (some ⟨bg, 0, none⟩) gh X) (hf : RFit X) (hB : B ≤ w.heap.size) (A : Option Addr) (n c : Nat) (L : List (List UInt8)) (hn : n = L.length) (hw : WordS w A L) (hl : L.length ≤ 20001) (hb : ∀ a ∈ L, a.length ≤ 20000) {l : List Int} (hq : numsN L (4 + 2 * X.cpus.length) = some l) (hu : usedI X (gI l 0) = false) :
    Calls Tryz.prog 29 #[.agg #[.int .i64 X.now, .slice ca X.cpus.length cc, .slice (some ⟨bt, 0, none⟩) X.tasks.length tc, .slice (some ⟨bg, 0, none⟩) X.groups.length gc], .slice A n c] w (LPost bt bg ca cc tc gc gh X B none w) := by
  subst hn
  have hc4 := hf.cpu
  have HG8 := Lib.hid hf.gl
  have hc0 : (X.cpus.length : Int) ≤ 4 := by omega
  have WW := Lib.hid hw
  have HBL := Lib.hid hb
  clear hw hb
  have HQ := Lib.hid hq
  have HU := Lib.hid hu
  clear hq hu
  have SN := Lib.hid (fun (W : World) (hW : WordS W A L) => sNums_yes A L.length c L rfl (4 + 2 * (X.cpus.length : Int)) (4 + 2 * X.cpus.length) (by omega) W hW hl HBL.out HQ.out)
  go_enter Tryz.func29, Tryz.ntmps29
  go_upto_region 1 with (fail)
  refine gen2 (p := fun W => Code.wp _ _ _ _ W) ?_
  intro W b1 s1 k0 k1
  have B1 := Lib.hid b1
  have K0 := Lib.hid k0
  have K1 := Lib.hid k1
  have S1 := Lib.hid s1
  have OW1 := Lib.hid (h.below b1)
  clear b1 k0 k1 s1 h
  have c0 := K0.out.cell 0
  have c1 := K0.out.cell 1
  have c2 := K0.out.cell 2
  have c3 := K0.out.cell 3
  have cf := fun i => K0.out.frozen i
  simp at c0 c1 c2 c3
  go_upto_region 2 with (go_at_call 26; refine (SN.out _ (WW.out.keep B1.out)).mono ?_; rintro e w2 ⟨An, cn, rfl, hb2, hI⟩)
  have K0b := Lib.hid (K0.out.below hb2 K0.out.lt)
  have K1b := Lib.hid (K1.out.below hb2 K1.out.lt)
  have B2 := Lib.hid (B1.out.andThen hb2)
  have OW2 := Lib.hid (OW1.out.below hb2)
  have HI := Lib.hid hI
  have HS2 := Lib.hid hb2.size
  clear hb2 K0 K1 OW1 B1 hI
  clear c0 c1 c2 c3 cf
  have hlen := numsN_len HQ.out
  obtain ⟨gI0, rfl, hgi, hgB, n0⟩ := int_at HI.out (i := 0) (by omega)
  have i0 : (0 : Int) < (l.length : Int) := by omega
  have c0 := K0b.out.cell 0
  have c1 := K0b.out.cell 1
  have c2 := K0b.out.cell 2
  have c3 := K0b.out.cell 3
  have cf := fun i => K0b.out.frozen i
  simp at c0 c1 c2 c3
  have z_c0 := fun d os => cell_regrown c0 d os
  have z_c1 := fun d os => cell_regrown c1 d os
  have z_c2 := fun d os => cell_regrown c2 d os
  have z_c3 := fun d os => cell_regrown c3 d os
  have z_n0 := fun d os => cell_regrown n0 d os
  refine region_by [false, false, false, false, false, false, false, true, false, false] (by kernel_rfl) (by kernel_rfl) (by kernel_rfl) ?_
  repeat (first | (refine wpR_skip (by rfl) ?_; simp only [Act.put, List.setIfInBounds_toArray, List.set_cons_zero, List.set_cons_succ]) | (refine wpR_det (by rfl) (fun K hK => ?_); go_big_quiet_op; refine hK _ ?_; clear hK K))
  refine wpR_bar (by rfl) (fun K hK => ?_)
  go_big_op
  go_at_call 28
  refine (sPlace_any _ _ _ _ _ _ gh X _ (OW2.out.below (Below.refl _ _).drew).own.wa _).mono ?_
  rintro e w3 ⟨rfl, hb3⟩
  rw [HU.out]
  refine hK _ _ (regrown_of_below ((Below.refl _ _).drew.andThen hb3)) ?_
  clear hK K
  repeat (first | (refine wpR_skip (by rfl) ?_; simp only [Act.put, List.setIfInBounds_toArray, List.set_cons_zero, List.set_cons_succ]) | (refine wpR_det (by rfl) (fun K hK => ?_); go_big_quiet_op; refine hK _ ?_; clear hK K))
  refine wpR_nil ?_
  clear z_c0 z_c1 z_c2 z_c3 z_n0 n0
  clear c0 c1 c2 c3 cf
  have BD := Lib.hid ((Below.refl w2.heap.size w2).drew.andThen hb3)
  have K0c := Lib.hid (K0b.out.below BD.out K0b.out.lt)
  have K1c := Lib.hid (K1b.out.below BD.out K1b.out.lt)
  clear hb3 K0b K1b
  go_upto_region 3 with (fail)
  have KE2 := Lib.hid (Keep.of_below (S := Has ca (some ⟨bt, 0, none⟩) (some ⟨bg, 0, none⟩) gh X.groups.length) (B2.out.andThen BD.out))
  clear B2 OW2 HI BD
  have c0 := K0c.out.cell 0
  have c1 := K0c.out.cell 1
  have c2 := K0c.out.cell 2
  have c3 := K0c.out.cell 3
  have cf := fun i => K0c.out.frozen i
  simp at c0 c1 c2 c3
  have d0 := K1c.out.cell 0
  have d1 := K1c.out.cell 1
  have d2 := K1c.out.cell 2
  have d3 := K1c.out.cell 3
  have df := fun i => K1c.out.frozen i
  simp at d0 d1 d2 d3
  go_wp2
  have kk := Lib.hid (show Keep (fun i => i = w.heap.size + 1) w3 ((((w3.setCell ⟨w.heap.size + 1, 0, none⟩ (.int .i64 X.now)).setCell ⟨w.heap.size + 1, 1, none⟩ (.slice ca X.cpus.length cc)).setCell ⟨w.heap.size + 1, 2, none⟩ (.slice (some ⟨bt, 0, none⟩) X.tasks.length tc)).setCell ⟨w.heap.size + 1, 3, none⟩ (.slice (some ⟨bg, 0, none⟩) X.groups.length gc)) from ((((Keep.set _ _ _ (by rfl)).trans (Keep.set _ _ _ (by rfl))).trans (Keep.set _ _ _ (by rfl))).trans (Keep.set _ _ _ (by rfl))))
  refine bodyPost_ret (v := .tuple #[.agg #[.int .i64 X.now, .slice ca X.cpus.length cc, .slice (some ⟨bt, 0, none⟩) X.tasks.length tc, .slice (some ⟨bg, 0, none⟩) X.groups.length gc], .bool false]) (by simp [results, Tryz.results29, go_sem, *]) rfl ⟨?_, rfl⟩
  exact Keep.then_ (S' := fun i => i = w.heap.size + 1) KE2.out kk.out fun i hi e => by omega
set_option maxRecDepth 100000 in
set_option maxHeartbeats 4000000 in
theorem sBand_yes (bt bg : Nat) (ca : Option Addr) (cc tc gc : Nat) (gh : Nat → GH) (X : WorldM) (B : Nat) (w : World) (h : OwnR w B ca cc (some ⟨bt, 0, none⟩) (some ⟨bg, 0, none⟩) gh X) (hf : RFit X) (hB : B ≤ w.heap.size) (A : Option Addr) (n c : Nat) (L : List (List UInt8)) (hn : n = L.length) (hw : WordS w A L) (hl : L.length ≤ 20001) (hb : ∀ a ∈ L, a.length ≤ 20000) {l : List Int} (hq : numsN L (4 + 2 * X.cpus.length) = some l) (hu : usedI X (gI l 0) = true) :
    Calls Tryz.prog 29 #[.agg #[.int .i64 X.now, .slice ca X.cpus.length cc, .slice (some ⟨bt, 0, none⟩) X.tasks.length tc, .slice (some ⟨bg, 0, none⟩) X.groups.length gc], .slice A n c] w (LPost bt bg ca cc tc gc gh X B (some (setG X (gI l 0).toNat { grp X (gI l 0).toNat with band := bandOf l X.cpus.length })) w) := by
  obtain ⟨g, hg⟩ : ∃ g : Nat, gI l 0 = g := ⟨(gI l 0).toNat, by simp only [usedI, Bool.and_eq_true, decide_eq_true_eq] at hu; omega⟩
  rw [hg] at hu ⊢
  rw [Int.toNat_natCast]
  have hlt8 := usedI_lt hu hf.gl
  rw [Int.toNat_natCast] at hlt8
  have HG := Lib.hid (show g < X.groups.length by rw [hf.gl]; exact hlt8)
  have gi0 : (0 : Int) ≤ (g : Int) := by omega
  have gi1 : (g : Int) < (X.groups.length : Int) := by rw [hf.gl]; omega
  have HGE := Lib.hid hg
  have HOH := Lib.hid (fun i hi => h.own.has (g := i) hi)
  subst hn
  have hc4 := hf.cpu
  have HG8 := Lib.hid hf.gl
  have hc0 : (X.cpus.length : Int) ≤ 4 := by omega
  have WW := Lib.hid hw
  have HBL := Lib.hid hb
  clear hw hb
  have HQ := Lib.hid hq
  have HU := Lib.hid hu
  clear hq hu hg hlt8
  have SN := Lib.hid (fun (W : World) (hW : WordS W A L) => sNums_yes A L.length c L rfl (4 + 2 * (X.cpus.length : Int)) (4 + 2 * X.cpus.length) (by omega) W hW hl HBL.out HQ.out)
  go_enter Tryz.func29, Tryz.ntmps29
  go_upto_region 1 with (fail)
  refine gen2 (p := fun W => Code.wp _ _ _ _ W) ?_
  intro W b1 s1 k0 k1
  have B1 := Lib.hid b1
  have K0 := Lib.hid k0
  have K1 := Lib.hid k1
  have S1 := Lib.hid s1
  have OW1 := Lib.hid (h.below b1)
  clear b1 k0 k1 s1 h
  have c0 := K0.out.cell 0
  have c1 := K0.out.cell 1
  have c2 := K0.out.cell 2
  have c3 := K0.out.cell 3
  have cf := fun i => K0.out.frozen i
  simp at c0 c1 c2 c3
  go_upto_region 2 with (go_at_call 26; refine (SN.out _ (WW.out.keep B1.out)).mono ?_; rintro e w2 ⟨An, cn, rfl, hb2, hI⟩)
  have K0b := Lib.hid (K0.out.below hb2 K0.out.lt)
  have K1b := Lib.hid (K1.out.below hb2 K1.out.lt)
  have B2 := Lib.hid (B1.out.andThen hb2)
  have OW2 := Lib.hid (OW1.out.below hb2)
  have HI := Lib.hid hI
  have HS2 := Lib.hid hb2.size
  clear hb2 K0 K1 OW1 B1 hI
  clear c0 c1 c2 c3 cf
  have hlen := numsN_len HQ.out
  obtain ⟨gI0, rfl, hgi, hgB, n0⟩ := int_at HI.out (i := 0) (by omega); rw [HGE.out] at n0
  have i0 : (0 : Int) < (l.length : Int) := by omega
  have c0 := K0b.out.cell 0
  have c1 := K0b.out.cell 1
  have c2 := K0b.out.cell 2
  have c3 := K0b.out.cell 3
  have cf := fun i => K0b.out.frozen i
  simp at c0 c1 c2 c3
  have z_c0 := fun d os => cell_regrown c0 d os
  have z_c1 := fun d os => cell_regrown c1 d os
  have z_c2 := fun d os => cell_regrown c2 d os
  have z_c3 := fun d os => cell_regrown c3 d os
  have z_n0 := fun d os => cell_regrown n0 d os
  refine region_by [false, false, false, false, false, false, false, true, false, false] (by kernel_rfl) (by kernel_rfl) (by kernel_rfl) ?_
  repeat (first | (refine wpR_skip (by rfl) ?_; simp only [Act.put, List.setIfInBounds_toArray, List.set_cons_zero, List.set_cons_succ]) | (refine wpR_det (by rfl) (fun K hK => ?_); go_big_quiet_op; refine hK _ ?_; clear hK K))
  refine wpR_bar (by rfl) (fun K hK => ?_)
  go_big_op
  go_at_call 28
  refine (sPlace_any _ _ _ _ _ _ gh X _ (OW2.out.below (Below.refl _ _).drew).own.wa _).mono ?_
  rintro e w3 ⟨rfl, hb3⟩
  rw [HU.out]
  refine hK _ _ (regrown_of_below ((Below.refl _ _).drew.andThen hb3)) ?_
  clear hK K
  repeat (first | (refine wpR_skip (by rfl) ?_; simp only [Act.put, List.setIfInBounds_toArray, List.set_cons_zero, List.set_cons_succ]) | (refine wpR_det (by rfl) (fun K hK => ?_); go_big_quiet_op; refine hK _ ?_; clear hK K))
  refine wpR_nil ?_
  clear z_c0 z_c1 z_c2 z_c3 z_n0 n0
  clear c0 c1 c2 c3 cf
  have BD := Lib.hid ((Below.refl w2.heap.size w2).drew.andThen hb3)
  have K0c := Lib.hid (K0b.out.below BD.out K0b.out.lt)
  have K1c := Lib.hid (K1b.out.below BD.out K1b.out.lt)
  clear hb3 K0b K1b
  go_upto_region 4 with (fail)
  have OW3 := Lib.hid (OW2.out.below BD.out)
  have HI3 := Lib.hid (HI.out.below BD.out)
  have B3 := Lib.hid (B2.out.andThen BD.out)
  have HW3 := Lib.hid (show w.heap.size + 2 ≤ w3.heap.size by have := S1.out; have := HS2.out; have := BD.out.size; omega)
  clear OW2 HI B2 BD
  obtain ⟨_, e1, hg3, _, n1⟩ := int_at HI3.out (i := 1) (by omega)
  cases e1
  obtain ⟨_, e1, _, _, n2⟩ := int_at HI3.out (i := 2) (by omega)
  cases e1
  obtain ⟨_, e1, _, _, n3⟩ := int_at HI3.out (i := 3) (by omega)
  cases e1
  have i4 : (4 : Int) ≤ (l.length : Int) := by omega
  have z_n1 := fun d os => cell_regrown n1 d os
  have z_n2 := fun d os => cell_regrown n2 d os
  have z_n3 := fun d os => cell_regrown n3 d os
  have bd : Below w3.heap.size w3 w3.drew := (Below.refl _ _).drew
  refine region_S 11 [0, 0, 0, 0, 0, 0, 0, 0, 0, 0, 1, 2] [0, 1, 2, 3, 4, 5, 6, 7, 8, 9, 10, 11] (by kernel_rfl) (by kernel_rfl) (by kernel_rfl) rfl (by kernel_rfl) (by kernel_rfl) ?_
  simp only [permL, List.getElem?_cons_zero, List.getElem?_cons_succ, Option.toList_some, List.cons_append, List.nil_append]
  repeat (first | (refine wpS_skip (by rfl) ?_; simp only [Act.put, List.setIfInBounds_toArray, List.set_cons_zero, List.set_cons_succ]) | (refine wpS_det (by rfl) (fun K hK => ?_); go_big_quiet_op; refine hK _ ?_; clear hK K))
  refine wpS_bar (by rfl) (fun K hK => ?_)
  go_big_op
  refine hK _ _ (regrown_of_below (bd.alloc (Nat.le_refl _) _)) ?_
  clear hK K
  repeat (first | (refine wpS_skip (by rfl) ?_; simp only [Act.put, List.setIfInBounds_toArray, List.set_cons_zero, List.set_cons_succ]) | (refine wpS_det (by rfl) (fun K hK => ?_); go_big_quiet_op; refine hK _ ?_; clear hK K))
  have kn : Blk (w3.drew.alloc (.cells #[.int .i64 0, .int .i64 0, .int .i64 0, .slice none 0 0, .slice none 0 0] 53)) w3.heap.size 53 #[.int .i64 0, .int .i64 0, .int .i64 0, .slice none 0 0, .slice none 0 0] := Blk.new w3.drew _ _
  have k0 := kn.cell 0
  have k1 := kn.cell 1
  have k2 := kn.cell 2
  have k3 := kn.cell 3
  have k4 := kn.cell 4
  have kf := fun i => kn.frozen i
  simp at k0 k1 k2 k3 k4 kf
  refine wpS_end (by rfl) (fun K hK => ?_)
  go_big_op
  refine hK _ _ ?_
  clear hK K
  refine wpS_nil ?_
  go_upto_region 5 with (fail)
  refine gen1d (p := fun W => Code.wp _ _ _ _ W) ?_
  intro w4 b4 s4 kb
  have I0 := Lib.hid (show BI w3.heap.size (gI l 1) (gI l 2) (gI l 3) w3 w4 (locN l 0) (dryN l 0) (.slice none 0 0) (.slice none 0 0) from ⟨kb, World.ownsRow_nil _ _ _ _, World.ownsRow_nil _ _ _ _, b4, Nat.le_refl _⟩)
  clear kb b4 s4 kn k0 k1 k2 k3 k4 kf z_n1 z_n2 z_n3 n1 n2 n3 bd
  go_wp2
  go_loopw [9] (fun i wr => ∃ (k : Nat) (vl vd : Value), k ≤ X.cpus.length ∧ i = .int .i64 ((4 + 2 * k : Nat) : Int) ∧ BI w3.heap.size (gI l 1) (gI l 2) (gI l 3) w3 wr (locN l k) (dryN l k) vl vd) (fun i _ => l.length - (intOf i).toNat)
  case atStart => exact ⟨0, _, _, Nat.zero_le _, rfl, I0.out⟩
  case round =>
    obtain ⟨k, vl, vd, hk, rfl, hI⟩ := hrel
    have II := Lib.hid hI
    clear hI
    by_cases hlt : k < X.cpus.length
    · obtain ⟨j, hj⟩ : ∃ j, j = 4 + 2 * k := ⟨_, rfl⟩
      rw [← hj]
      have HJ := Lib.hid hj
      have hjl : j + 1 < l.length := by omega
      obtain ⟨_, e1, _, _, y0⟩ := int_at HI3.out (i := j) (by omega)
      cases e1
      obtain ⟨_, e1, _, _, y1⟩ := int_at HI3.out (i := j + 1) hjl
      cases e1
      have c0 := (II.out.bel.cell (p := ⟨gI0, j, none⟩) hg3).trans y0
      have Y1 := Lib.hid y1
      have c3 := II.out.bk.cell 3
      simp at c3
      have i0 : (0 : Int) ≤ (j : Int) := by omega
      have i1 : (j : Int) < (l.length : Int) := by omega
      have i2 : (j : Int) + 1 < (l.length : Int) := by omega
      have hsz := II.out.bk.lt
      have HLT := Lib.hid hlt
      have HK := Lib.hid hk
      have HJL := Lib.hid hjl
      have hl4 : (locN l k).length ≤ 1048576 := by rw [locN_len]; omega
      have hd4 : (dryN l k).length ≤ 1048576 := by rw [dryN_len]; omega
      clear y0 y1 hj hlt hk hjl
      go_wp2_with fail
      go_upto_region 8 with (fail)
      obtain ⟨g5, cap5, w5, hrun, hown5, hkeep5, hg5, hlt5, hB5⟩ := app_drew slNum (by omega) (by omega) (ty := 45) (T' := 3) II.out.rl (by omega) hl4 [.int .i64 (gI l j)] rfl (by simp [Value.oneCell'])
      obtain ⟨F, hFt, hFf⟩ : ∃ F : Bool → World, F true = wr ∧ F false = w5 := ⟨fun b => if b then wr else w5, rfl, rfl⟩
      have qq0 := fun b d os => cell_regrown (both hFt hFf (p := fun W => W.cell? _ = some _) c0 (hkeep5.cell c0 (by have := II.out.bel.size; omega) (fun e => by have := (II.out.rl.lt _ e).1; omega)) b) d os
      have qq1 := fun b d os => cell_regrown (both hFt hFf (p := fun W => W.cell? _ = some _) c3 (hkeep5.cell c3 hsz (fun e => by have := (II.out.rl.lt _ e).1; omega)) b) d os
      have HFt := Lib.hid hFt
      have HFf := Lib.hid hFf
      have HRUN := Lib.hid hrun
      clear hFt hFf hrun
      refine region_SC (twoC F) (twoC_drew true HFt.out) 9 [0, 0, 0, 0, 0, 0, 1, 1, 0, 2] [0, 1, 2, 3, 4, 5, 6, 7, 8, 9] (by kernel_rfl) (by kernel_rfl) (by kernel_rfl) rfl (by kernel_rfl) (by kernel_rfl) ?_
      simp only [permL, List.getElem?_cons_zero, List.getElem?_cons_succ, Option.toList_some, List.cons_append, List.nil_append]
      unfold twoC
      repeat (first | (refine wpS_skip (by rfl) ?_; simp only [Act.put, List.setIfInBounds_toArray, List.set_cons_zero, List.set_cons_succ]) | (refine wpS_det (by rfl) (fun K hK => ?_); go_big_quiet_op; refine hK _ ?_; clear hK K))
      refine wpS_bar (by rfl) (fun K hK => ?_)
      go_big_op
      refine hK _ _ (twoC_below true (by rw [HFt.out]; exact (Below.refl _ _).drew.alloc (Nat.le_refl _) _)) ?_
      clear hK K
      refine wpS_bar (by rfl) (fun K hK => ?_)
      refine wp_append_run rfl rfl rfl HRUN.out ?_
      refine hK _ _ (twoC_below false (by rw [HFf.out]; exact Below.refl _ _)) ?_
      clear hK K
      simp only [Act.put, List.setIfInBounds_toArray, List.set_cons_zero, List.set_cons_succ]
      repeat (first | (refine wpS_skip (by rfl) ?_; simp only [Act.put, List.setIfInBounds_toArray, List.set_cons_zero, List.set_cons_succ]) | (refine wpS_det (by rfl) (fun K hK => ?_); go_big_quiet_op; refine hK _ ?_; clear hK K))
      clear qq0 qq1
      have f3 := fun i => (hkeep5.blk II.out.bk (own_far II.out.rl (by omega))).frozen i
      have z3 := (hkeep5.blk II.out.bk (own_far II.out.rl (by omega))).cell 3
      simp at z3
      refine wpS_end (by rfl) (fun K hK => ?_)
      go_big_op
      refine hK _ _ ?_
      clear hK K
      refine wpS_nil ?_
      have I2 := Lib.hid (II.out.locals (gI l j) hkeep5 (u := .slice (some ⟨g5, 0, none⟩) ((locN l k).length + 1 : Nat) cap5) hown5)
      generalize w5.setCell ⟨w3.heap.size, 3, none⟩ (.slice (some ⟨g5, 0, none⟩) ((locN l k).length + 1 : Nat) cap5) = w6 at *
      clear HFt HFf HRUN hkeep5 hown5 hg5 hlt5 hB5 z3 f3 c0 c3 hsz
      generalize (.slice (some ⟨g5, 0, none⟩) ((locN l k).length + 1 : Nat) cap5 : Value) = ul at *
      have c1 := (I2.out.bel.cell (p := ⟨gI0, j + 1, none⟩) hg3).trans Y1.out
      have c4 := I2.out.bk.cell 4
      simp at c4
      have hsz := I2.out.bk.lt
      go_upto_region 9 with (fail)
      obtain ⟨g5, cap5, w5, hrun, hown5, hkeep5, hg5, hlt5, hB5⟩ := app_drew slBo (by omega) (by omega) (ty := 51) (T' := 4) I2.out.rd (by omega) hd4 [.bool (gI l (j + 1) == 1)] rfl (by simp [Value.oneCell'])
      obtain ⟨F, hFt, hFf⟩ : ∃ F : Bool → World, F true = w6 ∧ F false = w5 := ⟨fun b => if b then w6 else w5, rfl, rfl⟩
      have qq0 := fun b d os => cell_regrown (both hFt hFf (p := fun W => W.cell? _ = some _) c1 (hkeep5.cell c1 (by have := I2.out.bel.size; omega) (fun e => by have := (I2.out.rd.lt _ e).1; omega)) b) d os
      have qq1 := fun b d os => cell_regrown (both hFt hFf (p := fun W => W.cell? _ = some _) c4 (hkeep5.cell c4 hsz (fun e => by have := (I2.out.rd.lt _ e).1; omega)) b) d os
      have HFt := Lib.hid hFt
      have HFf := Lib.hid hFf
      have HRUN := Lib.hid hrun
      clear hFt hFf hrun
      refine region_SC (twoC F) (twoC_drew true HFt.out) 11 [0, 0, 0, 0, 0, 0, 0, 0, 1, 1, 0, 2] [0, 1, 2, 3, 4, 5, 6, 7, 8, 9, 10, 11] (by kernel_rfl) (by kernel_rfl) (by kernel_rfl) rfl (by kernel_rfl) (by kernel_rfl) ?_
      simp only [permL, List.getElem?_cons_zero, List.getElem?_cons_succ, Option.toList_some, List.cons_append, List.nil_append]
      unfold twoC
      repeat (first | (refine wpS_skip (by rfl) ?_; simp only [Act.put, List.setIfInBounds_toArray, List.set_cons_zero, List.set_cons_succ]) | (refine wpS_det (by rfl) (fun K hK => ?_); go_big_quiet_op; refine hK _ ?_; clear hK K))
      refine wpS_bar (by rfl) (fun K hK => ?_)
      go_big_op
      refine hK _ _ (twoC_below true (by rw [HFt.out]; exact (Below.refl _ _).drew.alloc (Nat.le_refl _) _)) ?_
      clear hK K
      refine wpS_bar (by rfl) (fun K hK => ?_)
      refine wp_append_run rfl rfl rfl HRUN.out ?_
      refine hK _ _ (twoC_below false (by rw [HFf.out]; exact Below.refl _ _)) ?_
      clear hK K
      simp only [Act.put, List.setIfInBounds_toArray, List.set_cons_zero, List.set_cons_succ]
      repeat (first | (refine wpS_skip (by rfl) ?_; simp only [Act.put, List.setIfInBounds_toArray, List.set_cons_zero, List.set_cons_succ]) | (refine wpS_det (by rfl) (fun K hK => ?_); go_big_quiet_op; refine hK _ ?_; clear hK K))
      clear qq0 qq1
      have f3 := fun i => (hkeep5.blk I2.out.bk (own_far I2.out.rd (by omega))).frozen i
      have z3 := (hkeep5.blk I2.out.bk (own_far I2.out.rd (by omega))).cell 4
      simp at z3
      refine wpS_end (by rfl) (fun K hK => ?_)
      go_big_op
      refine hK _ _ ?_
      clear hK K
      refine wpS_nil ?_
      have I3 := Lib.hid (I2.out.dry (gI l (j + 1) == 1) hkeep5 (u := .slice (some ⟨g5, 0, none⟩) ((dryN l k).length + 1 : Nat) cap5) hown5)
      clear HFt HFf HRUN hkeep5 hown5 hg5 hlt5 hB5 z3 f3 c1 c4 hsz
      go_wp2
      go_roundw
      case rel =>
        refine ⟨k + 1, ul, .slice (some ⟨g5, 0, none⟩) ((dryN l k).length + 1 : Nat) cap5, HLT.out, by have := HJ.out; simp only [Value.int.injEq, true_and]; omega, ?_⟩
        rw [locN_succ, dryN_succ, ← HJ.out, show 5 + 2 * k = j + 1 by have := HJ.out; omega]
        exact I3.out
      case measure => have := HJL.out; simp [intOf]; omega
    · obtain rfl : k = X.cpus.length := by omega
      have HL := Lib.hid hlen
      have i1 : (l.length : Int) ≤ ((4 + 2 * X.cpus.length : Nat) : Int) := by omega
      obtain ⟨la, lc, rfl, hL⟩ := row_of_own II.out.rl
      obtain ⟨da, dc, rfl, hD⟩ := row_of_own II.out.rd
      have HLL := Lib.hid hL
      have HDD := Lib.hid hD
      clear hL hD hlt hk
      have K0d := Lib.hid (K0c.out.below II.out.bel K0c.out.lt)
      have K1d := Lib.hid (K1c.out.below II.out.bel K1c.out.lt)
      have OW4 := Lib.hid (OW3.out.below II.out.bel)
      obtain ⟨_, e1, _, _, n0⟩ := int_at (HI3.out.below II.out.bel) (i := 0) (by omega)
      cases e1
      rw [HGE.out] at n0
      have b0 := II.out.bk.cell 0
      have b1 := II.out.bk.cell 1
      have b2 := II.out.bk.cell 2
      have b3 := II.out.bk.cell 3
      have b4 := II.out.bk.cell 4
      simp at b0 b1 b2 b3 b4
      have g3 := K0d.out.cell 3
      simp at g3
      obtain ⟨_, e, _, _, v8, f8⟩ := OW4.out.own.grps.cell (k := g) (i := 8) HG.out (by omega); cases e
      obtain ⟨_, e, _, _, v9, f9⟩ := OW4.out.own.grps.cell (k := g) (i := 9) HG.out (by omega); cases e
      obtain ⟨_, e, _, _, v10, f10⟩ := OW4.out.own.grps.cell (k := g) (i := 10) HG.out (by omega); cases e
      obtain ⟨_, e, _, _, v11, f11⟩ := OW4.out.own.grps.cell (k := g) (i := 11) HG.out (by omega); cases e
      obtain ⟨_, e, _, _, v12, f12⟩ := OW4.out.own.grps.cell (k := g) (i := 12) HG.out (by omega); cases e
      go_upto_region 10 with (fail)
      have z_n0 := fun d os => cell_regrown n0 d os
      have z_g3 := fun d os => cell_regrown g3 d os
      have z_b0 := fun d os => cell_regrown b0 d os
      have z_b1 := fun d os => cell_regrown b1 d os
      have z_b2 := fun d os => cell_regrown b2 d os
      have z_b3 := fun d os => cell_regrown b3 d os
      have z_b4 := fun d os => cell_regrown b4 d os
      have z_v8 := fun d os => cell_regrown v8 d os
      have z_v9 := fun d os => cell_regrown v9 d os
      have z_v10 := fun d os => cell_regrown v10 d os
      have z_v11 := fun d os => cell_regrown v11 d os
      have z_v12 := fun d os => cell_regrown v12 d os
      refine region_S 6 [0, 0, 0, 0, 0, 0, 1, 1, 2] [0, 1, 2, 3, 4, 5, 6, 7, 8] (by kernel_rfl) (by kernel_rfl) (by kernel_rfl) rfl (by kernel_rfl) (by kernel_rfl) ?_
      simp only [permL, List.getElem?_cons_zero, List.getElem?_cons_succ, Option.toList_some, List.cons_append, List.nil_append]
      repeat (first | (refine wpS_skip (by rfl) ?_; simp only [Act.put, List.setIfInBounds_toArray, List.set_cons_zero, List.set_cons_succ]) | (refine wpS_det (by rfl) (fun K hK => ?_); go_big_quiet_op; refine hK _ ?_; clear hK K))
      refine wpS_bar (by rfl) (fun K hK => ?_)
      go_big_op
      refine hK _ _ (regrown_of_below ((Below.refl wr.heap.size wr).drew)) ?_
      clear hK K
      try simp only [Act.put, List.setIfInBounds_toArray, List.set_cons_zero, List.set_cons_succ]
      refine wpS_bar (by rfl) (fun K hK => ?_)
      go_big_op
      refine hK _ _ (regrown_of_below ((Below.refl wr.heap.size wr).drew)) ?_
      clear hK K
      try simp only [Act.put, List.setIfInBounds_toArray, List.set_cons_zero, List.set_cons_succ]
      refine wpS_end (by rfl) (fun K hK => ?_)
      go_big_op
      refine hK _ _ ?_
      clear hK K
      refine wpS_nil ?_
      go_upto_region 11 with (fail)
      refine genR (p := fun W => Code.wp _ _ _ _ W) ?_
      intro w6 hw6
      have e6 : Go.Proofs.YtomllcclallcdaaGreatDoor.wr bg 14 g [(8, .int .i64 (gI l 1)), (9, .int .i64 (gI l 2)), (10, .int .i64 (gI l 3)), (11, .slice la (locN l X.cpus.length).length lc), (12, .slice da (dryN l X.cpus.length).length dc)] wr.drew = w6 := hw6
      have BDR := Lib.hid (II.out.bel.andThen (Below.refl wr.heap.size wr).drew)
      have OW6 := Lib.hid (show OwnR w6 B ca cc (some ⟨bt, 0, none⟩) (some ⟨bg, 0, none⟩) (hset gh g { gh g with la := la, lc := lc, da := da, dc := dc }) (setG X g { grp X g with band := bandOf l X.cpus.length }) by rw [← e6]; exact OW3.out.band HG.out (bandOf l X.cpus.length) (Keep.of_below BDR.out) ((HLL.out.below (Below.refl _ _).drew).mono (by omega)) ((HDD.out.below (Below.refl _ _).drew).mono (by omega)) (by have := B3.out.size; omega))
      have KK := Lib.hid (show Keep (fun j => j = bg) wr.drew w6 by rw [← e6]; exact Keep.sets (S := fun j => j = bg) rfl _ _)
      have HBG := Lib.hid (HOH.out bg (.inr (.inr (.inl rfl)))).2
      have HGS := Lib.hid (show (setG X g { grp X g with band := bandOf l X.cpus.length }).groups.length = X.groups.length by simp [setG])
      have HN := Lib.hid (show ∀ i, Has ca (some ⟨bt, 0, none⟩) (some ⟨bg, 0, none⟩) (hset gh g { gh g with la := la, lc := lc, da := da, dc := dc }) (setG X g { grp X g with band := bandOf l X.cpus.length }).groups.length i → Has ca (some ⟨bt, 0, none⟩) (some ⟨bg, 0, none⟩) gh X.groups.length i ∨ w3.heap.size ≤ i from fun i hi => by
        rw [HGS.out] at hi
        exact has_set (x := { gh g with la := la, lc := lc, da := da, dc := dc }) (N := w3.heap.size) HG.out (fun _ h => .inr (by have := (HLL.out.lt h).1; simp only at this; omega)) (fun _ h => .inr (by have := (HDD.out.lt h).1; simp only at this; omega)) (fun _ h => .inl h) hi)
      have HZ := Lib.hid (show ∀ i, Has ca (some ⟨bt, 0, none⟩) (some ⟨bg, 0, none⟩) (hset gh g { gh g with la := la, lc := lc, da := da, dc := dc }) (setG X g { grp X g with band := bandOf l X.cpus.length }).groups.length i → i ≠ w.heap.size + 1 from fun i hi => by
        rcases HN.out i hi with h | h
        · have := (HOH.out i h).2; omega
        · have := HW3.out; omega)
      have K0e := Lib.hid (KK.out.blk (K0d.out.below (Below.refl _ _).drew K0d.out.lt) (by have := HBG.out; omega))
      have K1e := Lib.hid (KK.out.blk (K1d.out.below (Below.refl _ _).drew K1d.out.lt) (by have := HBG.out; omega))
      have KE := Lib.hid ((Keep.of_below (S := Has ca (some ⟨bt, 0, none⟩) (some ⟨bg, 0, none⟩) gh X.groups.length) (B3.out.andThen BDR.out)).trans (KK.out.mono fun j _ e => by subst e; exact .inr (.inr (.inl rfl))))
      clear hw6 e6 KK K0d K1d OW4 OW3 n0 g3 b0 b1 b2 b3 b4 v8 f8 v9 f9 v10 f10 v11 f11 v12 f12 z_n0 z_g3 z_b0 z_b1 z_b2 z_b3 z_b4 z_v8 z_v9 z_v10 z_v11 z_v12
      have c0 := K0e.out.cell 0
      have c1 := K0e.out.cell 1
      have c2 := K0e.out.cell 2
      have c3 := K0e.out.cell 3
      have cf := fun i => K0e.out.frozen i
      simp at c0 c1 c2 c3
      have d0 := K1e.out.cell 0
      have d1 := K1e.out.cell 1
      have d2 := K1e.out.cell 2
      have d3 := K1e.out.cell 3
      have df := fun i => K1e.out.frozen i
      simp at d0 d1 d2 d3
      go_wp2
      have kk := Lib.hid (show Keep (fun i => i = w.heap.size + 1) w6 ((((w6.setCell ⟨w.heap.size + 1, 0, none⟩ (.int .i64 X.now)).setCell ⟨w.heap.size + 1, 1, none⟩ (.slice ca X.cpus.length cc)).setCell ⟨w.heap.size + 1, 2, none⟩ (.slice (some ⟨bt, 0, none⟩) X.tasks.length tc)).setCell ⟨w.heap.size + 1, 3, none⟩ (.slice (some ⟨bg, 0, none⟩) X.groups.length gc)) from ((((Keep.set _ _ _ (by rfl)).trans (Keep.set _ _ _ (by rfl))).trans (Keep.set _ _ _ (by rfl))).trans (Keep.set _ _ _ (by rfl))))
      refine bodyPost_ret (v := .tuple #[.agg #[.int .i64 X.now, .slice ca X.cpus.length cc, .slice (some ⟨bt, 0, none⟩) X.tasks.length tc, .slice (some ⟨bg, 0, none⟩) X.groups.length gc], .bool true]) (by simp [results, Tryz.results29, go_sem, *]) rfl ⟨?_, ca, cc, (hset gh g { gh g with la := la, lc := lc, da := da, dc := dc }), by first | rfl | simp only [setG, addS, List.length_set], ?_, ?_⟩
      · exact Keep.then_ (S' := fun i => i = w.heap.size + 1) KE.out kk.out fun i hi e => by omega
      · exact OW6.out.keep kk.out fun i hi e => HZ.out i hi e
      · intro i hi; exact (HN.out i hi).imp_right fun h => by have := HW3.out; omega
theorem sBand_any (bt bg : Nat) (ca : Option Addr) (cc tc gc : Nat) (gh : Nat → GH) (X : WorldM) (B : Nat) (w : World) (h : OwnR w B ca cc (some ⟨bt, 0, none⟩) (some ⟨bg, 0, none⟩) gh X) (hf : RFit X) (hB : B ≤ w.heap.size) (A : Option Addr) (n c : Nat) (L : List (List UInt8)) (hn : n = L.length) (hw : WordS w A L) (hl : L.length ≤ 20001) (hb : ∀ a ∈ L, a.length ≤ 20000) :
    Calls Tryz.prog 29 #[.agg #[.int .i64 X.now, .slice ca X.cpus.length cc, .slice (some ⟨bt, 0, none⟩) X.tasks.length tc, .slice (some ⟨bg, 0, none⟩) X.groups.length gc], .slice A n c] w (LPost bt bg ca cc tc gc gh X B ((numsN L (4 + 2 * X.cpus.length)).bind fun l => if usedI X (gI l 0) = true then some (setG X (gI l 0).toNat { grp X (gI l 0).toNat with band := bandOf l X.cpus.length }) else none) w) := by
  cases hq : numsN L (4 + 2 * X.cpus.length) with
  | none => exact sBand_none bt bg ca cc tc gc gh X B w h hf hB A n c L hn hw hl hb hq
  | some l =>
    show Calls _ _ _ w (LPost bt bg ca cc tc gc gh X B (if usedI X (gI l 0) = true then some _ else none) w)
    by_cases hu : usedI X (gI l 0) = true
    · rw [if_pos hu]; exact sBand_yes bt bg ca cc tc gc gh X B w h hf hB A n c L hn hw hl hb hq hu
    · rw [if_neg hu]; exact sBand_off bt bg ca cc tc gc gh X B w h hf hB A n c L hn hw hl hb hq (by simpa using hu)
end
end Go.Proofs.YtomllcclallcdaaGreatDoor
