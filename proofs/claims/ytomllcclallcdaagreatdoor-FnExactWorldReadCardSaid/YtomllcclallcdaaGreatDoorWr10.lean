/- A part of the proof. -/
import Derived.Test.YtomllcclallcdaaGreatDoorWr9
namespace Go.Proofs.YtomllcclallcdaaGreatDoor
section
open Go.RowKit Go.Sort
theorem slC : SlT 22 49 5 40 := slT_of (z := .agg #[.bool false, .int .i64 0, .int .i64 0, .int .i64 0, .int .i64 0]) Tryz.underlying22 (by kernel_rfl) rfl
theorem slSh : SlT 54 59 5 40 := slT_of (z := .agg #[.int .i64 0, .bool false, .int .i64 0, .int .i64 0, .int .i64 0]) Tryz.underlying54 (by kernel_rfl) rfl
theorem region_TT {P : Program} {l : List Oper} {id : Nat} {Q : Exit → Act → World → Prop} {a : Act} {w : World} (t : Sk) (hm : P.follows .mixedOrders = true) (hs : Region.noSelect l.toArray = true)
    (hn : t.len = l.length) (hB : ordT .any l.toArray t (Array.replicate l.length false) = true)
    (h : Rgt P l (fun _ => True) (fun a' w' => Q .normal a' w') t a w.drew) : (Code.region id l.toArray true).wp P Q a w := by
  refine Code.wp_mono (Q := fun e a w => e = .normal ∧ Q .normal a w) (fun e a w hh => by obtain ⟨rfl, hh⟩ := hh; exact hh) ?_
  refine wp_region_held (S := fun _ => True) hm ?_
  have := wpAnyH_of_T (md := .any) hs t (Array.replicate l.length false) a w.drew hB trivial h.out
  rw [hn] at this
  simpa using this
theorem wd_eq (a b : List UInt8) : ((strB a).toList == b) = decide (a = b) := by
  rw [ByteArray.toList_eq]
  show (a == b) = decide (a = b)
  by_cases h : a = b
  · subst h; simp
  · rw [decide_eq_false h]; simpa using h
theorem cut_count (x : UInt8) : ∀ l : List UInt8, (cutB x l).length ≤ l.length + 1
  | [] => by simp [cutB]
  | b :: r => by
    have := cut_count x r
    rw [cutB]
    split
    · simp; omega
    · have := List.length_pos_iff.2 (cutB_ne x r)
      simp; omega
theorem word_at {w : World} {B : Nat} {A : Option Addr} {L : List (List UInt8)} (h : RowR w B A 9 1 L.length (fWord L)) {k : Nat} (hk : k < L.length) : ∃ g, A = some ⟨g, 0, none⟩ ∧ g < w.heap.size ∧ w.cell? ⟨g, k, none⟩ = some (.string (strB L[k])) := by
  obtain ⟨g, hA, hg, _, hc, _⟩ := h.cell hk (i := 0) (by omega)
  rw [show k * 1 + 0 = k by omega] at hc
  refine ⟨g, hA, hg, ?_⟩
  rw [hc, fWord]
  simp [hk]
theorem WordS.tl {w : World} {b c : Nat} {L : List (List UInt8)} (h : WordS w (some ⟨b, 0, none⟩) L) (hc : L.length ≤ c) (n : Nat) : WordS w (if c = n then some ⟨b, 0, none⟩ else some ⟨b, n, none⟩) (L.drop n) := by
  have := h.drop n
  rw [Nat.zero_add] at this
  split
  · exact ⟨fun k hk => absurd hk (by rw [List.length_drop]; omega)⟩
  · exact this
theorem head_at {L : List (List UInt8)} (h : 0 < L.length) {a : List UInt8} (e : L[0] = a) : L.headD [] = a := by
  cases L with
  | nil => simp at h
  | cons x r => exact e
set_option maxRecDepth 100000 in
set_option maxHeartbeats 4000000 in
theorem sLine_now_no (bt bg : Nat) (ca : Option Addr) (cc tc gc : Nat) (gh : Nat → GH) (X : WorldM) (B : Nat) (w : World) (h : OwnR w B ca cc (some ⟨bt, 0, none⟩) (some ⟨bg, 0, none⟩) gh X) (hf : RFit X) (hB : B ≤ w.heap.size) (s : ByteArray) (hs : s.size ≤ 20000) (L : List (List UInt8)) (hL : cutB 32 s.data.toList = L) (h0 : 0 < L.length) (hw : L[0] = wNow) (hq : numsN (L.drop 1) 1 = none) :
    Calls Tryz.prog 10 #[.agg #[.int .i64 X.now, .slice ca X.cpus.length cc, .slice (some ⟨bt, 0, none⟩) X.tasks.length tc, .slice (some ⟨bg, 0, none⟩) X.groups.length gc], .string s] w (LPost bt bg ca cc tc gc gh X B none w) := by
  have q0 : ((strB L[0]).toList == [110, 111, 119]) = true := by rw [wd_eq]; exact decide_eq_true hw
  have HOH := Lib.hid (fun i hi => h.own.has (g := i) hi)
  have HF := Lib.hid hf
  have HG8 := Lib.hid hf.gl
  have HT12 := Lib.hid hf.task
  have hc4 := hf.cpu
  have hc0 : (X.cpus.length : Int) ≤ 4 := by omega
  have HBL := Lib.hid (show ∀ a ∈ L, a.length ≤ 20000 from fun a ha => by rw [← hL] at ha; have := cut_len ha; have := len_s s; omega)
  have HLL := Lib.hid (show L.length ≤ 20001 by rw [← hL]; have := cut_count 32 s.data.toList; have := len_s s; omega)
  have HP := Lib.hid h0
  have SW := Lib.hid (show ∀ W, Calls Tryz.prog 25 #[.string s] W (WordsOut L W) from fun W => by have := sWords_any s W hs; rw [hL] at this; exact this)
  have l0 : (0 : Int) < (L.length : Int) := by omega
  have HW := Lib.hid (head_at h0 hw)
  clear hL hs hf hw
  go_enter Tryz.func10, Tryz.ntmps10
  go_upto_region 1 with (fail)
  refine gen2 (p := fun W => Code.wp _ _ _ _ W) ?_
  intro W b1 s1 k0 k1
  have B1 := Lib.hid b1
  have K0 := Lib.hid k0
  have K1 := Lib.hid k1
  have S1 := Lib.hid s1
  have OW1 := Lib.hid (h.below b1)
  clear b1 k0 k1 s1 h
  go_upto_region 2 with (go_at_call 25; refine (SW.out _).mono ?_; rintro e w2 ⟨A, c, rfl, hb2, hR, hcap⟩)
  obtain ⟨bw, rfl, hbw, cw⟩ := word_at hR HP.out
  generalize strB L[0] = s0 at *
  have WS := Lib.hid ((WordS.of_row hR).tl hcap 1)
  have HC := Lib.hid hcap
  have K0b := Lib.hid (K0.out.below hb2 K0.out.lt)
  have K1b := Lib.hid (K1.out.below hb2 K1.out.lt)
  have B2 := Lib.hid (B1.out.andThen hb2)
  have OW2 := Lib.hid (OW1.out.below hb2)
  have HS2 := Lib.hid (show w.heap.size + 2 ≤ w2.heap.size by have := S1.out; have := hb2.size; omega)
  clear hb2 hR hcap K0 K1 OW1 B1 SW
  have lc : (L.length : Int) ≤ (c : Int) := by have := HC.out; omega
  have HQ := Lib.hid hq
  clear hq
  have l1 : (1 : Int) ≤ (L.length : Int) := by omega
  have SN := Lib.hid (fun (W : World) (hW : WordS W (if c = 1 then some ⟨bw, 0, none⟩ else some ⟨bw, 1, none⟩) (L.drop 1)) => sNums_no _ (L.length - 1) (c - 1) (L.drop 1) (by rw [List.length_drop]) 1 1 rfl W hW (by rw [List.length_drop]; have := HLL.out; omega) (fun a ha => HBL.out a (List.mem_of_mem_drop ha)) HQ.out)
  go_upto_region 7 with (go_at_call 26; refine (SN.out _ WS.out).mono ?_; rintro e w3 ⟨v, rfl, hb3⟩)
  have K0c := Lib.hid (K0b.out.below hb3 K0b.out.lt)
  have K1c := Lib.hid (K1b.out.below hb3 K1b.out.lt)
  have OW3 := Lib.hid (OW2.out.below hb3)
  have B3 := Lib.hid (B2.out.andThen hb3)
  have HW3 := Lib.hid (show w.heap.size + 2 ≤ w3.heap.size by have := HS2.out; have := hb3.size; omega)
  have HW2 := Lib.hid HS2.out
  clear hb3 K0b K1b OW2 B2 SN
  generalize (if c = 1 then some ⟨bw, 0, none⟩ else some ⟨bw, 1, none⟩ : Option Addr) = aw at *
  have KE := Lib.hid (Keep.of_below (S := Has ca (some ⟨bt, 0, none⟩) (some ⟨bg, 0, none⟩) gh X.groups.length) B3.out)
  have c0 := K0c.out.cell 0
  have c1 := K0c.out.cell 1
  have c2 := K0c.out.cell 2
  have c3 := K0c.out.cell 3
  have cf := fun i => K0c.out.frozen i
  simp at c0 c1 c2 c3
  have d0 := K1c.out.cell 0
  have d1 := K1c.out.cell 1
  have d2 := K1c.out.cell 2
  have d3 := K1c.out.cell 3
  have df := fun i => K1c.out.frozen i
  simp at d0 d1 d2 d3
  go_wp2
  have kk := Lib.hid (show Keep (fun i => i = w.heap.size + 1) w3 ((((w3.setCell ⟨w.heap.size + 1, 0, none⟩ (.int .i64 X.now)).setCell ⟨w.heap.size + 1, 1, none⟩ (.slice ca X.cpus.length cc)).setCell ⟨w.heap.size + 1, 2, none⟩ (.slice (some ⟨bt, 0, none⟩) X.tasks.length tc)).setCell ⟨w.heap.size + 1, 3, none⟩ (.slice (some ⟨bg, 0, none⟩) X.groups.length gc)) from ((((Keep.set _ _ _ (by rfl)).trans (Keep.set _ _ _ (by rfl))).trans (Keep.set _ _ _ (by rfl))).trans (Keep.set _ _ _ (by rfl))))
  refine bodyPost_ret (v := .tuple #[.agg #[.int .i64 X.now, .slice ca X.cpus.length cc, .slice (some ⟨bt, 0, none⟩) X.tasks.length tc, .slice (some ⟨bg, 0, none⟩) X.groups.length gc], .bool false]) (by simp [results, Tryz.results10, go_sem, *]) rfl ⟨?_, rfl⟩
  exact Keep.then_ (S' := fun i => i = w.heap.size + 1) KE.out kk.out fun i hi e => by omega
set_option maxRecDepth 100000 in
set_option maxHeartbeats 4000000 in
theorem sLine_now_yes (bt bg : Nat) (ca : Option Addr) (cc tc gc : Nat) (gh : Nat → GH) (X : WorldM) (B : Nat) (w : World) (h : OwnR w B ca cc (some ⟨bt, 0, none⟩) (some ⟨bg, 0, none⟩) gh X) (hf : RFit X) (hB : B ≤ w.heap.size) (s : ByteArray) (hs : s.size ≤ 20000) (L : List (List UInt8)) (hL : cutB 32 s.data.toList = L) (h0 : 0 < L.length) (hw : L[0] = wNow) {l : List Int} (hq : numsN (L.drop 1) 1 = some l) :
    Calls Tryz.prog 10 #[.agg #[.int .i64 X.now, .slice ca X.cpus.length cc, .slice (some ⟨bt, 0, none⟩) X.tasks.length tc, .slice (some ⟨bg, 0, none⟩) X.groups.length gc], .string s] w (LPost bt bg ca cc tc gc gh X B (some { X with now := gI l 0 }) w) := by
  have q0 : ((strB L[0]).toList == [110, 111, 119]) = true := by rw [wd_eq]; exact decide_eq_true hw
  have HOH := Lib.hid (fun i hi => h.own.has (g := i) hi)
  have HF := Lib.hid hf
  have HG8 := Lib.hid hf.gl
  have HT12 := Lib.hid hf.task
  have hc4 := hf.cpu
  have hc0 : (X.cpus.length : Int) ≤ 4 := by omega
  have HBL := Lib.hid (show ∀ a ∈ L, a.length ≤ 20000 from fun a ha => by rw [← hL] at ha; have := cut_len ha; have := len_s s; omega)
  have HLL := Lib.hid (show L.length ≤ 20001 by rw [← hL]; have := cut_count 32 s.data.toList; have := len_s s; omega)
  have HP := Lib.hid h0
  have SW := Lib.hid (show ∀ W, Calls Tryz.prog 25 #[.string s] W (WordsOut L W) from fun W => by have := sWords_any s W hs; rw [hL] at this; exact this)
  have l0 : (0 : Int) < (L.length : Int) := by omega
  have HW := Lib.hid (head_at h0 hw)
  clear hL hs hf hw
  go_enter Tryz.func10, Tryz.ntmps10
  go_upto_region 1 with (fail)
  refine gen2 (p := fun W => Code.wp _ _ _ _ W) ?_
  intro W b1 s1 k0 k1
  have B1 := Lib.hid b1
  have K0 := Lib.hid k0
  have K1 := Lib.hid k1
  have S1 := Lib.hid s1
  have OW1 := Lib.hid (h.below b1)
  clear b1 k0 k1 s1 h
  go_upto_region 2 with (go_at_call 25; refine (SW.out _).mono ?_; rintro e w2 ⟨A, c, rfl, hb2, hR, hcap⟩)
  obtain ⟨bw, rfl, hbw, cw⟩ := word_at hR HP.out
  generalize strB L[0] = s0 at *
  have WS := Lib.hid ((WordS.of_row hR).tl hcap 1)
  have HC := Lib.hid hcap
  have K0b := Lib.hid (K0.out.below hb2 K0.out.lt)
  have K1b := Lib.hid (K1.out.below hb2 K1.out.lt)
  have B2 := Lib.hid (B1.out.andThen hb2)
  have OW2 := Lib.hid (OW1.out.below hb2)
  have HS2 := Lib.hid (show w.heap.size + 2 ≤ w2.heap.size by have := S1.out; have := hb2.size; omega)
  clear hb2 hR hcap K0 K1 OW1 B1 SW
  have lc : (L.length : Int) ≤ (c : Int) := by have := HC.out; omega
  have HQ := Lib.hid hq
  clear hq
  have l1 : (1 : Int) ≤ (L.length : Int) := by omega
  have SN := Lib.hid (fun (W : World) (hW : WordS W (if c = 1 then some ⟨bw, 0, none⟩ else some ⟨bw, 1, none⟩) (L.drop 1)) => sNums_yes _ (L.length - 1) (c - 1) (L.drop 1) (by rw [List.length_drop]) 1 1 rfl W hW (by rw [List.length_drop]; have := HLL.out; omega) (fun a ha => HBL.out a (List.mem_of_mem_drop ha)) HQ.out)
  go_upto_region 6 with (go_at_call 26; refine (SN.out _ WS.out).mono ?_; rintro e w3 ⟨An, cn, rfl, hb3, hI⟩)
  have K0c := Lib.hid (K0b.out.below hb3 K0b.out.lt)
  have K1c := Lib.hid (K1b.out.below hb3 K1b.out.lt)
  have OW3 := Lib.hid (OW2.out.below hb3)
  have B3 := Lib.hid (B2.out.andThen hb3)
  have HW3 := Lib.hid (show w.heap.size + 2 ≤ w3.heap.size by have := HS2.out; have := hb3.size; omega)
  have HW2 := Lib.hid HS2.out
  have HI := Lib.hid hI
  have hlen := numsN_len HQ.out
  clear hI
  clear hb3 K0b K1b OW2 B2 SN
  generalize (if c = 1 then some ⟨bw, 0, none⟩ else some ⟨bw, 1, none⟩ : Option Addr) = aw at *
  obtain ⟨gI0, rfl, hgi, hgB, n0⟩ := int_at HI.out (i := 0) (by omega)
  have il : (0 : Int) < (l.length : Int) := by omega
  have c0 := K0c.out.cell 0
  have c1 := K0c.out.cell 1
  have c2 := K0c.out.cell 2
  have c3 := K0c.out.cell 3
  have cf := fun i => K0c.out.frozen i
  simp at c0 c1 c2 c3
  go_upto_region 7 with (fail)
  refine genR (p := fun W => Code.wp _ _ _ _ W) ?_
  intro w4 hw4
  have KS := Lib.hid (show Keep (fun j => j = w.heap.size) w3 w4 by rw [← hw4]; exact Keep.set _ _ _ rfl)
  have K0d := Lib.hid (show Blk w4 w.heap.size 26 #[.int .i64 (gI l 0), .slice ca X.cpus.length cc, .slice (some ⟨bt, 0, none⟩) X.tasks.length tc, .slice (some ⟨bg, 0, none⟩) X.groups.length gc] by rw [← hw4]; exact K0c.out.set_ 0 _)
  have K1d := Lib.hid (KS.out.blk K1c.out (by omega))
  have OW4 := Lib.hid ((OW3.out.keep KS.out fun i hi e => by have := (HOH.out i hi).2; omega).now (gI l 0))
  have KE := Lib.hid (Keep.then_ (S' := fun j => j = w.heap.size) (Keep.of_below (S := Has ca (some ⟨bt, 0, none⟩) (some ⟨bg, 0, none⟩) gh X.groups.length) B3.out) KS.out fun i hi e => by omega)
  clear hw4 KS K0c K1c OW3 n0 hgi hgB HI
  clear c0 c1 c2 c3 cf
  have HN := Lib.hid (show ∀ i, Has ca (some ⟨bt, 0, none⟩) (some ⟨bg, 0, none⟩) gh ({ X with now := gI l 0 } : WorldM).groups.length i → Has ca (some ⟨bt, 0, none⟩) (some ⟨bg, 0, none⟩) gh X.groups.length i ∨ w3.heap.size ≤ i from fun i hi => .inl hi)
  have c0 := K0d.out.cell 0
  have c1 := K0d.out.cell 1
  have c2 := K0d.out.cell 2
  have c3 := K0d.out.cell 3
  have cf := fun i => K0d.out.frozen i
  simp at c0 c1 c2 c3
  have d0 := K1d.out.cell 0
  have d1 := K1d.out.cell 1
  have d2 := K1d.out.cell 2
  have d3 := K1d.out.cell 3
  have df := fun i => K1d.out.frozen i
  simp at d0 d1 d2 d3
  go_wp2
  have kk := Lib.hid (show Keep (fun i => i = w.heap.size + 1) w4 ((((w4.setCell ⟨w.heap.size + 1, 0, none⟩ (.int .i64 (gI l 0))).setCell ⟨w.heap.size + 1, 1, none⟩ (.slice ca X.cpus.length cc)).setCell ⟨w.heap.size + 1, 2, none⟩ (.slice (some ⟨bt, 0, none⟩) X.tasks.length tc)).setCell ⟨w.heap.size + 1, 3, none⟩ (.slice (some ⟨bg, 0, none⟩) X.groups.length gc)) from ((((Keep.set _ _ _ (by rfl)).trans (Keep.set _ _ _ (by rfl))).trans (Keep.set _ _ _ (by rfl))).trans (Keep.set _ _ _ (by rfl))))
  refine bodyPost_ret (v := .tuple #[.agg #[.int .i64 (gI l 0), .slice ca X.cpus.length cc, .slice (some ⟨bt, 0, none⟩) X.tasks.length tc, .slice (some ⟨bg, 0, none⟩) X.groups.length gc], .bool true]) (by simp [results, Tryz.results10, go_sem, *]) rfl ⟨?_, ca, cc, gh, by first | rfl | simp [setG, addS], ?_, ?_⟩
  · exact Keep.then_ (S' := fun i => i = w.heap.size + 1) KE.out kk.out fun i hi e => by omega
  · exact OW4.out.keep kk.out fun i hi e => by rcases HN.out i hi with h | h; (have := (HOH.out i h).2; omega); (have := HW3.out; omega)
  · intro i hi; exact (HN.out i hi).imp_right fun h => by have := HW3.out; omega
set_option maxRecDepth 100000 in
set_option maxHeartbeats 4000000 in
theorem sLine_cpu_no (bt bg : Nat) (ca : Option Addr) (cc tc gc : Nat) (gh : Nat → GH) (X : WorldM) (B : Nat) (w : World) (h : OwnR w B ca cc (some ⟨bt, 0, none⟩) (some ⟨bg, 0, none⟩) gh X) (hf : RFit X) (hB : B ≤ w.heap.size) (s : ByteArray) (hs : s.size ≤ 20000) (L : List (List UInt8)) (hL : cutB 32 s.data.toList = L) (h0 : 0 < L.length) (hw : L[0] = wCpu) (hq : numsN (L.drop 1) 5 = none) :
    Calls Tryz.prog 10 #[.agg #[.int .i64 X.now, .slice ca X.cpus.length cc, .slice (some ⟨bt, 0, none⟩) X.tasks.length tc, .slice (some ⟨bg, 0, none⟩) X.groups.length gc], .string s] w (LPost bt bg ca cc tc gc gh X B none w) := by
  have q0 : ((strB L[0]).toList == [110, 111, 119]) = false := by rw [wd_eq]; exact decide_eq_false (by rw [hw]; decide)
  have q1 : ((strB L[0]).toList == [99, 112, 117]) = true := by rw [wd_eq]; exact decide_eq_true hw
  have HOH := Lib.hid (fun i hi => h.own.has (g := i) hi)
  have HF := Lib.hid hf
  have HG8 := Lib.hid hf.gl
  have HT12 := Lib.hid hf.task
  have hc4 := hf.cpu
  have hc0 : (X.cpus.length : Int) ≤ 4 := by omega
  have HBL := Lib.hid (show ∀ a ∈ L, a.length ≤ 20000 from fun a ha => by rw [← hL] at ha; have := cut_len ha; have := len_s s; omega)
  have HLL := Lib.hid (show L.length ≤ 20001 by rw [← hL]; have := cut_count 32 s.data.toList; have := len_s s; omega)
  have HP := Lib.hid h0
  have SW := Lib.hid (show ∀ W, Calls Tryz.prog 25 #[.string s] W (WordsOut L W) from fun W => by have := sWords_any s W hs; rw [hL] at this; exact this)
  have l0 : (0 : Int) < (L.length : Int) := by omega
  have HW := Lib.hid (head_at h0 hw)
  clear hL hs hf hw
  go_enter Tryz.func10, Tryz.ntmps10
  go_upto_region 1 with (fail)
  refine gen2 (p := fun W => Code.wp _ _ _ _ W) ?_
  intro W b1 s1 k0 k1
  have B1 := Lib.hid b1
  have K0 := Lib.hid k0
  have K1 := Lib.hid k1
  have S1 := Lib.hid s1
  have OW1 := Lib.hid (h.below b1)
  clear b1 k0 k1 s1 h
  go_upto_region 2 with (go_at_call 25; refine (SW.out _).mono ?_; rintro e w2 ⟨A, c, rfl, hb2, hR, hcap⟩)
  obtain ⟨bw, rfl, hbw, cw⟩ := word_at hR HP.out
  generalize strB L[0] = s0 at *
  have WS := Lib.hid ((WordS.of_row hR).tl hcap 1)
  have HC := Lib.hid hcap
  have K0b := Lib.hid (K0.out.below hb2 K0.out.lt)
  have K1b := Lib.hid (K1.out.below hb2 K1.out.lt)
  have B2 := Lib.hid (B1.out.andThen hb2)
  have OW2 := Lib.hid (OW1.out.below hb2)
  have HS2 := Lib.hid (show w.heap.size + 2 ≤ w2.heap.size by have := S1.out; have := hb2.size; omega)
  clear hb2 hR hcap K0 K1 OW1 B1 SW
  have lc : (L.length : Int) ≤ (c : Int) := by have := HC.out; omega
  have HQ := Lib.hid hq
  clear hq
  have l1 : (1 : Int) ≤ (L.length : Int) := by omega
  have SN := Lib.hid (fun (W : World) (hW : WordS W (if c = 1 then some ⟨bw, 0, none⟩ else some ⟨bw, 1, none⟩) (L.drop 1)) => sNums_no _ (L.length - 1) (c - 1) (L.drop 1) (by rw [List.length_drop]) 5 5 rfl W hW (by rw [List.length_drop]; have := HLL.out; omega) (fun a ha => HBL.out a (List.mem_of_mem_drop ha)) HQ.out)
  go_upto_region 11 with (go_at_call 26; refine (SN.out _ WS.out).mono ?_; rintro e w3 ⟨v, rfl, hb3⟩)
  have K0c := Lib.hid (K0b.out.below hb3 K0b.out.lt)
  have K1c := Lib.hid (K1b.out.below hb3 K1b.out.lt)
  have OW3 := Lib.hid (OW2.out.below hb3)
  have B3 := Lib.hid (B2.out.andThen hb3)
  have HW3 := Lib.hid (show w.heap.size + 2 ≤ w3.heap.size by have := HS2.out; have := hb3.size; omega)
  have HW2 := Lib.hid HS2.out
  clear hb3 K0b K1b OW2 B2 SN
  generalize (if c = 1 then some ⟨bw, 0, none⟩ else some ⟨bw, 1, none⟩ : Option Addr) = aw at *
  have KE := Lib.hid (Keep.of_below (S := Has ca (some ⟨bt, 0, none⟩) (some ⟨bg, 0, none⟩) gh X.groups.length) B3.out)
  have c0 := K0c.out.cell 0
  have c1 := K0c.out.cell 1
  have c2 := K0c.out.cell 2
  have c3 := K0c.out.cell 3
  have cf := fun i => K0c.out.frozen i
  simp at c0 c1 c2 c3
  have d0 := K1c.out.cell 0
  have d1 := K1c.out.cell 1
  have d2 := K1c.out.cell 2
  have d3 := K1c.out.cell 3
  have df := fun i => K1c.out.frozen i
  simp at d0 d1 d2 d3
  go_wp2
  have kk := Lib.hid (show Keep (fun i => i = w.heap.size + 1) w3 ((((w3.setCell ⟨w.heap.size + 1, 0, none⟩ (.int .i64 X.now)).setCell ⟨w.heap.size + 1, 1, none⟩ (.slice ca X.cpus.length cc)).setCell ⟨w.heap.size + 1, 2, none⟩ (.slice (some ⟨bt, 0, none⟩) X.tasks.length tc)).setCell ⟨w.heap.size + 1, 3, none⟩ (.slice (some ⟨bg, 0, none⟩) X.groups.length gc)) from ((((Keep.set _ _ _ (by rfl)).trans (Keep.set _ _ _ (by rfl))).trans (Keep.set _ _ _ (by rfl))).trans (Keep.set _ _ _ (by rfl))))
  refine bodyPost_ret (v := .tuple #[.agg #[.int .i64 X.now, .slice ca X.cpus.length cc, .slice (some ⟨bt, 0, none⟩) X.tasks.length tc, .slice (some ⟨bg, 0, none⟩) X.groups.length gc], .bool false]) (by simp [results, Tryz.results10, go_sem, *]) rfl ⟨?_, rfl⟩
  exact Keep.then_ (S' := fun i => i = w.heap.size + 1) KE.out kk.out fun i hi e => by omega
set_option maxRecDepth 100000 in
set_option maxHeartbeats 4000000 in
theorem sLine_cpu_full (bt bg : Nat) (ca : Option Addr) (cc tc gc : Nat) (gh : Nat → GH) (X : WorldM) (B : Nat) (w : World) (h : OwnR w B ca cc (some ⟨bt, 0, none⟩) (some ⟨bg, 0, none⟩) gh X) (hf : RFit X) (hB : B ≤ w.heap.size) (s : ByteArray) (hs : s.size ≤ 20000) (L : List (List UInt8)) (hL : cutB 32 s.data.toList = L) (h0 : 0 < L.length) (hw : L[0] = wCpu) {l : List Int} (hq : numsN (L.drop 1) 5 = some l) (h4 : X.cpus.length = 4) :
    Calls Tryz.prog 10 #[.agg #[.int .i64 X.now, .slice ca X.cpus.length cc, .slice (some ⟨bt, 0, none⟩) X.tasks.length tc, .slice (some ⟨bg, 0, none⟩) X.groups.length gc], .string s] w (LPost bt bg ca cc tc gc gh X B none w) := by
  have q0 : ((strB L[0]).toList == [110, 111, 119]) = false := by rw [wd_eq]; exact decide_eq_false (by rw [hw]; decide)
  have q1 : ((strB L[0]).toList == [99, 112, 117]) = true := by rw [wd_eq]; exact decide_eq_true hw
  have HOH := Lib.hid (fun i hi => h.own.has (g := i) hi)
  have HF := Lib.hid hf
  have HG8 := Lib.hid hf.gl
  have HT12 := Lib.hid hf.task
  have hc4 := hf.cpu
  have hc0 : (X.cpus.length : Int) ≤ 4 := by omega
  have HBL := Lib.hid (show ∀ a ∈ L, a.length ≤ 20000 from fun a ha => by rw [← hL] at ha; have := cut_len ha; have := len_s s; omega)
  have HLL := Lib.hid (show L.length ≤ 20001 by rw [← hL]; have := cut_count 32 s.data.toList; have := len_s s; omega)
  have HP := Lib.hid h0
  have SW := Lib.hid (show ∀ W, Calls Tryz.prog 25 #[.string s] W (WordsOut L W) from fun W => by have := sWords_any s W hs; rw [hL] at this; exact this)
  have l0 : (0 : Int) < (L.length : Int) := by omega
  have HW := Lib.hid (head_at h0 hw)
  clear hL hs hf hw
  go_enter Tryz.func10, Tryz.ntmps10
  go_upto_region 1 with (fail)
  refine gen2 (p := fun W => Code.wp _ _ _ _ W) ?_
  intro W b1 s1 k0 k1
  have B1 := Lib.hid b1
  have K0 := Lib.hid k0
  have K1 := Lib.hid k1
  have S1 := Lib.hid s1
  have OW1 := Lib.hid (h.below b1)
  clear b1 k0 k1 s1 h
  go_upto_region 2 with (go_at_call 25; refine (SW.out _).mono ?_; rintro e w2 ⟨A, c, rfl, hb2, hR, hcap⟩)
  obtain ⟨bw, rfl, hbw, cw⟩ := word_at hR HP.out
  generalize strB L[0] = s0 at *
  have WS := Lib.hid ((WordS.of_row hR).tl hcap 1)
  have HC := Lib.hid hcap
  have K0b := Lib.hid (K0.out.below hb2 K0.out.lt)
  have K1b := Lib.hid (K1.out.below hb2 K1.out.lt)
  have B2 := Lib.hid (B1.out.andThen hb2)
  have OW2 := Lib.hid (OW1.out.below hb2)
  have HS2 := Lib.hid (show w.heap.size + 2 ≤ w2.heap.size by have := S1.out; have := hb2.size; omega)
  clear hb2 hR hcap K0 K1 OW1 B1 SW
  have lc : (L.length : Int) ≤ (c : Int) := by have := HC.out; omega
  have HQ := Lib.hid hq
  clear hq
  have l1 : (1 : Int) ≤ (L.length : Int) := by omega
  have SN := Lib.hid (fun (W : World) (hW : WordS W (if c = 1 then some ⟨bw, 0, none⟩ else some ⟨bw, 1, none⟩) (L.drop 1)) => sNums_yes _ (L.length - 1) (c - 1) (L.drop 1) (by rw [List.length_drop]) 5 5 rfl W hW (by rw [List.length_drop]; have := HLL.out; omega) (fun a ha => HBL.out a (List.mem_of_mem_drop ha)) HQ.out)
  go_upto_region 10 with (go_at_call 26; refine (SN.out _ WS.out).mono ?_; rintro e w3 ⟨An, cn, rfl, hb3, hI⟩)
  have K0c := Lib.hid (K0b.out.below hb3 K0b.out.lt)
  have K1c := Lib.hid (K1b.out.below hb3 K1b.out.lt)
  have OW3 := Lib.hid (OW2.out.below hb3)
  have B3 := Lib.hid (B2.out.andThen hb3)
  have HW3 := Lib.hid (show w.heap.size + 2 ≤ w3.heap.size by have := HS2.out; have := hb3.size; omega)
  have HW2 := Lib.hid HS2.out
  have HI := Lib.hid hI
  have hlen := numsN_len HQ.out
  clear hI
  clear hb3 K0b K1b OW2 B2 SN
  generalize (if c = 1 then some ⟨bw, 0, none⟩ else some ⟨bw, 1, none⟩ : Option Addr) = aw at *
  have c0 := K0c.out.cell 0
  have c1 := K0c.out.cell 1
  have c2 := K0c.out.cell 2
  have c3 := K0c.out.cell 3
  have cf := fun i => K0c.out.frozen i
  simp at c0 c1 c2 c3
  have H4 := Lib.hid h4
  have h4' : ((X.cpus.length : Int) == 4) = true := by rw [h4]; rfl
  clear h4
  go_upto_region 11 with (fail)
  clear h4'
  clear c0 c1 c2 c3 cf
  have KE := Lib.hid (Keep.of_below (S := Has ca (some ⟨bt, 0, none⟩) (some ⟨bg, 0, none⟩) gh X.groups.length) B3.out)
  have c0 := K0c.out.cell 0
  have c1 := K0c.out.cell 1
  have c2 := K0c.out.cell 2
  have c3 := K0c.out.cell 3
  have cf := fun i => K0c.out.frozen i
  simp at c0 c1 c2 c3
  have d0 := K1c.out.cell 0
  have d1 := K1c.out.cell 1
  have d2 := K1c.out.cell 2
  have d3 := K1c.out.cell 3
  have df := fun i => K1c.out.frozen i
  simp at d0 d1 d2 d3
  go_wp2
  have kk := Lib.hid (show Keep (fun i => i = w.heap.size + 1) w3 ((((w3.setCell ⟨w.heap.size + 1, 0, none⟩ (.int .i64 X.now)).setCell ⟨w.heap.size + 1, 1, none⟩ (.slice ca 4 cc)).setCell ⟨w.heap.size + 1, 2, none⟩ (.slice (some ⟨bt, 0, none⟩) X.tasks.length tc)).setCell ⟨w.heap.size + 1, 3, none⟩ (.slice (some ⟨bg, 0, none⟩) X.groups.length gc)) from ((((Keep.set _ _ _ (by rfl)).trans (Keep.set _ _ _ (by rfl))).trans (Keep.set _ _ _ (by rfl))).trans (Keep.set _ _ _ (by rfl))))
  refine bodyPost_ret (v := .tuple #[.agg #[.int .i64 X.now, .slice ca 4 cc, .slice (some ⟨bt, 0, none⟩) X.tasks.length tc, .slice (some ⟨bg, 0, none⟩) X.groups.length gc], .bool false]) (by simp [results, Tryz.results10, go_sem, *]) rfl ⟨?_, by rw [H4.out]⟩
  exact Keep.then_ (S' := fun i => i = w.heap.size + 1) KE.out kk.out fun i hi e => by omega
set_option maxRecDepth 100000 in
set_option maxHeartbeats 4000000 in
theorem sLine_cpu_yes (bt bg : Nat) (ca : Option Addr) (cc tc gc : Nat) (gh : Nat → GH) (X : WorldM) (B : Nat) (w : World) (h : OwnR w B ca cc (some ⟨bt, 0, none⟩) (some ⟨bg, 0, none⟩) gh X) (hf : RFit X) (hB : B ≤ w.heap.size) (s : ByteArray) (hs : s.size ≤ 20000) (L : List (List UInt8)) (hL : cutB 32 s.data.toList = L) (h0 : 0 < L.length) (hw : L[0] = wCpu) {l : List Int} (hq : numsN (L.drop 1) 5 = some l) (h4 : X.cpus.length ≠ 4) :
    Calls Tryz.prog 10 #[.agg #[.int .i64 X.now, .slice ca X.cpus.length cc, .slice (some ⟨bt, 0, none⟩) X.tasks.length tc, .slice (some ⟨bg, 0, none⟩) X.groups.length gc], .string s] w (LPost bt bg ca cc tc gc gh X B (some { X with cpus := X.cpus ++ [cpuOf l] }) w) := by
  have q0 : ((strB L[0]).toList == [110, 111, 119]) = false := by rw [wd_eq]; exact decide_eq_false (by rw [hw]; decide)
  have q1 : ((strB L[0]).toList == [99, 112, 117]) = true := by rw [wd_eq]; exact decide_eq_true hw
  have HOH := Lib.hid (fun i hi => h.own.has (g := i) hi)
  have HF := Lib.hid hf
  have HG8 := Lib.hid hf.gl
  have HT12 := Lib.hid hf.task
  have hc4 := hf.cpu
  have hc0 : (X.cpus.length : Int) ≤ 4 := by omega
  have HBL := Lib.hid (show ∀ a ∈ L, a.length ≤ 20000 from fun a ha => by rw [← hL] at ha; have := cut_len ha; have := len_s s; omega)
  have HLL := Lib.hid (show L.length ≤ 20001 by rw [← hL]; have := cut_count 32 s.data.toList; have := len_s s; omega)
  have HP := Lib.hid h0
  have SW := Lib.hid (show ∀ W, Calls Tryz.prog 25 #[.string s] W (WordsOut L W) from fun W => by have := sWords_any s W hs; rw [hL] at this; exact this)
  have l0 : (0 : Int) < (L.length : Int) := by omega
  have HW := Lib.hid (head_at h0 hw)
  clear hL hs hf hw
  go_enter Tryz.func10, Tryz.ntmps10
  go_upto_region 1 with (fail)
  refine gen2 (p := fun W => Code.wp _ _ _ _ W) ?_
  intro W b1 s1 k0 k1
  have B1 := Lib.hid b1
  have K0 := Lib.hid k0
  have K1 := Lib.hid k1
  have S1 := Lib.hid s1
  have OW1 := Lib.hid (h.below b1)
  clear b1 k0 k1 s1 h
  go_upto_region 2 with (go_at_call 25; refine (SW.out _).mono ?_; rintro e w2 ⟨A, c, rfl, hb2, hR, hcap⟩)
  obtain ⟨bw, rfl, hbw, cw⟩ := word_at hR HP.out
  generalize strB L[0] = s0 at *
  have WS := Lib.hid ((WordS.of_row hR).tl hcap 1)
  have HC := Lib.hid hcap
  have K0b := Lib.hid (K0.out.below hb2 K0.out.lt)
  have K1b := Lib.hid (K1.out.below hb2 K1.out.lt)
  have B2 := Lib.hid (B1.out.andThen hb2)
  have OW2 := Lib.hid (OW1.out.below hb2)
  have HS2 := Lib.hid (show w.heap.size + 2 ≤ w2.heap.size by have := S1.out; have := hb2.size; omega)
  clear hb2 hR hcap K0 K1 OW1 B1 SW
  have lc : (L.length : Int) ≤ (c : Int) := by have := HC.out; omega
  have HQ := Lib.hid hq
  clear hq
  have l1 : (1 : Int) ≤ (L.length : Int) := by omega
  have SN := Lib.hid (fun (W : World) (hW : WordS W (if c = 1 then some ⟨bw, 0, none⟩ else some ⟨bw, 1, none⟩) (L.drop 1)) => sNums_yes _ (L.length - 1) (c - 1) (L.drop 1) (by rw [List.length_drop]) 5 5 rfl W hW (by rw [List.length_drop]; have := HLL.out; omega) (fun a ha => HBL.out a (List.mem_of_mem_drop ha)) HQ.out)
  go_upto_region 10 with (go_at_call 26; refine (SN.out _ WS.out).mono ?_; rintro e w3 ⟨An, cn, rfl, hb3, hI⟩)
  have K0c := Lib.hid (K0b.out.below hb3 K0b.out.lt)
  have K1c := Lib.hid (K1b.out.below hb3 K1b.out.lt)
  have OW3 := Lib.hid (OW2.out.below hb3)
  have B3 := Lib.hid (B2.out.andThen hb3)
  have HW3 := Lib.hid (show w.heap.size + 2 ≤ w3.heap.size by have := HS2.out; have := hb3.size; omega)
  have HW2 := Lib.hid HS2.out
  have HI := Lib.hid hI
  have hlen := numsN_len HQ.out
  clear hI
  clear hb3 K0b K1b OW2 B2 SN
  generalize (if c = 1 then some ⟨bw, 0, none⟩ else some ⟨bw, 1, none⟩ : Option Addr) = aw at *
  have H4 := Lib.hid h4
  have h4' : ((X.cpus.length : Int) == 4) = false := by rw [beq_eq_false_iff_ne]; omega
  obtain ⟨gI0, rfl, hgi, hgB, n0⟩ := int_at HI.out (i := 0) (by omega)
  obtain ⟨_, e1, _, _, n1⟩ := int_at HI.out (i := 1) (by omega)
  cases e1
  obtain ⟨_, e1, _, _, n2⟩ := int_at HI.out (i := 2) (by omega)
  cases e1
  obtain ⟨_, e1, _, _, n3⟩ := int_at HI.out (i := 3) (by omega)
  cases e1
  obtain ⟨_, e1, _, _, n4⟩ := int_at HI.out (i := 4) (by omega)
  cases e1
  have il : (4 : Int) < (l.length : Int) := by omega
  have c0 := K0c.out.cell 0
  have c1 := K0c.out.cell 1
  have c2 := K0c.out.cell 2
  have c3 := K0c.out.cell 3
  have cf := fun i => K0c.out.frozen i
  simp at c0 c1 c2 c3
  go_upto_region 12 with (fail)
  clear h4 h4'
  have hk4 : X.cpus.length ≤ 1048576 := by omega
  have hbK : w.heap.size < w3.heap.size := K0c.out.lt
  have HCO := Lib.hid (fun j hj => (OW3.out.cpr.lt j hj))
  have HI0 := Lib.hid (show w.heap.size ≤ gI0 by have := hgB; have := HW2.out; omega)
  obtain ⟨g5, cap5, w5, hrun, hown5, hkeep5, hg5, hlt5, hB5⟩ := app_drew slC (by omega) (by omega) (ty := 22) (T' := 49) OW3.out.cpr (by have := B3.out.size; omega) hk4 [.bool (gI l 0 == 1), .int .i64 (gI l 1), .int .i64 (gI l 2), .int .i64 (gI l 3), .int .i64 (gI l 4)] rfl (by simp [Value.oneCell'])
  obtain ⟨F, hFt, hFf⟩ : ∃ F : Bool → World, F true = w3 ∧ F false = w5 := ⟨fun b => if b then w3 else w5, rfl, rfl⟩
  have qq0 := fun b d os => cell_regrown (both hFt hFf (p := fun W => W.cell? _ = some _) c1 (hkeep5.cell c1 (by omega) (fun e => by obtain ⟨a, ha, h9⟩ := ob e; have := (HOH.out a.block (.inl (by rw [ha, ← OW3.out.own.cpu.form ha]))).2; omega)) b) d os
  have qq1 := fun b d os => cell_regrown (both hFt hFf (p := fun W => W.cell? _ = some _) n0 (hkeep5.cell n0 hgi (fun e => by obtain ⟨a, ha, h9⟩ := ob e; have := (HOH.out a.block (.inl (by rw [ha, ← OW3.out.own.cpu.form ha]))).2; have := HI0.out; omega)) b) d os
  have qq2 := fun b d os => cell_regrown (both hFt hFf (p := fun W => W.cell? _ = some _) n1 (hkeep5.cell n1 hgi (fun e => by obtain ⟨a, ha, h9⟩ := ob e; have := (HOH.out a.block (.inl (by rw [ha, ← OW3.out.own.cpu.form ha]))).2; have := HI0.out; omega)) b) d os
  have qq3 := fun b d os => cell_regrown (both hFt hFf (p := fun W => W.cell? _ = some _) n2 (hkeep5.cell n2 hgi (fun e => by obtain ⟨a, ha, h9⟩ := ob e; have := (HOH.out a.block (.inl (by rw [ha, ← OW3.out.own.cpu.form ha]))).2; have := HI0.out; omega)) b) d os
  have qq4 := fun b d os => cell_regrown (both hFt hFf (p := fun W => W.cell? _ = some _) n3 (hkeep5.cell n3 hgi (fun e => by obtain ⟨a, ha, h9⟩ := ob e; have := (HOH.out a.block (.inl (by rw [ha, ← OW3.out.own.cpu.form ha]))).2; have := HI0.out; omega)) b) d os
  have qq5 := fun b d os => cell_regrown (both hFt hFf (p := fun W => W.cell? _ = some _) n4 (hkeep5.cell n4 hgi (fun e => by obtain ⟨a, ha, h9⟩ := ob e; have := (HOH.out a.block (.inl (by rw [ha, ← OW3.out.own.cpu.form ha]))).2; have := HI0.out; omega)) b) d os
  have HFt := Lib.hid hFt
  have HFf := Lib.hid hFf
  have HRUN := Lib.hid hrun
  clear hFt hFf hrun
  refine region_SC (twoC F) (twoC_drew true HFt.out) 22 [0, 0, 0, 0, 0, 0, 0, 0, 0, 0, 0, 0, 0, 0, 0, 0, 0, 0, 0, 1, 1, 0, 2] [0, 1, 2, 3, 4, 5, 6, 7, 8, 9, 10, 11, 12, 13, 14, 15, 16, 17, 18, 19, 20, 21, 22] (by kernel_rfl) (by kernel_rfl) (by kernel_rfl) rfl (by kernel_rfl) (by kernel_rfl) ?_
  simp only [permL, List.getElem?_cons_zero, List.getElem?_cons_succ, Option.toList_some, List.cons_append, List.nil_append]
  unfold twoC
  repeat (first | (refine wpS_skip (by rfl) ?_; simp only [Act.put, List.setIfInBounds_toArray, List.set_cons_zero, List.set_cons_succ]) | (refine wpS_det (by rfl) (fun K hK => ?_); go_big_quiet_op; refine hK _ ?_; clear hK K))
  refine wpS_bar (by rfl) (fun K hK => ?_)
  go_big_op
  refine hK _ _ (twoC_below true (by rw [HFt.out]; exact (Below.refl _ _).drew.alloc (Nat.le_refl _) _)) ?_
  clear hK K
  refine wpS_bar (by rfl) (fun K hK => ?_)
  refine wp_append_run rfl rfl rfl HRUN.out ?_
  refine hK _ _ (twoC_below false (by rw [HFf.out]; exact Below.refl _ _)) ?_
  clear hK K
  simp only [Act.put, List.setIfInBounds_toArray, List.set_cons_zero, List.set_cons_succ]
  repeat (first | (refine wpS_skip (by rfl) ?_; simp only [Act.put, List.setIfInBounds_toArray, List.set_cons_zero, List.set_cons_succ]) | (refine wpS_det (by rfl) (fun K hK => ?_); go_big_quiet_op; refine hK _ ?_; clear hK K))
  clear qq0 qq1 qq2 qq3 qq4 qq5
  have HNK := Lib.hid (show ¬ (Value.slice ca X.cpus.length cc).ownBlock = some w.heap.size from fun e => by obtain ⟨a, ha, h9⟩ := ob e; have := (HOH.out a.block (.inl (by rw [ha, ← OW3.out.own.cpu.form ha]))).2; omega)
  have HNK1 := Lib.hid (show ¬ (Value.slice ca X.cpus.length cc).ownBlock = some (w.heap.size + 1) from fun e => by obtain ⟨a, ha, h9⟩ := ob e; have := (HOH.out a.block (.inl (by rw [ha, ← OW3.out.own.cpu.form ha]))).2; omega)
  have K0w := Lib.hid (hkeep5.blk K0c.out HNK.out)
  have K1w := Lib.hid (hkeep5.blk K1c.out HNK1.out)
  have f3 := fun i => K0w.out.frozen i
  have z3 := K0w.out.cell 1
  simp at z3
  refine wpS_end (by rfl) (fun K hK => ?_)
  go_big_op
  refine hK _ _ ?_
  clear hK K
  refine wpS_nil ?_
  go_upto_region 13 with (fail)
  refine genR (p := fun W => Code.wp _ _ _ _ W) ?_
  intro w6 hw6
  have KS := Lib.hid (show Keep (fun j => j = w.heap.size) w5 w6 by rw [← hw6]; exact Keep.set _ _ _ rfl)
  have K0d := Lib.hid (show Blk w6 w.heap.size 26 #[.int .i64 X.now, .slice (some ⟨g5, 0, none⟩) (X.cpus.length + 1) cap5, .slice (some ⟨bt, 0, none⟩) X.tasks.length tc, .slice (some ⟨bg, 0, none⟩) X.groups.length gc] by rw [← hw6]; exact K0w.out.set_ 1 _)
  have K1d := Lib.hid (KS.out.blk K1w.out (by omega))
  have OW5 := Lib.hid (OW3.out.cpu (cpuOf l) hkeep5 hown5)
  have HN := Lib.hid (show ∀ i, Has (some ⟨g5, 0, none⟩) (some ⟨bt, 0, none⟩) (some ⟨bg, 0, none⟩) gh ({ X with cpus := X.cpus ++ [cpuOf l] } : WorldM).groups.length i → Has ca (some ⟨bt, 0, none⟩) (some ⟨bg, 0, none⟩) gh X.groups.length i ∨ w3.heap.size ≤ i from fun i hi => by
    rcases hi with hi | hi
    · cases hi
      rcases hg5 with h | h
      · obtain ⟨a, ha, h9⟩ := ob h
        exact .inl (.inl (by rw [ha, OW3.out.own.cpu.form ha, h9]))
      · exact .inr (Nat.le_of_lt h)
    · exact .inl (.inr hi))
  have OW6 := Lib.hid (OW5.out.keep KS.out fun i hi e => by rcases HN.out i hi with h | h; (have := (HOH.out i h).2; omega); (have := HW3.out; omega))
  have KE := Lib.hid (Keep.then_ (S' := fun j => j = w.heap.size) ((Keep.of_below (S := Has ca (some ⟨bt, 0, none⟩) (some ⟨bg, 0, none⟩) gh X.groups.length) B3.out).trans (hkeep5.mono fun j _ hj => by obtain ⟨a, ha, h9⟩ := ob hj; exact .inl (by rw [ha, ← h9, ← OW3.out.own.cpu.form ha]))) KS.out fun i hi e => by omega)
  clear HFt HFf HRUN hkeep5 hown5 hg5 hlt5 hB5 z3 f3 hw6 KS K0w K1w K0c K1c OW5 OW3 n0 n1 n2 n3 n4 hgi hgB HI HCO
  clear c0 c1 c2 c3 cf
  have c0 := K0d.out.cell 0
  have c1 := K0d.out.cell 1
  have c2 := K0d.out.cell 2
  have c3 := K0d.out.cell 3
  have cf := fun i => K0d.out.frozen i
  simp at c0 c1 c2 c3
  have d0 := K1d.out.cell 0
  have d1 := K1d.out.cell 1
  have d2 := K1d.out.cell 2
  have d3 := K1d.out.cell 3
  have df := fun i => K1d.out.frozen i
  simp at d0 d1 d2 d3
  go_wp2
  have kk := Lib.hid (show Keep (fun i => i = w.heap.size + 1) w6 ((((w6.setCell ⟨w.heap.size + 1, 0, none⟩ (.int .i64 X.now)).setCell ⟨w.heap.size + 1, 1, none⟩ (.slice (some ⟨g5, 0, none⟩) (X.cpus.length + 1) cap5)).setCell ⟨w.heap.size + 1, 2, none⟩ (.slice (some ⟨bt, 0, none⟩) X.tasks.length tc)).setCell ⟨w.heap.size + 1, 3, none⟩ (.slice (some ⟨bg, 0, none⟩) X.groups.length gc)) from ((((Keep.set _ _ _ (by rfl)).trans (Keep.set _ _ _ (by rfl))).trans (Keep.set _ _ _ (by rfl))).trans (Keep.set _ _ _ (by rfl))))
  refine bodyPost_ret (v := .tuple #[.agg #[.int .i64 X.now, .slice (some ⟨g5, 0, none⟩) (X.cpus.length + 1) cap5, .slice (some ⟨bt, 0, none⟩) X.tasks.length tc, .slice (some ⟨bg, 0, none⟩) X.groups.length gc], .bool true]) (by simp [results, Tryz.results10, go_sem, *]) rfl ⟨?_, (some ⟨g5, 0, none⟩), cap5, gh, by first | rfl | simp [setG, addS], ?_, ?_⟩
  · exact Keep.then_ (S' := fun i => i = w.heap.size + 1) KE.out kk.out fun i hi e => by omega
  · exact OW6.out.keep kk.out fun i hi e => by rcases HN.out i hi with h | h; (have := (HOH.out i h).2; omega); (have := HW3.out; omega)
  · intro i hi; exact (HN.out i hi).imp_right fun h => by have := HW3.out; omega
set_option maxRecDepth 100000 in
set_option maxHeartbeats 4000000 in
theorem sLine_group_len (bt bg : Nat) (ca : Option Addr) (cc tc gc : Nat) (gh : Nat → GH) (X : WorldM) (B : Nat) (w : World) (h : OwnR w B ca cc (some ⟨bt, 0, none⟩) (some ⟨bg, 0, none⟩) gh X) (hf : RFit X) (hB : B ≤ w.heap.size) (s : ByteArray) (hs : s.size ≤ 20000) (L : List (List UInt8)) (hL : cutB 32 s.data.toList = L) (h0 : 0 < L.length) (hw : L[0] = wGroup) (hn9 : L.length ≠ 9) :
    Calls Tryz.prog 10 #[.agg #[.int .i64 X.now, .slice ca X.cpus.length cc, .slice (some ⟨bt, 0, none⟩) X.tasks.length tc, .slice (some ⟨bg, 0, none⟩) X.groups.length gc], .string s] w (LPost bt bg ca cc tc gc gh X B none w) := by
  have q0 : ((strB L[0]).toList == [110, 111, 119]) = false := by rw [wd_eq]; exact decide_eq_false (by rw [hw]; decide)
  have q1 : ((strB L[0]).toList == [99, 112, 117]) = false := by rw [wd_eq]; exact decide_eq_false (by rw [hw]; decide)
  have q2 : ((strB L[0]).toList == [103, 114, 111, 117, 112]) = true := by rw [wd_eq]; exact decide_eq_true hw
  have HOH := Lib.hid (fun i hi => h.own.has (g := i) hi)
  have HF := Lib.hid hf
  have HG8 := Lib.hid hf.gl
  have HT12 := Lib.hid hf.task
  have hc4 := hf.cpu
  have hc0 : (X.cpus.length : Int) ≤ 4 := by omega
  have HBL := Lib.hid (show ∀ a ∈ L, a.length ≤ 20000 from fun a ha => by rw [← hL] at ha; have := cut_len ha; have := len_s s; omega)
  have HLL := Lib.hid (show L.length ≤ 20001 by rw [← hL]; have := cut_count 32 s.data.toList; have := len_s s; omega)
  have HP := Lib.hid h0
  have SW := Lib.hid (show ∀ W, Calls Tryz.prog 25 #[.string s] W (WordsOut L W) from fun W => by have := sWords_any s W hs; rw [hL] at this; exact this)
  have l0 : (0 : Int) < (L.length : Int) := by omega
  have HW := Lib.hid (head_at h0 hw)
  clear hL hs hf hw
  go_enter Tryz.func10, Tryz.ntmps10
  go_upto_region 1 with (fail)
  refine gen2 (p := fun W => Code.wp _ _ _ _ W) ?_
  intro W b1 s1 k0 k1
  have B1 := Lib.hid b1
  have K0 := Lib.hid k0
  have K1 := Lib.hid k1
  have S1 := Lib.hid s1
  have OW1 := Lib.hid (h.below b1)
  clear b1 k0 k1 s1 h
  go_upto_region 2 with (go_at_call 25; refine (SW.out _).mono ?_; rintro e w2 ⟨A, c, rfl, hb2, hR, hcap⟩)
  obtain ⟨bw, rfl, hbw, cw⟩ := word_at hR HP.out
  generalize strB L[0] = s0 at *
  have WS := Lib.hid ((WordS.of_row hR).tl hcap 2)
  have HC := Lib.hid hcap
  have HRW := Lib.hid hR
  have K0b := Lib.hid (K0.out.below hb2 K0.out.lt)
  have K1b := Lib.hid (K1.out.below hb2 K1.out.lt)
  have B2 := Lib.hid (B1.out.andThen hb2)
  have OW2 := Lib.hid (OW1.out.below hb2)
  have HS2 := Lib.hid (show w.heap.size + 2 ≤ w2.heap.size by have := S1.out; have := hb2.size; omega)
  clear hb2 hR hcap K0 K1 OW1 B1 SW
  have ne : ((L.length : Int) != 9) = true := by simp only [bne_iff_ne]; omega
  go_upto_region 16 with (fail)
  clear ne
  have KE := Lib.hid (Keep.of_below (S := Has ca (some ⟨bt, 0, none⟩) (some ⟨bg, 0, none⟩) gh X.groups.length) B2.out)
  have c0 := K0b.out.cell 0
  have c1 := K0b.out.cell 1
  have c2 := K0b.out.cell 2
  have c3 := K0b.out.cell 3
  have cf := fun i => K0b.out.frozen i
  simp at c0 c1 c2 c3
  have d0 := K1b.out.cell 0
  have d1 := K1b.out.cell 1
  have d2 := K1b.out.cell 2
  have d3 := K1b.out.cell 3
  have df := fun i => K1b.out.frozen i
  simp at d0 d1 d2 d3
  go_wp2
  have kk := Lib.hid (show Keep (fun i => i = w.heap.size + 1) w2 ((((w2.setCell ⟨w.heap.size + 1, 0, none⟩ (.int .i64 X.now)).setCell ⟨w.heap.size + 1, 1, none⟩ (.slice ca X.cpus.length cc)).setCell ⟨w.heap.size + 1, 2, none⟩ (.slice (some ⟨bt, 0, none⟩) X.tasks.length tc)).setCell ⟨w.heap.size + 1, 3, none⟩ (.slice (some ⟨bg, 0, none⟩) X.groups.length gc)) from ((((Keep.set _ _ _ (by rfl)).trans (Keep.set _ _ _ (by rfl))).trans (Keep.set _ _ _ (by rfl))).trans (Keep.set _ _ _ (by rfl))))
  refine bodyPost_ret (v := .tuple #[.agg #[.int .i64 X.now, .slice ca X.cpus.length cc, .slice (some ⟨bt, 0, none⟩) X.tasks.length tc, .slice (some ⟨bg, 0, none⟩) X.groups.length gc], .bool false]) (by simp [results, Tryz.results10, go_sem, *]) rfl ⟨?_, rfl⟩
  exact Keep.then_ (S' := fun i => i = w.heap.size + 1) KE.out kk.out fun i hi e => by omega
set_option maxRecDepth 100000 in
set_option maxHeartbeats 4000000 in
theorem sLine_group_no (bt bg : Nat) (ca : Option Addr) (cc tc gc : Nat) (gh : Nat → GH) (X : WorldM) (B : Nat) (w : World) (h : OwnR w B ca cc (some ⟨bt, 0, none⟩) (some ⟨bg, 0, none⟩) gh X) (hf : RFit X) (hB : B ≤ w.heap.size) (s : ByteArray) (hs : s.size ≤ 20000) (L : List (List UInt8)) (hL : cutB 32 s.data.toList = L) (h0 : 0 < L.length) (hw : L[0] = wGroup) (hn9 : L.length = 9) (hq : numsN (L.drop 2) 7 = none) :
    Calls Tryz.prog 10 #[.agg #[.int .i64 X.now, .slice ca X.cpus.length cc, .slice (some ⟨bt, 0, none⟩) X.tasks.length tc, .slice (some ⟨bg, 0, none⟩) X.groups.length gc], .string s] w (LPost bt bg ca cc tc gc gh X B none w) := by
  have q0 : ((strB L[0]).toList == [110, 111, 119]) = false := by rw [wd_eq]; exact decide_eq_false (by rw [hw]; decide)
  have q1 : ((strB L[0]).toList == [99, 112, 117]) = false := by rw [wd_eq]; exact decide_eq_false (by rw [hw]; decide)
  have q2 : ((strB L[0]).toList == [103, 114, 111, 117, 112]) = true := by rw [wd_eq]; exact decide_eq_true hw
  have HOH := Lib.hid (fun i hi => h.own.has (g := i) hi)
  have HF := Lib.hid hf
  have HG8 := Lib.hid hf.gl
  have HT12 := Lib.hid hf.task
  have hc4 := hf.cpu
  have hc0 : (X.cpus.length : Int) ≤ 4 := by omega
  have HBL := Lib.hid (show ∀ a ∈ L, a.length ≤ 20000 from fun a ha => by rw [← hL] at ha; have := cut_len ha; have := len_s s; omega)
  have HLL := Lib.hid (show L.length ≤ 20001 by rw [← hL]; have := cut_count 32 s.data.toList; have := len_s s; omega)
  have HP := Lib.hid h0
  have SW := Lib.hid (show ∀ W, Calls Tryz.prog 25 #[.string s] W (WordsOut L W) from fun W => by have := sWords_any s W hs; rw [hL] at this; exact this)
  have l0 : (0 : Int) < (L.length : Int) := by omega
  have HW := Lib.hid (head_at h0 hw)
  clear hL hs hf hw
  go_enter Tryz.func10, Tryz.ntmps10
  go_upto_region 1 with (fail)
  refine gen2 (p := fun W => Code.wp _ _ _ _ W) ?_
  intro W b1 s1 k0 k1
  have B1 := Lib.hid b1
  have K0 := Lib.hid k0
  have K1 := Lib.hid k1
  have S1 := Lib.hid s1
  have OW1 := Lib.hid (h.below b1)
  clear b1 k0 k1 s1 h
  go_upto_region 2 with (go_at_call 25; refine (SW.out _).mono ?_; rintro e w2 ⟨A, c, rfl, hb2, hR, hcap⟩)
  obtain ⟨bw, rfl, hbw, cw⟩ := word_at hR HP.out
  generalize strB L[0] = s0 at *
  have WS := Lib.hid ((WordS.of_row hR).tl hcap 2)
  have HC := Lib.hid hcap
  have HRW := Lib.hid hR
  have K0b := Lib.hid (K0.out.below hb2 K0.out.lt)
  have K1b := Lib.hid (K1.out.below hb2 K1.out.lt)
  have B2 := Lib.hid (B1.out.andThen hb2)
  have OW2 := Lib.hid (OW1.out.below hb2)
  have HS2 := Lib.hid (show w.heap.size + 2 ≤ w2.heap.size by have := S1.out; have := hb2.size; omega)
  clear hb2 hR hcap K0 K1 OW1 B1 SW
  have lc : (L.length : Int) ≤ (c : Int) := by have := HC.out; omega
  have HQ := Lib.hid hq
  clear hq
  have HN9 := Lib.hid hn9
  have ne : ((L.length : Int) != 9) = false := by simp; omega
  clear hn9
  have l1 : (2 : Int) ≤ (L.length : Int) := by rw [HN9.out]; decide
  have SN := Lib.hid (fun (W : World) (hW : WordS W (if c = 2 then some ⟨bw, 0, none⟩ else some ⟨bw, 2, none⟩) (L.drop 2)) => sNums_no _ 7 (c - 2) (L.drop 2) (by rw [List.length_drop, HN9.out]) 7 7 rfl W hW (by rw [List.length_drop]; have := HLL.out; omega) (fun a ha => HBL.out a (List.mem_of_mem_drop ha)) HQ.out)
  go_upto_region 17 with (fail)
  clear ne
  go_upto_region 19 with (go_at_call 26; refine (SN.out _ WS.out).mono ?_; rintro e w3 ⟨v, rfl, hb3⟩)
  have K0c := Lib.hid (K0b.out.below hb3 K0b.out.lt)
  have K1c := Lib.hid (K1b.out.below hb3 K1b.out.lt)
  have OW3 := Lib.hid (OW2.out.below hb3)
  have B3 := Lib.hid (B2.out.andThen hb3)
  have HW3 := Lib.hid (show w.heap.size + 2 ≤ w3.heap.size by have := HS2.out; have := hb3.size; omega)
  have HW2 := Lib.hid HS2.out
  have HRW3 := Lib.hid (HRW.out.below hb3)
  clear HRW
  clear hb3 K0b K1b OW2 B2 SN
  generalize (if c = 2 then some ⟨bw, 0, none⟩ else some ⟨bw, 2, none⟩ : Option Addr) = aw at *
  have KE := Lib.hid (Keep.of_below (S := Has ca (some ⟨bt, 0, none⟩) (some ⟨bg, 0, none⟩) gh X.groups.length) B3.out)
  have c0 := K0c.out.cell 0
  have c1 := K0c.out.cell 1
  have c2 := K0c.out.cell 2
  have c3 := K0c.out.cell 3
  have cf := fun i => K0c.out.frozen i
  simp at c0 c1 c2 c3
  have d0 := K1c.out.cell 0
  have d1 := K1c.out.cell 1
  have d2 := K1c.out.cell 2
  have d3 := K1c.out.cell 3
  have df := fun i => K1c.out.frozen i
  simp at d0 d1 d2 d3
  go_wp2
  have kk := Lib.hid (show Keep (fun i => i = w.heap.size + 1) w3 ((((w3.setCell ⟨w.heap.size + 1, 0, none⟩ (.int .i64 X.now)).setCell ⟨w.heap.size + 1, 1, none⟩ (.slice ca X.cpus.length cc)).setCell ⟨w.heap.size + 1, 2, none⟩ (.slice (some ⟨bt, 0, none⟩) X.tasks.length tc)).setCell ⟨w.heap.size + 1, 3, none⟩ (.slice (some ⟨bg, 0, none⟩) X.groups.length gc)) from ((((Keep.set _ _ _ (by rfl)).trans (Keep.set _ _ _ (by rfl))).trans (Keep.set _ _ _ (by rfl))).trans (Keep.set _ _ _ (by rfl))))
  refine bodyPost_ret (v := .tuple #[.agg #[.int .i64 X.now, .slice ca X.cpus.length cc, .slice (some ⟨bt, 0, none⟩) X.tasks.length tc, .slice (some ⟨bg, 0, none⟩) X.groups.length gc], .bool false]) (by simp [results, Tryz.results10, go_sem, *]) rfl ⟨?_, rfl⟩
  exact Keep.then_ (S' := fun i => i = w.heap.size + 1) KE.out kk.out fun i hi e => by omega
set_option maxRecDepth 100000 in
set_option maxHeartbeats 4000000 in
theorem sLine_group_off (bt bg : Nat) (ca : Option Addr) (cc tc gc : Nat) (gh : Nat → GH) (X : WorldM) (B : Nat) (w : World) (h : OwnR w B ca cc (some ⟨bt, 0, none⟩) (some ⟨bg, 0, none⟩) gh X) (hf : RFit X) (hB : B ≤ w.heap.size) (s : ByteArray) (hs : s.size ≤ 20000) (L : List (List UInt8)) (hL : cutB 32 s.data.toList = L) (h0 : 0 < L.length) (hw : L[0] = wGroup) (hn9 : L.length = 9) {l : List Int} (hq : numsN (L.drop 2) 7 = some l) (hr : inR (gI l 0) 0 7 = false) :
    Calls Tryz.prog 10 #[.agg #[.int .i64 X.now, .slice ca X.cpus.length cc, .slice (some ⟨bt, 0, none⟩) X.tasks.length tc, .slice (some ⟨bg, 0, none⟩) X.groups.length gc], .string s] w (LPost bt bg ca cc tc gc gh X B none w) := by
  have q0 : ((strB L[0]).toList == [110, 111, 119]) = false := by rw [wd_eq]; exact decide_eq_false (by rw [hw]; decide)
  have q1 : ((strB L[0]).toList == [99, 112, 117]) = false := by rw [wd_eq]; exact decide_eq_false (by rw [hw]; decide)
  have q2 : ((strB L[0]).toList == [103, 114, 111, 117, 112]) = true := by rw [wd_eq]; exact decide_eq_true hw
  have HOH := Lib.hid (fun i hi => h.own.has (g := i) hi)
  have HF := Lib.hid hf
  have HG8 := Lib.hid hf.gl
  have HT12 := Lib.hid hf.task
  have hc4 := hf.cpu
  have hc0 : (X.cpus.length : Int) ≤ 4 := by omega
  have HBL := Lib.hid (show ∀ a ∈ L, a.length ≤ 20000 from fun a ha => by rw [← hL] at ha; have := cut_len ha; have := len_s s; omega)
  have HLL := Lib.hid (show L.length ≤ 20001 by rw [← hL]; have := cut_count 32 s.data.toList; have := len_s s; omega)
  have HP := Lib.hid h0
  have SW := Lib.hid (show ∀ W, Calls Tryz.prog 25 #[.string s] W (WordsOut L W) from fun W => by have := sWords_any s W hs; rw [hL] at this; exact this)
  have l0 : (0 : Int) < (L.length : Int) := by omega
  have HW := Lib.hid (head_at h0 hw)
  clear hL hs hf hw
  go_enter Tryz.func10, Tryz.ntmps10
  go_upto_region 1 with (fail)
  refine gen2 (p := fun W => Code.wp _ _ _ _ W) ?_
  intro W b1 s1 k0 k1
  have B1 := Lib.hid b1
  have K0 := Lib.hid k0
  have K1 := Lib.hid k1
  have S1 := Lib.hid s1
  have OW1 := Lib.hid (h.below b1)
  clear b1 k0 k1 s1 h
  go_upto_region 2 with (go_at_call 25; refine (SW.out _).mono ?_; rintro e w2 ⟨A, c, rfl, hb2, hR, hcap⟩)
  obtain ⟨bw, rfl, hbw, cw⟩ := word_at hR HP.out
  generalize strB L[0] = s0 at *
  have WS := Lib.hid ((WordS.of_row hR).tl hcap 2)
  have HC := Lib.hid hcap
  have HRW := Lib.hid hR
  have K0b := Lib.hid (K0.out.below hb2 K0.out.lt)
  have K1b := Lib.hid (K1.out.below hb2 K1.out.lt)
  have B2 := Lib.hid (B1.out.andThen hb2)
  have OW2 := Lib.hid (OW1.out.below hb2)
  have HS2 := Lib.hid (show w.heap.size + 2 ≤ w2.heap.size by have := S1.out; have := hb2.size; omega)
  clear hb2 hR hcap K0 K1 OW1 B1 SW
  have lc : (L.length : Int) ≤ (c : Int) := by have := HC.out; omega
  have HQ := Lib.hid hq
  clear hq
  have HN9 := Lib.hid hn9
  have ne : ((L.length : Int) != 9) = false := by simp; omega
  clear hn9
  have l1 : (2 : Int) ≤ (L.length : Int) := by rw [HN9.out]; decide
  have SN := Lib.hid (fun (W : World) (hW : WordS W (if c = 2 then some ⟨bw, 0, none⟩ else some ⟨bw, 2, none⟩) (L.drop 2)) => sNums_yes _ 7 (c - 2) (L.drop 2) (by rw [List.length_drop, HN9.out]) 7 7 rfl W hW (by rw [List.length_drop]; have := HLL.out; omega) (fun a ha => HBL.out a (List.mem_of_mem_drop ha)) HQ.out)
  go_upto_region 17 with (fail)
  clear ne
  go_upto_region 18 with (go_at_call 26; refine (SN.out _ WS.out).mono ?_; rintro e w3 ⟨An, cn, rfl, hb3, hI⟩)
  have K0c := Lib.hid (K0b.out.below hb3 K0b.out.lt)
  have K1c := Lib.hid (K1b.out.below hb3 K1b.out.lt)
  have OW3 := Lib.hid (OW2.out.below hb3)
  have B3 := Lib.hid (B2.out.andThen hb3)
  have HW3 := Lib.hid (show w.heap.size + 2 ≤ w3.heap.size by have := HS2.out; have := hb3.size; omega)
  have HW2 := Lib.hid HS2.out
  have HI := Lib.hid hI
  have hlen := numsN_len HQ.out
  clear hI
  have HRW3 := Lib.hid (HRW.out.below hb3)
  clear HRW
  clear hb3 K0b K1b OW2 B2 SN
  generalize (if c = 2 then some ⟨bw, 0, none⟩ else some ⟨bw, 2, none⟩ : Option Addr) = aw at *
  have HR := Lib.hid hr
  clear hr
  obtain ⟨gI0, rfl, hgi, hgB, n0⟩ := int_at HI.out (i := 0) (by omega)
  have il : (0 : Int) < (l.length : Int) := by omega
  go_upto_region 19 with (go_at_call 27; refine (sl1In_any _ _ _ _).mono ?_; rintro e w' ⟨rfl, rfl⟩; rw [HR.out])
  have KE := Lib.hid (Keep.of_below (S := Has ca (some ⟨bt, 0, none⟩) (some ⟨bg, 0, none⟩) gh X.groups.length) B3.out)
  have c0 := K0c.out.cell 0
  have c1 := K0c.out.cell 1
  have c2 := K0c.out.cell 2
  have c3 := K0c.out.cell 3
  have cf := fun i => K0c.out.frozen i
  simp at c0 c1 c2 c3
  have d0 := K1c.out.cell 0
  have d1 := K1c.out.cell 1
  have d2 := K1c.out.cell 2
  have d3 := K1c.out.cell 3
  have df := fun i => K1c.out.frozen i
  simp at d0 d1 d2 d3
  go_wp2
  have kk := Lib.hid (show Keep (fun i => i = w.heap.size + 1) w3 ((((w3.setCell ⟨w.heap.size + 1, 0, none⟩ (.int .i64 X.now)).setCell ⟨w.heap.size + 1, 1, none⟩ (.slice ca X.cpus.length cc)).setCell ⟨w.heap.size + 1, 2, none⟩ (.slice (some ⟨bt, 0, none⟩) X.tasks.length tc)).setCell ⟨w.heap.size + 1, 3, none⟩ (.slice (some ⟨bg, 0, none⟩) X.groups.length gc)) from ((((Keep.set _ _ _ (by rfl)).trans (Keep.set _ _ _ (by rfl))).trans (Keep.set _ _ _ (by rfl))).trans (Keep.set _ _ _ (by rfl))))
  refine bodyPost_ret (v := .tuple #[.agg #[.int .i64 X.now, .slice ca X.cpus.length cc, .slice (some ⟨bt, 0, none⟩) X.tasks.length tc, .slice (some ⟨bg, 0, none⟩) X.groups.length gc], .bool false]) (by simp [results, Tryz.results10, go_sem, *]) rfl ⟨?_, rfl⟩
  exact Keep.then_ (S' := fun i => i = w.heap.size + 1) KE.out kk.out fun i hi e => by omega
def gl (nm : ByteArray) (l : List Int) : List (Nat × Value) := [(0, .bool true), (1, .int .i64 (gI l 1)), (2, .string nm), (3, .int .i64 (gI l 2)), (4, .int .i64 (gI l 3)), (5, .int .i64 (gI l 4)), (6, .int .i64 (gI l 5)), (7, .int .i64 (gI l 6)), (8, .int .i64 0), (9, .int .i64 0), (10, .int .i64 0), (11, .slice none 0 0), (12, .slice none 0 0), (13, .slice none 0 0)]
theorem gl_cells (nm : ByteArray) (l : List Int) (v : Nat → Value) : ∀ i, i < 14 → upd (gl nm l) v i = groupF (groupOf nm l) nilH i
  | 0, _ => rfl
  | 1, _ => rfl
  | 2, _ => rfl
  | 3, _ => rfl
  | 4, _ => rfl
  | 5, _ => rfl
  | 6, _ => rfl
  | 7, _ => rfl
  | 8, _ => rfl
  | 9, _ => rfl
  | 10, _ => rfl
  | 11, _ => rfl
  | 12, _ => rfl
  | 13, _ => rfl
  | i + 14, h => absurd h (by omega)
set_option maxRecDepth 100000 in
set_option maxHeartbeats 4000000 in
theorem sLine_group_root (bt bg : Nat) (ca : Option Addr) (cc tc gc : Nat) (gh : Nat → GH) (X : WorldM) (B : Nat) (w : World) (h : OwnR w B ca cc (some ⟨bt, 0, none⟩) (some ⟨bg, 0, none⟩) gh X) (hf : RFit X) (hB : B ≤ w.heap.size) (s : ByteArray) (hs : s.size ≤ 20000) (L : List (List UInt8)) (hL : cutB 32 s.data.toList = L) (h0 : 0 < L.length) (hw : L[0] = wGroup) (hn9 : L.length = 9) {l : List Int} (hq : numsN (L.drop 2) 7 = some l) (h91 : 1 < L.length) (g : Nat) (hg : gI l 0 = g) (hg8 : g < 8) (hz : g = 0) :
    Calls Tryz.prog 10 #[.agg #[.int .i64 X.now, .slice ca X.cpus.length cc, .slice (some ⟨bt, 0, none⟩) X.tasks.length tc, .slice (some ⟨bg, 0, none⟩) X.groups.length gc], .string s] w (LPost bt bg ca cc tc gc gh X B (some (setG X g (groupOf .empty l))) w) := by
  have q0 : ((strB L[0]).toList == [110, 111, 119]) = false := by rw [wd_eq]; exact decide_eq_false (by rw [hw]; decide)
  have q1 : ((strB L[0]).toList == [99, 112, 117]) = false := by rw [wd_eq]; exact decide_eq_false (by rw [hw]; decide)
  have q2 : ((strB L[0]).toList == [103, 114, 111, 117, 112]) = true := by rw [wd_eq]; exact decide_eq_true hw
  have HOH := Lib.hid (fun i hi => h.own.has (g := i) hi)
  have HF := Lib.hid hf
  have HG8 := Lib.hid hf.gl
  have HT12 := Lib.hid hf.task
  have hc4 := hf.cpu
  have hc0 : (X.cpus.length : Int) ≤ 4 := by omega
  have HBL := Lib.hid (show ∀ a ∈ L, a.length ≤ 20000 from fun a ha => by rw [← hL] at ha; have := cut_len ha; have := len_s s; omega)
  have HLL := Lib.hid (show L.length ≤ 20001 by rw [← hL]; have := cut_count 32 s.data.toList; have := len_s s; omega)
  have HP := Lib.hid h0
  have SW := Lib.hid (show ∀ W, Calls Tryz.prog 25 #[.string s] W (WordsOut L W) from fun W => by have := sWords_any s W hs; rw [hL] at this; exact this)
  have l0 : (0 : Int) < (L.length : Int) := by omega
  have HW := Lib.hid (head_at h0 hw)
  clear hL hs hf hw
  go_enter Tryz.func10, Tryz.ntmps10
  go_upto_region 1 with (fail)
  refine gen2 (p := fun W => Code.wp _ _ _ _ W) ?_
  intro W b1 s1 k0 k1
  have B1 := Lib.hid b1
  have K0 := Lib.hid k0
  have K1 := Lib.hid k1
  have S1 := Lib.hid s1
  have OW1 := Lib.hid (h.below b1)
  clear b1 k0 k1 s1 h
  go_upto_region 2 with (go_at_call 25; refine (SW.out _).mono ?_; rintro e w2 ⟨A, c, rfl, hb2, hR, hcap⟩)
  obtain ⟨bw, rfl, hbw, cw⟩ := word_at hR HP.out
  generalize strB L[0] = s0 at *
  have WS := Lib.hid ((WordS.of_row hR).tl hcap 2)
  have HC := Lib.hid hcap
  have HRW := Lib.hid hR
  have K0b := Lib.hid (K0.out.below hb2 K0.out.lt)
  have K1b := Lib.hid (K1.out.below hb2 K1.out.lt)
  have B2 := Lib.hid (B1.out.andThen hb2)
  have OW2 := Lib.hid (OW1.out.below hb2)
  have HS2 := Lib.hid (show w.heap.size + 2 ≤ w2.heap.size by have := S1.out; have := hb2.size; omega)
  clear hb2 hR hcap K0 K1 OW1 B1 SW
  have lc : (L.length : Int) ≤ (c : Int) := by have := HC.out; omega
  have HQ := Lib.hid hq
  clear hq
  have HN9 := Lib.hid hn9
  have ne : ((L.length : Int) != 9) = false := by simp; omega
  clear hn9
  have l1 : (2 : Int) ≤ (L.length : Int) := by rw [HN9.out]; decide
  have SN := Lib.hid (fun (W : World) (hW : WordS W (if c = 2 then some ⟨bw, 0, none⟩ else some ⟨bw, 2, none⟩) (L.drop 2)) => sNums_yes _ 7 (c - 2) (L.drop 2) (by rw [List.length_drop, HN9.out]) 7 7 rfl W hW (by rw [List.length_drop]; have := HLL.out; omega) (fun a ha => HBL.out a (List.mem_of_mem_drop ha)) HQ.out)
  go_upto_region 17 with (fail)
  clear ne
  go_upto_region 18 with (go_at_call 26; refine (SN.out _ WS.out).mono ?_; rintro e w3 ⟨An, cn, rfl, hb3, hI⟩)
  have K0c := Lib.hid (K0b.out.below hb3 K0b.out.lt)
  have K1c := Lib.hid (K1b.out.below hb3 K1b.out.lt)
  have OW3 := Lib.hid (OW2.out.below hb3)
  have B3 := Lib.hid (B2.out.andThen hb3)
  have HW3 := Lib.hid (show w.heap.size + 2 ≤ w3.heap.size by have := HS2.out; have := hb3.size; omega)
  have HW2 := Lib.hid HS2.out
  have HI := Lib.hid hI
  have hlen := numsN_len HQ.out
  clear hI
  have HRW3 := Lib.hid (HRW.out.below hb3)
  clear HRW
  clear hb3 K0b K1b OW2 B2 SN
  generalize (if c = 2 then some ⟨bw, 0, none⟩ else some ⟨bw, 2, none⟩ : Option Addr) = aw at *
  have HR := Lib.hid (show inR (gI l 0) 0 7 = true by rw [hg, inR_iff]; omega)
  have HGE := Lib.hid hg
  have HG := Lib.hid (show g < X.groups.length by rw [HG8.out]; exact hg8)
  have gi0 : (0 : Int) ≤ (g : Int) := by omega
  have gi1 : (g : Int) < (X.groups.length : Int) := by rw [HG8.out]; omega
  clear hg
  obtain ⟨gI0, rfl, hgi, hgB, n0⟩ := int_at HI.out (i := 0) (by omega)
  obtain ⟨_, e1, _, _, n1⟩ := int_at HI.out (i := 1) (by omega)
  cases e1
  obtain ⟨_, e1, _, _, n2⟩ := int_at HI.out (i := 2) (by omega)
  cases e1
  obtain ⟨_, e1, _, _, n3⟩ := int_at HI.out (i := 3) (by omega)
  cases e1
  obtain ⟨_, e1, _, _, n4⟩ := int_at HI.out (i := 4) (by omega)
  cases e1
  obtain ⟨_, e1, _, _, n5⟩ := int_at HI.out (i := 5) (by omega)
  cases e1
  obtain ⟨_, e1, _, _, n6⟩ := int_at HI.out (i := 6) (by omega)
  cases e1
  have il : (6 : Int) < (l.length : Int) := by omega
  rw [HGE.out] at n0
  have HZ := Lib.hid hz
  clear hz
  obtain ⟨_, e1, _, cw1⟩ := word_at HRW3.out (k := 1) h91
  cases e1
  have HR2 := Lib.hid (show inR (g : Int) 0 7 = true by rw [inR_iff]; omega)
  go_upto_region 21 with (go_at_call 27; refine (sl1In_any _ _ _ _).mono ?_; rintro e w' ⟨rfl, rfl⟩; rw [HR2.out])
  have gz : ((g : Int) == 0) = true := by have := HZ.out; subst this; rfl
  go_upto_region 23 with (fail)
  clear gz cw1
  have c0 := K0c.out.cell 0
  have c1 := K0c.out.cell 1
  have c2 := K0c.out.cell 2
  have c3 := K0c.out.cell 3
  have cf := fun i => K0c.out.frozen i
  simp at c0 c1 c2 c3
  obtain ⟨_, e, _, _, v0, f0⟩ := OW3.out.own.grps.cell (k := g) (i := 0) HG.out (by omega); cases e
  obtain ⟨_, e, _, _, v1, f1⟩ := OW3.out.own.grps.cell (k := g) (i := 1) HG.out (by omega); cases e
  obtain ⟨_, e, _, _, v2, f2⟩ := OW3.out.own.grps.cell (k := g) (i := 2) HG.out (by omega); cases e
  obtain ⟨_, e, _, _, v3, f3⟩ := OW3.out.own.grps.cell (k := g) (i := 3) HG.out (by omega); cases e
  obtain ⟨_, e, _, _, v4, f4⟩ := OW3.out.own.grps.cell (k := g) (i := 4) HG.out (by omega); cases e
  obtain ⟨_, e, _, _, v5, f5⟩ := OW3.out.own.grps.cell (k := g) (i := 5) HG.out (by omega); cases e
  obtain ⟨_, e, _, _, v6, f6⟩ := OW3.out.own.grps.cell (k := g) (i := 6) HG.out (by omega); cases e
  obtain ⟨_, e, _, _, v7, f7⟩ := OW3.out.own.grps.cell (k := g) (i := 7) HG.out (by omega); cases e
  obtain ⟨_, e, _, _, v8, f8⟩ := OW3.out.own.grps.cell (k := g) (i := 8) HG.out (by omega); cases e
  obtain ⟨_, e, _, _, v9, f9⟩ := OW3.out.own.grps.cell (k := g) (i := 9) HG.out (by omega); cases e
  obtain ⟨_, e, _, _, v10, f10⟩ := OW3.out.own.grps.cell (k := g) (i := 10) HG.out (by omega); cases e
  obtain ⟨_, e, _, _, v11, f11⟩ := OW3.out.own.grps.cell (k := g) (i := 11) HG.out (by omega); cases e
  obtain ⟨_, e, _, _, v12, f12⟩ := OW3.out.own.grps.cell (k := g) (i := 12) HG.out (by omega); cases e
  obtain ⟨_, e, _, _, v13, f13⟩ := OW3.out.own.grps.cell (k := g) (i := 13) HG.out (by omega); cases e
  simp only [Nat.add_zero] at v0 f0
  have z_c3 := fun d os => cell_regrown c3 d os
  have z_n0 := fun d os => cell_regrown n0 d os
  have z_n1 := fun d os => cell_regrown n1 d os
  have z_n2 := fun d os => cell_regrown n2 d os
  have z_n3 := fun d os => cell_regrown n3 d os
  have z_n4 := fun d os => cell_regrown n4 d os
  have z_n5 := fun d os => cell_regrown n5 d os
  have z_n6 := fun d os => cell_regrown n6 d os
  have z_v0 := fun d os => cell_regrown v0 d os
  have z_v1 := fun d os => cell_regrown v1 d os
  have z_v2 := fun d os => cell_regrown v2 d os
  have z_v3 := fun d os => cell_regrown v3 d os
  have z_v4 := fun d os => cell_regrown v4 d os
  have z_v5 := fun d os => cell_regrown v5 d os
  have z_v6 := fun d os => cell_regrown v6 d os
  have z_v7 := fun d os => cell_regrown v7 d os
  have z_v8 := fun d os => cell_regrown v8 d os
  have z_v9 := fun d os => cell_regrown v9 d os
  have z_v10 := fun d os => cell_regrown v10 d os
  have z_v11 := fun d os => cell_regrown v11 d os
  have z_v12 := fun d os => cell_regrown v12 d os
  have z_v13 := fun d os => cell_regrown v13 d os
  refine region_S 26 [0, 0, 0, 0, 0, 0, 0, 0, 0, 0, 0, 0, 0, 0, 0, 0, 0, 0, 0, 0, 0, 0, 0, 0, 0, 0, 2] [0, 1, 2, 3, 4, 5, 6, 7, 8, 9, 10, 11, 12, 13, 14, 15, 16, 17, 18, 19, 20, 21, 22, 23, 24, 25, 26] (by kernel_rfl) (by kernel_rfl) (by kernel_rfl) rfl (by kernel_rfl) (by kernel_rfl) ?_
  simp only [permL, List.getElem?_cons_zero, List.getElem?_cons_succ, Option.toList_some, List.cons_append, List.nil_append]
  repeat (first | (refine wpS_skip (by rfl) ?_; simp only [Act.put, List.setIfInBounds_toArray, List.set_cons_zero, List.set_cons_succ]) | (refine wpS_det (by rfl) (fun K hK => ?_); go_big_quiet_op; refine hK _ ?_; clear hK K))
  refine wpS_end (by rfl) (fun K hK => ?_)
  go_big_op
  refine hK _ _ ?_
  clear hK K
  refine wpS_nil ?_
  go_upto_region 24 with (fail)
  refine genR (p := fun W => Code.wp _ _ _ _ W) ?_
  intro w6 hw6
  have e6 : (Go.Proofs.YtomllcclallcdaaGreatDoor.wr bg 14 g (gl .empty l) w3).drew = w6 := hw6
  have OW6 := Lib.hid (show OwnR w6 B ca cc (some ⟨bt, 0, none⟩) (some ⟨bg, 0, none⟩) (hset gh g nilH) (setG X g (groupOf .empty l)) by rw [← e6]; exact (OW3.out.group HG.out (groupOf .empty l) rfl rfl (gl .empty l) (by simp [gl]) (gl_cells _ _)).below (Below.refl _ _).drew)
  have KK := Lib.hid (show Keep (fun j => j = bg) w3 w6 by rw [← e6]; exact (Keep.sets (S := fun j => j = bg) rfl _ _).trans (Keep.of_below (Below.refl _ _).drew))
  have HBG := Lib.hid (HOH.out bg (.inr (.inr (.inl rfl)))).2
  have HGS := Lib.hid (show (setG X g (groupOf .empty l)).groups.length = X.groups.length by simp [setG, addS])
  have HN := Lib.hid (show ∀ i, Has ca (some ⟨bt, 0, none⟩) (some ⟨bg, 0, none⟩) (hset gh g nilH) (setG X g (groupOf .empty l)).groups.length i → Has ca (some ⟨bt, 0, none⟩) (some ⟨bg, 0, none⟩) gh X.groups.length i ∨ w3.heap.size ≤ i from fun i hi => by
    rw [HGS.out] at hi
    exact has_set (x := nilH) (N := w3.heap.size) HG.out (fun _ h => by cases h) (fun _ h => by cases h) (fun _ h => by cases h) hi)
  have K0e := Lib.hid (KK.out.blk K0c.out (by have := HBG.out; omega))
  have K1e := Lib.hid (KK.out.blk K1c.out (by have := HBG.out; omega))
  have KE := Lib.hid ((Keep.of_below (S := Has ca (some ⟨bt, 0, none⟩) (some ⟨bg, 0, none⟩) gh X.groups.length) B3.out).trans (KK.out.mono fun j _ e => by subst e; exact .inr (.inr (.inl rfl))))
  clear hw6 e6 KK K0c K1c OW3 HI hgi hgB n0 n1 n2 n3 n4 n5 n6 v0 f0 v1 f1 v2 f2 v3 f3 v4 f4 v5 f5 v6 f6 v7 f7 v8 f8 v9 f9 v10 f10 v11 f11 v12 f12 v13 f13 z_c3 z_n0 z_n1 z_n2 z_n3 z_n4 z_n5 z_n6 z_v0 z_v1 z_v2 z_v3 z_v4 z_v5 z_v6 z_v7 z_v8 z_v9 z_v10 z_v11 z_v12 z_v13
  clear c0 c1 c2 c3 cf
  have c0 := K0e.out.cell 0
  have c1 := K0e.out.cell 1
  have c2 := K0e.out.cell 2
  have c3 := K0e.out.cell 3
  have cf := fun i => K0e.out.frozen i
  simp at c0 c1 c2 c3
  have d0 := K1e.out.cell 0
  have d1 := K1e.out.cell 1
  have d2 := K1e.out.cell 2
  have d3 := K1e.out.cell 3
  have df := fun i => K1e.out.frozen i
  simp at d0 d1 d2 d3
  go_wp2
  have kk := Lib.hid (show Keep (fun i => i = w.heap.size + 1) w6 ((((w6.setCell ⟨w.heap.size + 1, 0, none⟩ (.int .i64 X.now)).setCell ⟨w.heap.size + 1, 1, none⟩ (.slice ca X.cpus.length cc)).setCell ⟨w.heap.size + 1, 2, none⟩ (.slice (some ⟨bt, 0, none⟩) X.tasks.length tc)).setCell ⟨w.heap.size + 1, 3, none⟩ (.slice (some ⟨bg, 0, none⟩) X.groups.length gc)) from ((((Keep.set _ _ _ (by rfl)).trans (Keep.set _ _ _ (by rfl))).trans (Keep.set _ _ _ (by rfl))).trans (Keep.set _ _ _ (by rfl))))
  refine bodyPost_ret (v := .tuple #[.agg #[.int .i64 X.now, .slice ca X.cpus.length cc, .slice (some ⟨bt, 0, none⟩) X.tasks.length tc, .slice (some ⟨bg, 0, none⟩) X.groups.length gc], .bool true]) (by simp [results, Tryz.results10, go_sem, *]) rfl ⟨?_, ca, cc, (hset gh g nilH), by first | rfl | simp [setG, addS], ?_, ?_⟩
  · exact Keep.then_ (S' := fun i => i = w.heap.size + 1) KE.out kk.out fun i hi e => by omega
  · exact OW6.out.keep kk.out fun i hi e => by rcases HN.out i hi with h | h; (have := (HOH.out i h).2; omega); (have := HW3.out; omega)
  · intro i hi; exact (HN.out i hi).imp_right fun h => by have := HW3.out; omega
set_option maxRecDepth 100000 in
set_option maxHeartbeats 4000000 in
theorem sLine_group_kid (bt bg : Nat) (ca : Option Addr) (cc tc gc : Nat) (gh : Nat → GH) (X : WorldM) (B : Nat) (w : World) (h : OwnR w B ca cc (some ⟨bt, 0, none⟩) (some ⟨bg, 0, none⟩) gh X) (hf : RFit X) (hB : B ≤ w.heap.size) (s : ByteArray) (hs : s.size ≤ 20000) (L : List (List UInt8)) (hL : cutB 32 s.data.toList = L) (h0 : 0 < L.length) (hw : L[0] = wGroup) (hn9 : L.length = 9) {l : List Int} (hq : numsN (L.drop 2) 7 = some l) (h91 : 1 < L.length) (g : Nat) (hg : gI l 0 = g) (hg8 : g < 8) (hz : g ≠ 0) :
    Calls Tryz.prog 10 #[.agg #[.int .i64 X.now, .slice ca X.cpus.length cc, .slice (some ⟨bt, 0, none⟩) X.tasks.length tc, .slice (some ⟨bg, 0, none⟩) X.groups.length gc], .string s] w (LPost bt bg ca cc tc gc gh X B (some (setG X g (groupOf (strB L[1]) l))) w) := by
  have q0 : ((strB L[0]).toList == [110, 111, 119]) = false := by rw [wd_eq]; exact decide_eq_false (by rw [hw]; decide)
  have q1 : ((strB L[0]).toList == [99, 112, 117]) = false := by rw [wd_eq]; exact decide_eq_false (by rw [hw]; decide)
  have q2 : ((strB L[0]).toList == [103, 114, 111, 117, 112]) = true := by rw [wd_eq]; exact decide_eq_true hw
  have HOH := Lib.hid (fun i hi => h.own.has (g := i) hi)
  have HF := Lib.hid hf
  have HG8 := Lib.hid hf.gl
  have HT12 := Lib.hid hf.task
  have hc4 := hf.cpu
  have hc0 : (X.cpus.length : Int) ≤ 4 := by omega
  have HBL := Lib.hid (show ∀ a ∈ L, a.length ≤ 20000 from fun a ha => by rw [← hL] at ha; have := cut_len ha; have := len_s s; omega)
  have HLL := Lib.hid (show L.length ≤ 20001 by rw [← hL]; have := cut_count 32 s.data.toList; have := len_s s; omega)
  have HP := Lib.hid h0
  have SW := Lib.hid (show ∀ W, Calls Tryz.prog 25 #[.string s] W (WordsOut L W) from fun W => by have := sWords_any s W hs; rw [hL] at this; exact this)
  have l0 : (0 : Int) < (L.length : Int) := by omega
  have HW := Lib.hid (head_at h0 hw)
  clear hL hs hf hw
  go_enter Tryz.func10, Tryz.ntmps10
  go_upto_region 1 with (fail)
  refine gen2 (p := fun W => Code.wp _ _ _ _ W) ?_
  intro W b1 s1 k0 k1
  have B1 := Lib.hid b1
  have K0 := Lib.hid k0
  have K1 := Lib.hid k1
  have S1 := Lib.hid s1
  have OW1 := Lib.hid (h.below b1)
  clear b1 k0 k1 s1 h
  go_upto_region 2 with (go_at_call 25; refine (SW.out _).mono ?_; rintro e w2 ⟨A, c, rfl, hb2, hR, hcap⟩)
  obtain ⟨bw, rfl, hbw, cw⟩ := word_at hR HP.out
  generalize strB L[0] = s0 at *
  have WS := Lib.hid ((WordS.of_row hR).tl hcap 2)
  have HC := Lib.hid hcap
  have HRW := Lib.hid hR
  have K0b := Lib.hid (K0.out.below hb2 K0.out.lt)
  have K1b := Lib.hid (K1.out.below hb2 K1.out.lt)
  have B2 := Lib.hid (B1.out.andThen hb2)
  have OW2 := Lib.hid (OW1.out.below hb2)
  have HS2 := Lib.hid (show w.heap.size + 2 ≤ w2.heap.size by have := S1.out; have := hb2.size; omega)
  clear hb2 hR hcap K0 K1 OW1 B1 SW
  have lc : (L.length : Int) ≤ (c : Int) := by have := HC.out; omega
  have HQ := Lib.hid hq
  clear hq
  have HN9 := Lib.hid hn9
  have ne : ((L.length : Int) != 9) = false := by simp; omega
  clear hn9
  have l1 : (2 : Int) ≤ (L.length : Int) := by rw [HN9.out]; decide
  have SN := Lib.hid (fun (W : World) (hW : WordS W (if c = 2 then some ⟨bw, 0, none⟩ else some ⟨bw, 2, none⟩) (L.drop 2)) => sNums_yes _ 7 (c - 2) (L.drop 2) (by rw [List.length_drop, HN9.out]) 7 7 rfl W hW (by rw [List.length_drop]; have := HLL.out; omega) (fun a ha => HBL.out a (List.mem_of_mem_drop ha)) HQ.out)
  go_upto_region 17 with (fail)
  clear ne
  go_upto_region 18 with (go_at_call 26; refine (SN.out _ WS.out).mono ?_; rintro e w3 ⟨An, cn, rfl, hb3, hI⟩)
  have K0c := Lib.hid (K0b.out.below hb3 K0b.out.lt)
  have K1c := Lib.hid (K1b.out.below hb3 K1b.out.lt)
  have OW3 := Lib.hid (OW2.out.below hb3)
  have B3 := Lib.hid (B2.out.andThen hb3)
  have HW3 := Lib.hid (show w.heap.size + 2 ≤ w3.heap.size by have := HS2.out; have := hb3.size; omega)
  have HW2 := Lib.hid HS2.out
  have HI := Lib.hid hI
  have hlen := numsN_len HQ.out
  clear hI
  have HRW3 := Lib.hid (HRW.out.below hb3)
  clear HRW
  clear hb3 K0b K1b OW2 B2 SN
  generalize (if c = 2 then some ⟨bw, 0, none⟩ else some ⟨bw, 2, none⟩ : Option Addr) = aw at *
  have HR := Lib.hid (show inR (gI l 0) 0 7 = true by rw [hg, inR_iff]; omega)
  have HGE := Lib.hid hg
  have HG := Lib.hid (show g < X.groups.length by rw [HG8.out]; exact hg8)
  have gi0 : (0 : Int) ≤ (g : Int) := by omega
  have gi1 : (g : Int) < (X.groups.length : Int) := by rw [HG8.out]; omega
  clear hg
  obtain ⟨gI0, rfl, hgi, hgB, n0⟩ := int_at HI.out (i := 0) (by omega)
  obtain ⟨_, e1, _, _, n1⟩ := int_at HI.out (i := 1) (by omega)
  cases e1
  obtain ⟨_, e1, _, _, n2⟩ := int_at HI.out (i := 2) (by omega)
  cases e1
  obtain ⟨_, e1, _, _, n3⟩ := int_at HI.out (i := 3) (by omega)
  cases e1
  obtain ⟨_, e1, _, _, n4⟩ := int_at HI.out (i := 4) (by omega)
  cases e1
  obtain ⟨_, e1, _, _, n5⟩ := int_at HI.out (i := 5) (by omega)
  cases e1
  obtain ⟨_, e1, _, _, n6⟩ := int_at HI.out (i := 6) (by omega)
  cases e1
  have il : (6 : Int) < (l.length : Int) := by omega
  rw [HGE.out] at n0
  have HZ := Lib.hid hz
  clear hz
  obtain ⟨_, e1, _, cw1⟩ := word_at HRW3.out (k := 1) h91
  cases e1
  have HR2 := Lib.hid (show inR (g : Int) 0 7 = true by rw [inR_iff]; omega)
  go_upto_region 21 with (go_at_call 27; refine (sl1In_any _ _ _ _).mono ?_; rintro e w' ⟨rfl, rfl⟩; rw [HR2.out])
  have gz : ((g : Int) == 0) = false := by have := HZ.out; rw [beq_eq_false_iff_ne]; omega
  go_upto_region 23 with (fail)
  clear gz cw1
  have c0 := K0c.out.cell 0
  have c1 := K0c.out.cell 1
  have c2 := K0c.out.cell 2
  have c3 := K0c.out.cell 3
  have cf := fun i => K0c.out.frozen i
  simp at c0 c1 c2 c3
  obtain ⟨_, e, _, _, v0, f0⟩ := OW3.out.own.grps.cell (k := g) (i := 0) HG.out (by omega); cases e
  obtain ⟨_, e, _, _, v1, f1⟩ := OW3.out.own.grps.cell (k := g) (i := 1) HG.out (by omega); cases e
  obtain ⟨_, e, _, _, v2, f2⟩ := OW3.out.own.grps.cell (k := g) (i := 2) HG.out (by omega); cases e
  obtain ⟨_, e, _, _, v3, f3⟩ := OW3.out.own.grps.cell (k := g) (i := 3) HG.out (by omega); cases e
  obtain ⟨_, e, _, _, v4, f4⟩ := OW3.out.own.grps.cell (k := g) (i := 4) HG.out (by omega); cases e
  obtain ⟨_, e, _, _, v5, f5⟩ := OW3.out.own.grps.cell (k := g) (i := 5) HG.out (by omega); cases e
  obtain ⟨_, e, _, _, v6, f6⟩ := OW3.out.own.grps.cell (k := g) (i := 6) HG.out (by omega); cases e
  obtain ⟨_, e, _, _, v7, f7⟩ := OW3.out.own.grps.cell (k := g) (i := 7) HG.out (by omega); cases e
  obtain ⟨_, e, _, _, v8, f8⟩ := OW3.out.own.grps.cell (k := g) (i := 8) HG.out (by omega); cases e
  obtain ⟨_, e, _, _, v9, f9⟩ := OW3.out.own.grps.cell (k := g) (i := 9) HG.out (by omega); cases e
  obtain ⟨_, e, _, _, v10, f10⟩ := OW3.out.own.grps.cell (k := g) (i := 10) HG.out (by omega); cases e
  obtain ⟨_, e, _, _, v11, f11⟩ := OW3.out.own.grps.cell (k := g) (i := 11) HG.out (by omega); cases e
  obtain ⟨_, e, _, _, v12, f12⟩ := OW3.out.own.grps.cell (k := g) (i := 12) HG.out (by omega); cases e
  obtain ⟨_, e, _, _, v13, f13⟩ := OW3.out.own.grps.cell (k := g) (i := 13) HG.out (by omega); cases e
  simp only [Nat.add_zero] at v0 f0
  have z_c3 := fun d os => cell_regrown c3 d os
  have z_n0 := fun d os => cell_regrown n0 d os
  have z_n1 := fun d os => cell_regrown n1 d os
  have z_n2 := fun d os => cell_regrown n2 d os
  have z_n3 := fun d os => cell_regrown n3 d os
  have z_n4 := fun d os => cell_regrown n4 d os
  have z_n5 := fun d os => cell_regrown n5 d os
  have z_n6 := fun d os => cell_regrown n6 d os
  have z_v0 := fun d os => cell_regrown v0 d os
  have z_v1 := fun d os => cell_regrown v1 d os
  have z_v2 := fun d os => cell_regrown v2 d os
  have z_v3 := fun d os => cell_regrown v3 d os
  have z_v4 := fun d os => cell_regrown v4 d os
  have z_v5 := fun d os => cell_regrown v5 d os
  have z_v6 := fun d os => cell_regrown v6 d os
  have z_v7 := fun d os => cell_regrown v7 d os
  have z_v8 := fun d os => cell_regrown v8 d os
  have z_v9 := fun d os => cell_regrown v9 d os
  have z_v10 := fun d os => cell_regrown v10 d os
  have z_v11 := fun d os => cell_regrown v11 d os
  have z_v12 := fun d os => cell_regrown v12 d os
  have z_v13 := fun d os => cell_regrown v13 d os
  refine region_S 26 [0, 0, 0, 0, 0, 0, 0, 0, 0, 0, 0, 0, 0, 0, 0, 0, 0, 0, 0, 0, 0, 0, 0, 0, 0, 0, 2] [0, 1, 2, 3, 4, 5, 6, 7, 8, 9, 10, 11, 12, 13, 14, 15, 16, 17, 18, 19, 20, 21, 22, 23, 24, 25, 26] (by kernel_rfl) (by kernel_rfl) (by kernel_rfl) rfl (by kernel_rfl) (by kernel_rfl) ?_
  simp only [permL, List.getElem?_cons_zero, List.getElem?_cons_succ, Option.toList_some, List.cons_append, List.nil_append]
  repeat (first | (refine wpS_skip (by rfl) ?_; simp only [Act.put, List.setIfInBounds_toArray, List.set_cons_zero, List.set_cons_succ]) | (refine wpS_det (by rfl) (fun K hK => ?_); go_big_quiet_op; refine hK _ ?_; clear hK K))
  refine wpS_end (by rfl) (fun K hK => ?_)
  go_big_op
  refine hK _ _ ?_
  clear hK K
  refine wpS_nil ?_
  go_upto_region 24 with (fail)
  refine genR (p := fun W => Code.wp _ _ _ _ W) ?_
  intro w6 hw6
  have e6 : (Go.Proofs.YtomllcclallcdaaGreatDoor.wr bg 14 g (gl (strB L[1]) l) w3).drew = w6 := hw6
  have OW6 := Lib.hid (show OwnR w6 B ca cc (some ⟨bt, 0, none⟩) (some ⟨bg, 0, none⟩) (hset gh g nilH) (setG X g (groupOf (strB L[1]) l)) by rw [← e6]; exact (OW3.out.group HG.out (groupOf (strB L[1]) l) rfl rfl (gl (strB L[1]) l) (by simp [gl]) (gl_cells _ _)).below (Below.refl _ _).drew)
  have KK := Lib.hid (show Keep (fun j => j = bg) w3 w6 by rw [← e6]; exact (Keep.sets (S := fun j => j = bg) rfl _ _).trans (Keep.of_below (Below.refl _ _).drew))
  have HBG := Lib.hid (HOH.out bg (.inr (.inr (.inl rfl)))).2
  have HGS := Lib.hid (show (setG X g (groupOf (strB L[1]) l)).groups.length = X.groups.length by simp [setG, addS])
  have HN := Lib.hid (show ∀ i, Has ca (some ⟨bt, 0, none⟩) (some ⟨bg, 0, none⟩) (hset gh g nilH) (setG X g (groupOf (strB L[1]) l)).groups.length i → Has ca (some ⟨bt, 0, none⟩) (some ⟨bg, 0, none⟩) gh X.groups.length i ∨ w3.heap.size ≤ i from fun i hi => by
    rw [HGS.out] at hi
    exact has_set (x := nilH) (N := w3.heap.size) HG.out (fun _ h => by cases h) (fun _ h => by cases h) (fun _ h => by cases h) hi)
  have K0e := Lib.hid (KK.out.blk K0c.out (by have := HBG.out; omega))
  have K1e := Lib.hid (KK.out.blk K1c.out (by have := HBG.out; omega))
  have KE := Lib.hid ((Keep.of_below (S := Has ca (some ⟨bt, 0, none⟩) (some ⟨bg, 0, none⟩) gh X.groups.length) B3.out).trans (KK.out.mono fun j _ e => by subst e; exact .inr (.inr (.inl rfl))))
  clear hw6 e6 KK K0c K1c OW3 HI hgi hgB n0 n1 n2 n3 n4 n5 n6 v0 f0 v1 f1 v2 f2 v3 f3 v4 f4 v5 f5 v6 f6 v7 f7 v8 f8 v9 f9 v10 f10 v11 f11 v12 f12 v13 f13 z_c3 z_n0 z_n1 z_n2 z_n3 z_n4 z_n5 z_n6 z_v0 z_v1 z_v2 z_v3 z_v4 z_v5 z_v6 z_v7 z_v8 z_v9 z_v10 z_v11 z_v12 z_v13
  clear c0 c1 c2 c3 cf
  have c0 := K0e.out.cell 0
  have c1 := K0e.out.cell 1
  have c2 := K0e.out.cell 2
  have c3 := K0e.out.cell 3
  have cf := fun i => K0e.out.frozen i
  simp at c0 c1 c2 c3
  have d0 := K1e.out.cell 0
  have d1 := K1e.out.cell 1
  have d2 := K1e.out.cell 2
  have d3 := K1e.out.cell 3
  have df := fun i => K1e.out.frozen i
  simp at d0 d1 d2 d3
  go_wp2
  have kk := Lib.hid (show Keep (fun i => i = w.heap.size + 1) w6 ((((w6.setCell ⟨w.heap.size + 1, 0, none⟩ (.int .i64 X.now)).setCell ⟨w.heap.size + 1, 1, none⟩ (.slice ca X.cpus.length cc)).setCell ⟨w.heap.size + 1, 2, none⟩ (.slice (some ⟨bt, 0, none⟩) X.tasks.length tc)).setCell ⟨w.heap.size + 1, 3, none⟩ (.slice (some ⟨bg, 0, none⟩) X.groups.length gc)) from ((((Keep.set _ _ _ (by rfl)).trans (Keep.set _ _ _ (by rfl))).trans (Keep.set _ _ _ (by rfl))).trans (Keep.set _ _ _ (by rfl))))
  refine bodyPost_ret (v := .tuple #[.agg #[.int .i64 X.now, .slice ca X.cpus.length cc, .slice (some ⟨bt, 0, none⟩) X.tasks.length tc, .slice (some ⟨bg, 0, none⟩) X.groups.length gc], .bool true]) (by simp [results, Tryz.results10, go_sem, *]) rfl ⟨?_, ca, cc, (hset gh g nilH), by first | rfl | simp [setG, addS], ?_, ?_⟩
  · exact Keep.then_ (S' := fun i => i = w.heap.size + 1) KE.out kk.out fun i hi e => by omega
  · exact OW6.out.keep kk.out fun i hi e => by rcases HN.out i hi with h | h; (have := (HOH.out i h).2; omega); (have := HW3.out; omega)
  · intro i hi; exact (HN.out i hi).imp_right fun h => by have := HW3.out; omega
set_option maxRecDepth 100000 in
set_option maxHeartbeats 4000000 in
theorem sLine_task_no (bt bg : Nat) (ca : Option Addr) (cc tc gc : Nat) (gh : Nat → GH) (X : WorldM) (B : Nat) (w : World) (h : OwnR w B ca cc (some ⟨bt, 0, none⟩) (some ⟨bg, 0, none⟩) gh X) (hf : RFit X) (hB : B ≤ w.heap.size) (s : ByteArray) (hs : s.size ≤ 20000) (L : List (List UInt8)) (hL : cutB 32 s.data.toList = L) (h0 : 0 < L.length) (hw : L[0] = wTask) (hq : numsN (L.drop 1) 10 = none) :
    Calls Tryz.prog 10 #[.agg #[.int .i64 X.now, .slice ca X.cpus.length cc, .slice (some ⟨bt, 0, none⟩) X.tasks.length tc, .slice (some ⟨bg, 0, none⟩) X.groups.length gc], .string s] w (LPost bt bg ca cc tc gc gh X B none w) := by
  have q0 : ((strB L[0]).toList == [110, 111, 119]) = false := by rw [wd_eq]; exact decide_eq_false (by rw [hw]; decide)
  have q1 : ((strB L[0]).toList == [99, 112, 117]) = false := by rw [wd_eq]; exact decide_eq_false (by rw [hw]; decide)
  have q2 : ((strB L[0]).toList == [103, 114, 111, 117, 112]) = false := by rw [wd_eq]; exact decide_eq_false (by rw [hw]; decide)
  have q3 : ((strB L[0]).toList == [115, 104, 101, 108, 102]) = false := by rw [wd_eq]; exact decide_eq_false (by rw [hw]; decide)
  have q4 : ((strB L[0]).toList == [98, 97, 110, 100]) = false := by rw [wd_eq]; exact decide_eq_false (by rw [hw]; decide)
  have q5 : ((strB L[0]).toList == [116, 97, 115, 107]) = true := by rw [wd_eq]; exact decide_eq_true hw
  have HOH := Lib.hid (fun i hi => h.own.has (g := i) hi)
  have HF := Lib.hid hf
  have HG8 := Lib.hid hf.gl
  have HT12 := Lib.hid hf.task
  have hc4 := hf.cpu
  have hc0 : (X.cpus.length : Int) ≤ 4 := by omega
  have HBL := Lib.hid (show ∀ a ∈ L, a.length ≤ 20000 from fun a ha => by rw [← hL] at ha; have := cut_len ha; have := len_s s; omega)
  have HLL := Lib.hid (show L.length ≤ 20001 by rw [← hL]; have := cut_count 32 s.data.toList; have := len_s s; omega)
  have HP := Lib.hid h0
  have SW := Lib.hid (show ∀ W, Calls Tryz.prog 25 #[.string s] W (WordsOut L W) from fun W => by have := sWords_any s W hs; rw [hL] at this; exact this)
  have l0 : (0 : Int) < (L.length : Int) := by omega
  have HW := Lib.hid (head_at h0 hw)
  clear hL hs hf hw
  go_enter Tryz.func10, Tryz.ntmps10
  go_upto_region 1 with (fail)
  refine gen2 (p := fun W => Code.wp _ _ _ _ W) ?_
  intro W b1 s1 k0 k1
  have B1 := Lib.hid b1
  have K0 := Lib.hid k0
  have K1 := Lib.hid k1
  have S1 := Lib.hid s1
  have OW1 := Lib.hid (h.below b1)
  clear b1 k0 k1 s1 h
  go_upto_region 2 with (go_at_call 25; refine (SW.out _).mono ?_; rintro e w2 ⟨A, c, rfl, hb2, hR, hcap⟩)
  obtain ⟨bw, rfl, hbw, cw⟩ := word_at hR HP.out
  generalize strB L[0] = s0 at *
  have WS := Lib.hid ((WordS.of_row hR).tl hcap 1)
  have HC := Lib.hid hcap
  have K0b := Lib.hid (K0.out.below hb2 K0.out.lt)
  have K1b := Lib.hid (K1.out.below hb2 K1.out.lt)
  have B2 := Lib.hid (B1.out.andThen hb2)
  have OW2 := Lib.hid (OW1.out.below hb2)
  have HS2 := Lib.hid (show w.heap.size + 2 ≤ w2.heap.size by have := S1.out; have := hb2.size; omega)
  clear hb2 hR hcap K0 K1 OW1 B1 SW
  have lc : (L.length : Int) ≤ (c : Int) := by have := HC.out; omega
  have HQ := Lib.hid hq
  clear hq
  have l1 : (1 : Int) ≤ (L.length : Int) := by omega
  have SN := Lib.hid (fun (W : World) (hW : WordS W (if c = 1 then some ⟨bw, 0, none⟩ else some ⟨bw, 1, none⟩) (L.drop 1)) => sNums_no _ (L.length - 1) (c - 1) (L.drop 1) (by rw [List.length_drop]) 10 10 rfl W hW (by rw [List.length_drop]; have := HLL.out; omega) (fun a ha => HBL.out a (List.mem_of_mem_drop ha)) HQ.out)
  go_upto_region 36 with (go_at_call 26; refine (SN.out _ WS.out).mono ?_; rintro e w3 ⟨v, rfl, hb3⟩)
  have K0c := Lib.hid (K0b.out.below hb3 K0b.out.lt)
  have K1c := Lib.hid (K1b.out.below hb3 K1b.out.lt)
  have OW3 := Lib.hid (OW2.out.below hb3)
  have B3 := Lib.hid (B2.out.andThen hb3)
  have HW3 := Lib.hid (show w.heap.size + 2 ≤ w3.heap.size by have := HS2.out; have := hb3.size; omega)
  have HW2 := Lib.hid HS2.out
  clear hb3 K0b K1b OW2 B2 SN
  generalize (if c = 1 then some ⟨bw, 0, none⟩ else some ⟨bw, 1, none⟩ : Option Addr) = aw at *
  have KE := Lib.hid (Keep.of_below (S := Has ca (some ⟨bt, 0, none⟩) (some ⟨bg, 0, none⟩) gh X.groups.length) B3.out)
  have c0 := K0c.out.cell 0
  have c1 := K0c.out.cell 1
  have c2 := K0c.out.cell 2
  have c3 := K0c.out.cell 3
  have cf := fun i => K0c.out.frozen i
  simp at c0 c1 c2 c3
  have d0 := K1c.out.cell 0
  have d1 := K1c.out.cell 1
  have d2 := K1c.out.cell 2
  have d3 := K1c.out.cell 3
  have df := fun i => K1c.out.frozen i
  simp at d0 d1 d2 d3
  go_wp2
  have kk := Lib.hid (show Keep (fun i => i = w.heap.size + 1) w3 ((((w3.setCell ⟨w.heap.size + 1, 0, none⟩ (.int .i64 X.now)).setCell ⟨w.heap.size + 1, 1, none⟩ (.slice ca X.cpus.length cc)).setCell ⟨w.heap.size + 1, 2, none⟩ (.slice (some ⟨bt, 0, none⟩) X.tasks.length tc)).setCell ⟨w.heap.size + 1, 3, none⟩ (.slice (some ⟨bg, 0, none⟩) X.groups.length gc)) from ((((Keep.set _ _ _ (by rfl)).trans (Keep.set _ _ _ (by rfl))).trans (Keep.set _ _ _ (by rfl))).trans (Keep.set _ _ _ (by rfl))))
  refine bodyPost_ret (v := .tuple #[.agg #[.int .i64 X.now, .slice ca X.cpus.length cc, .slice (some ⟨bt, 0, none⟩) X.tasks.length tc, .slice (some ⟨bg, 0, none⟩) X.groups.length gc], .bool false]) (by simp [results, Tryz.results10, go_sem, *]) rfl ⟨?_, rfl⟩
  exact Keep.then_ (S' := fun i => i = w.heap.size + 1) KE.out kk.out fun i hi e => by omega
set_option maxRecDepth 100000 in
set_option maxHeartbeats 4000000 in
theorem sLine_task_off (bt bg : Nat) (ca : Option Addr) (cc tc gc : Nat) (gh : Nat → GH) (X : WorldM) (B : Nat) (w : World) (h : OwnR w B ca cc (some ⟨bt, 0, none⟩) (some ⟨bg, 0, none⟩) gh X) (hf : RFit X) (hB : B ≤ w.heap.size) (s : ByteArray) (hs : s.size ≤ 20000) (L : List (List UInt8)) (hL : cutB 32 s.data.toList = L) (h0 : 0 < L.length) (hw : L[0] = wTask) {l : List Int} (hq : numsN (L.drop 1) 10 = some l) (hr : inR (gI l 0) 0 11 = false) :
    Calls Tryz.prog 10 #[.agg #[.int .i64 X.now, .slice ca X.cpus.length cc, .slice (some ⟨bt, 0, none⟩) X.tasks.length tc, .slice (some ⟨bg, 0, none⟩) X.groups.length gc], .string s] w (LPost bt bg ca cc tc gc gh X B none w) := by
  have q0 : ((strB L[0]).toList == [110, 111, 119]) = false := by rw [wd_eq]; exact decide_eq_false (by rw [hw]; decide)
  have q1 : ((strB L[0]).toList == [99, 112, 117]) = false := by rw [wd_eq]; exact decide_eq_false (by rw [hw]; decide)
  have q2 : ((strB L[0]).toList == [103, 114, 111, 117, 112]) = false := by rw [wd_eq]; exact decide_eq_false (by rw [hw]; decide)
  have q3 : ((strB L[0]).toList == [115, 104, 101, 108, 102]) = false := by rw [wd_eq]; exact decide_eq_false (by rw [hw]; decide)
  have q4 : ((strB L[0]).toList == [98, 97, 110, 100]) = false := by rw [wd_eq]; exact decide_eq_false (by rw [hw]; decide)
  have q5 : ((strB L[0]).toList == [116, 97, 115, 107]) = true := by rw [wd_eq]; exact decide_eq_true hw
  have HOH := Lib.hid (fun i hi => h.own.has (g := i) hi)
  have HF := Lib.hid hf
  have HG8 := Lib.hid hf.gl
  have HT12 := Lib.hid hf.task
  have hc4 := hf.cpu
  have hc0 : (X.cpus.length : Int) ≤ 4 := by omega
  have HBL := Lib.hid (show ∀ a ∈ L, a.length ≤ 20000 from fun a ha => by rw [← hL] at ha; have := cut_len ha; have := len_s s; omega)
  have HLL := Lib.hid (show L.length ≤ 20001 by rw [← hL]; have := cut_count 32 s.data.toList; have := len_s s; omega)
  have HP := Lib.hid h0
  have SW := Lib.hid (show ∀ W, Calls Tryz.prog 25 #[.string s] W (WordsOut L W) from fun W => by have := sWords_any s W hs; rw [hL] at this; exact this)
  have l0 : (0 : Int) < (L.length : Int) := by omega
  have HW := Lib.hid (head_at h0 hw)
  clear hL hs hf hw
  go_enter Tryz.func10, Tryz.ntmps10
  go_upto_region 1 with (fail)
  refine gen2 (p := fun W => Code.wp _ _ _ _ W) ?_
  intro W b1 s1 k0 k1
  have B1 := Lib.hid b1
  have K0 := Lib.hid k0
  have K1 := Lib.hid k1
  have S1 := Lib.hid s1
  have OW1 := Lib.hid (h.below b1)
  clear b1 k0 k1 s1 h
  go_upto_region 2 with (go_at_call 25; refine (SW.out _).mono ?_; rintro e w2 ⟨A, c, rfl, hb2, hR, hcap⟩)
  obtain ⟨bw, rfl, hbw, cw⟩ := word_at hR HP.out
  generalize strB L[0] = s0 at *
  have WS := Lib.hid ((WordS.of_row hR).tl hcap 1)
  have HC := Lib.hid hcap
  have K0b := Lib.hid (K0.out.below hb2 K0.out.lt)
  have K1b := Lib.hid (K1.out.below hb2 K1.out.lt)
  have B2 := Lib.hid (B1.out.andThen hb2)
  have OW2 := Lib.hid (OW1.out.below hb2)
  have HS2 := Lib.hid (show w.heap.size + 2 ≤ w2.heap.size by have := S1.out; have := hb2.size; omega)
  clear hb2 hR hcap K0 K1 OW1 B1 SW
  have lc : (L.length : Int) ≤ (c : Int) := by have := HC.out; omega
  have HQ := Lib.hid hq
  clear hq
  have l1 : (1 : Int) ≤ (L.length : Int) := by omega
  have SN := Lib.hid (fun (W : World) (hW : WordS W (if c = 1 then some ⟨bw, 0, none⟩ else some ⟨bw, 1, none⟩) (L.drop 1)) => sNums_yes _ (L.length - 1) (c - 1) (L.drop 1) (by rw [List.length_drop]) 10 10 rfl W hW (by rw [List.length_drop]; have := HLL.out; omega) (fun a ha => HBL.out a (List.mem_of_mem_drop ha)) HQ.out)
  go_upto_region 35 with (go_at_call 26; refine (SN.out _ WS.out).mono ?_; rintro e w3 ⟨An, cn, rfl, hb3, hI⟩)
  have K0c := Lib.hid (K0b.out.below hb3 K0b.out.lt)
  have K1c := Lib.hid (K1b.out.below hb3 K1b.out.lt)
  have OW3 := Lib.hid (OW2.out.below hb3)
  have B3 := Lib.hid (B2.out.andThen hb3)
  have HW3 := Lib.hid (show w.heap.size + 2 ≤ w3.heap.size by have := HS2.out; have := hb3.size; omega)
  have HW2 := Lib.hid HS2.out
  have HI := Lib.hid hI
  have hlen := numsN_len HQ.out
  clear hI
  clear hb3 K0b K1b OW2 B2 SN
  generalize (if c = 1 then some ⟨bw, 0, none⟩ else some ⟨bw, 1, none⟩ : Option Addr) = aw at *
  have HR := Lib.hid hr
  clear hr
  obtain ⟨gI0, rfl, hgi, hgB, n0⟩ := int_at HI.out (i := 0) (by omega)
  have il : (0 : Int) < (l.length : Int) := by omega
  go_upto_region 36 with (go_at_call 27; refine (sl1In_any _ _ _ _).mono ?_; rintro e w' ⟨rfl, rfl⟩; rw [HR.out])
  have KE := Lib.hid (Keep.of_below (S := Has ca (some ⟨bt, 0, none⟩) (some ⟨bg, 0, none⟩) gh X.groups.length) B3.out)
  have c0 := K0c.out.cell 0
  have c1 := K0c.out.cell 1
  have c2 := K0c.out.cell 2
  have c3 := K0c.out.cell 3
  have cf := fun i => K0c.out.frozen i
  simp at c0 c1 c2 c3
  have d0 := K1c.out.cell 0
  have d1 := K1c.out.cell 1
  have d2 := K1c.out.cell 2
  have d3 := K1c.out.cell 3
  have df := fun i => K1c.out.frozen i
  simp at d0 d1 d2 d3
  go_wp2
  have kk := Lib.hid (show Keep (fun i => i = w.heap.size + 1) w3 ((((w3.setCell ⟨w.heap.size + 1, 0, none⟩ (.int .i64 X.now)).setCell ⟨w.heap.size + 1, 1, none⟩ (.slice ca X.cpus.length cc)).setCell ⟨w.heap.size + 1, 2, none⟩ (.slice (some ⟨bt, 0, none⟩) X.tasks.length tc)).setCell ⟨w.heap.size + 1, 3, none⟩ (.slice (some ⟨bg, 0, none⟩) X.groups.length gc)) from ((((Keep.set _ _ _ (by rfl)).trans (Keep.set _ _ _ (by rfl))).trans (Keep.set _ _ _ (by rfl))).trans (Keep.set _ _ _ (by rfl))))
  refine bodyPost_ret (v := .tuple #[.agg #[.int .i64 X.now, .slice ca X.cpus.length cc, .slice (some ⟨bt, 0, none⟩) X.tasks.length tc, .slice (some ⟨bg, 0, none⟩) X.groups.length gc], .bool false]) (by simp [results, Tryz.results10, go_sem, *]) rfl ⟨?_, rfl⟩
  exact Keep.then_ (S' := fun i => i = w.heap.size + 1) KE.out kk.out fun i hi e => by omega
def tl (l : List Int) : List (Nat × Value) := [(0, .int .i64 (gI l 1)), (1, .int .i64 (gI l 2)), (2, .int .i64 (gI l 3)), (3, .int .i64 (gI l 4)), (4, .int .i64 (gI l 5)), (5, .int .i64 (gI l 6)), (6, .int .i64 (gI l 7)), (7, .int .i64 (gI l 8)), (8, .int .i64 (gI l 9))]
theorem tl_cells (l : List Int) (v : Nat → Value) : ∀ i, i < 9 → upd (tl l) v i = taskF (taskOf l) i
  | 0, _ => rfl
  | 1, _ => rfl
  | 2, _ => rfl
  | 3, _ => rfl
  | 4, _ => rfl
  | 5, _ => rfl
  | 6, _ => rfl
  | 7, _ => rfl
  | 8, _ => rfl
  | i + 9, h => absurd h (by omega)
set_option maxRecDepth 100000 in
set_option maxHeartbeats 4000000 in
theorem sLine_task_yes (bt bg : Nat) (ca : Option Addr) (cc tc gc : Nat) (gh : Nat → GH) (X : WorldM) (B : Nat) (w : World) (h : OwnR w B ca cc (some ⟨bt, 0, none⟩) (some ⟨bg, 0, none⟩) gh X) (hf : RFit X) (hB : B ≤ w.heap.size) (s : ByteArray) (hs : s.size ≤ 20000) (L : List (List UInt8)) (hL : cutB 32 s.data.toList = L) (h0 : 0 < L.length) (hw : L[0] = wTask) {l : List Int} (hq : numsN (L.drop 1) 10 = some l) (g : Nat) (hg : gI l 0 = g) (hg8 : g < 12) :
    Calls Tryz.prog 10 #[.agg #[.int .i64 X.now, .slice ca X.cpus.length cc, .slice (some ⟨bt, 0, none⟩) X.tasks.length tc, .slice (some ⟨bg, 0, none⟩) X.groups.length gc], .string s] w (LPost bt bg ca cc tc gc gh X B (some { X with tasks := X.tasks.set g (taskOf l) }) w) := by
  have q0 : ((strB L[0]).toList == [110, 111, 119]) = false := by rw [wd_eq]; exact decide_eq_false (by rw [hw]; decide)
  have q1 : ((strB L[0]).toList == [99, 112, 117]) = false := by rw [wd_eq]; exact decide_eq_false (by rw [hw]; decide)
  have q2 : ((strB L[0]).toList == [103, 114, 111, 117, 112]) = false := by rw [wd_eq]; exact decide_eq_false (by rw [hw]; decide)
  have q3 : ((strB L[0]).toList == [115, 104, 101, 108, 102]) = false := by rw [wd_eq]; exact decide_eq_false (by rw [hw]; decide)
  have q4 : ((strB L[0]).toList == [98, 97, 110, 100]) = false := by rw [wd_eq]; exact decide_eq_false (by rw [hw]; decide)
  have q5 : ((strB L[0]).toList == [116, 97, 115, 107]) = true := by rw [wd_eq]; exact decide_eq_true hw
  have HOH := Lib.hid (fun i hi => h.own.has (g := i) hi)
  have HF := Lib.hid hf
  have HG8 := Lib.hid hf.gl
  have HT12 := Lib.hid hf.task
  have hc4 := hf.cpu
  have hc0 : (X.cpus.length : Int) ≤ 4 := by omega
  have HBL := Lib.hid (show ∀ a ∈ L, a.length ≤ 20000 from fun a ha => by rw [← hL] at ha; have := cut_len ha; have := len_s s; omega)
  have HLL := Lib.hid (show L.length ≤ 20001 by rw [← hL]; have := cut_count 32 s.data.toList; have := len_s s; omega)
  have HP := Lib.hid h0
  have SW := Lib.hid (show ∀ W, Calls Tryz.prog 25 #[.string s] W (WordsOut L W) from fun W => by have := sWords_any s W hs; rw [hL] at this; exact this)
  have l0 : (0 : Int) < (L.length : Int) := by omega
  have HW := Lib.hid (head_at h0 hw)
  clear hL hs hf hw
  go_enter Tryz.func10, Tryz.ntmps10
  go_upto_region 1 with (fail)
  refine gen2 (p := fun W => Code.wp _ _ _ _ W) ?_
  intro W b1 s1 k0 k1
  have B1 := Lib.hid b1
  have K0 := Lib.hid k0
  have K1 := Lib.hid k1
  have S1 := Lib.hid s1
  have OW1 := Lib.hid (h.below b1)
  clear b1 k0 k1 s1 h
  go_upto_region 2 with (go_at_call 25; refine (SW.out _).mono ?_; rintro e w2 ⟨A, c, rfl, hb2, hR, hcap⟩)
  obtain ⟨bw, rfl, hbw, cw⟩ := word_at hR HP.out
  generalize strB L[0] = s0 at *
  have WS := Lib.hid ((WordS.of_row hR).tl hcap 1)
  have HC := Lib.hid hcap
  have K0b := Lib.hid (K0.out.below hb2 K0.out.lt)
  have K1b := Lib.hid (K1.out.below hb2 K1.out.lt)
  have B2 := Lib.hid (B1.out.andThen hb2)
  have OW2 := Lib.hid (OW1.out.below hb2)
  have HS2 := Lib.hid (show w.heap.size + 2 ≤ w2.heap.size by have := S1.out; have := hb2.size; omega)
  clear hb2 hR hcap K0 K1 OW1 B1 SW
  have lc : (L.length : Int) ≤ (c : Int) := by have := HC.out; omega
  have HQ := Lib.hid hq
  clear hq
  have l1 : (1 : Int) ≤ (L.length : Int) := by omega
  have SN := Lib.hid (fun (W : World) (hW : WordS W (if c = 1 then some ⟨bw, 0, none⟩ else some ⟨bw, 1, none⟩) (L.drop 1)) => sNums_yes _ (L.length - 1) (c - 1) (L.drop 1) (by rw [List.length_drop]) 10 10 rfl W hW (by rw [List.length_drop]; have := HLL.out; omega) (fun a ha => HBL.out a (List.mem_of_mem_drop ha)) HQ.out)
  go_upto_region 35 with (go_at_call 26; refine (SN.out _ WS.out).mono ?_; rintro e w3 ⟨An, cn, rfl, hb3, hI⟩)
  have K0c := Lib.hid (K0b.out.below hb3 K0b.out.lt)
  have K1c := Lib.hid (K1b.out.below hb3 K1b.out.lt)
  have OW3 := Lib.hid (OW2.out.below hb3)
  have B3 := Lib.hid (B2.out.andThen hb3)
  have HW3 := Lib.hid (show w.heap.size + 2 ≤ w3.heap.size by have := HS2.out; have := hb3.size; omega)
  have HW2 := Lib.hid HS2.out
  have HI := Lib.hid hI
  have hlen := numsN_len HQ.out
  clear hI
  clear hb3 K0b K1b OW2 B2 SN
  generalize (if c = 1 then some ⟨bw, 0, none⟩ else some ⟨bw, 1, none⟩ : Option Addr) = aw at *
  have HR := Lib.hid (show inR (gI l 0) 0 11 = true by rw [hg, inR_iff]; omega)
  have HGE := Lib.hid hg
  have HG := Lib.hid (show g < X.tasks.length by rw [HT12.out]; exact hg8)
  have gi0 : (0 : Int) ≤ (g : Int) := by omega
  have gi1 : (g : Int) < (X.tasks.length : Int) := by rw [HT12.out]; omega
  clear hg
  obtain ⟨gI0, rfl, hgi, hgB, n0⟩ := int_at HI.out (i := 0) (by omega)
  obtain ⟨_, e1, _, _, n1⟩ := int_at HI.out (i := 1) (by omega)
  cases e1
  obtain ⟨_, e1, _, _, n2⟩ := int_at HI.out (i := 2) (by omega)
  cases e1
  obtain ⟨_, e1, _, _, n3⟩ := int_at HI.out (i := 3) (by omega)
  cases e1
  obtain ⟨_, e1, _, _, n4⟩ := int_at HI.out (i := 4) (by omega)
  cases e1
  obtain ⟨_, e1, _, _, n5⟩ := int_at HI.out (i := 5) (by omega)
  cases e1
  obtain ⟨_, e1, _, _, n6⟩ := int_at HI.out (i := 6) (by omega)
  cases e1
  obtain ⟨_, e1, _, _, n7⟩ := int_at HI.out (i := 7) (by omega)
  cases e1
  obtain ⟨_, e1, _, _, n8⟩ := int_at HI.out (i := 8) (by omega)
  cases e1
  obtain ⟨_, e1, _, _, n9⟩ := int_at HI.out (i := 9) (by omega)
  cases e1
  have il : (9 : Int) < (l.length : Int) := by omega
  rw [HGE.out] at n0
  have HR2 := Lib.hid (show inR (g : Int) 0 11 = true by rw [inR_iff]; omega)
  go_upto_region 37 with (go_at_call 27; refine (sl1In_any _ _ _ _).mono ?_; rintro e w' ⟨rfl, rfl⟩; rw [HR2.out])
  have c0 := K0c.out.cell 0
  have c1 := K0c.out.cell 1
  have c2 := K0c.out.cell 2
  have c3 := K0c.out.cell 3
  have cf := fun i => K0c.out.frozen i
  simp at c0 c1 c2 c3
  obtain ⟨_, e, _, _, v0, f0⟩ := OW3.out.own.task.cell (k := g) (i := 0) HG.out (by omega); cases e
  obtain ⟨_, e, _, _, v1, f1⟩ := OW3.out.own.task.cell (k := g) (i := 1) HG.out (by omega); cases e
  obtain ⟨_, e, _, _, v2, f2⟩ := OW3.out.own.task.cell (k := g) (i := 2) HG.out (by omega); cases e
  obtain ⟨_, e, _, _, v3, f3⟩ := OW3.out.own.task.cell (k := g) (i := 3) HG.out (by omega); cases e
  obtain ⟨_, e, _, _, v4, f4⟩ := OW3.out.own.task.cell (k := g) (i := 4) HG.out (by omega); cases e
  obtain ⟨_, e, _, _, v5, f5⟩ := OW3.out.own.task.cell (k := g) (i := 5) HG.out (by omega); cases e
  obtain ⟨_, e, _, _, v6, f6⟩ := OW3.out.own.task.cell (k := g) (i := 6) HG.out (by omega); cases e
  obtain ⟨_, e, _, _, v7, f7⟩ := OW3.out.own.task.cell (k := g) (i := 7) HG.out (by omega); cases e
  obtain ⟨_, e, _, _, v8, f8⟩ := OW3.out.own.task.cell (k := g) (i := 8) HG.out (by omega); cases e
  simp only [Nat.add_zero] at v0 f0
  have z_c2 := fun d os => cell_regrown c2 d os
  have z_n0 := fun d os => cell_regrown n0 d os
  have z_n1 := fun d os => cell_regrown n1 d os
  have z_n2 := fun d os => cell_regrown n2 d os
  have z_n3 := fun d os => cell_regrown n3 d os
  have z_n4 := fun d os => cell_regrown n4 d os
  have z_n5 := fun d os => cell_regrown n5 d os
  have z_n6 := fun d os => cell_regrown n6 d os
  have z_n7 := fun d os => cell_regrown n7 d os
  have z_n8 := fun d os => cell_regrown n8 d os
  have z_n9 := fun d os => cell_regrown n9 d os
  have z_v0 := fun d os => cell_regrown v0 d os
  have z_v1 := fun d os => cell_regrown v1 d os
  have z_v2 := fun d os => cell_regrown v2 d os
  have z_v3 := fun d os => cell_regrown v3 d os
  have z_v4 := fun d os => cell_regrown v4 d os
  have z_v5 := fun d os => cell_regrown v5 d os
  have z_v6 := fun d os => cell_regrown v6 d os
  have z_v7 := fun d os => cell_regrown v7 d os
  have z_v8 := fun d os => cell_regrown v8 d os
  refine region_S 34 [0, 0, 0, 0, 0, 0, 0, 0, 0, 0, 0, 0, 0, 0, 0, 0, 0, 0, 0, 0, 0, 0, 0, 0, 0, 0, 0, 0, 0, 0, 0, 0, 0, 0, 2] [0, 1, 2, 3, 4, 5, 6, 7, 8, 9, 10, 11, 12, 13, 14, 15, 16, 17, 18, 19, 20, 21, 22, 23, 24, 25, 26, 27, 28, 29, 30, 31, 32, 33, 34] (by kernel_rfl) (by kernel_rfl) (by kernel_rfl) rfl (by kernel_rfl) (by kernel_rfl) ?_
  simp only [permL, List.getElem?_cons_zero, List.getElem?_cons_succ, Option.toList_some, List.cons_append, List.nil_append]
  repeat (first | (refine wpS_skip (by rfl) ?_; simp only [Act.put, List.setIfInBounds_toArray, List.set_cons_zero, List.set_cons_succ]) | (refine wpS_det (by rfl) (fun K hK => ?_); go_big_quiet_op; refine hK _ ?_; clear hK K))
  refine wpS_end (by rfl) (fun K hK => ?_)
  go_big_op
  refine hK _ _ ?_
  clear hK K
  refine wpS_nil ?_
  go_upto_region 38 with (fail)
  refine genR (p := fun W => Code.wp _ _ _ _ W) ?_
  intro w6 hw6
  have e6 : (Go.Proofs.YtomllcclallcdaaGreatDoor.wr bt 9 g (tl l) w3).drew = w6 := hw6
  have OW6 := Lib.hid (show OwnR w6 B ca cc (some ⟨bt, 0, none⟩) (some ⟨bg, 0, none⟩) gh ({ X with tasks := X.tasks.set g (taskOf l) } : WorldM) by rw [← e6]; exact (OW3.out.task HG.out (tl l) (by simp [tl]) (tl_cells _ _)).below (Below.refl _ _).drew)
  have KK := Lib.hid (show Keep (fun j => j = bt) w3 w6 by rw [← e6]; exact (Keep.sets (S := fun j => j = bt) rfl _ _).trans (Keep.of_below (Below.refl _ _).drew))
  have HBG := Lib.hid (HOH.out bt (.inr (.inl rfl))).2
  have HN := Lib.hid (show ∀ i, Has ca (some ⟨bt, 0, none⟩) (some ⟨bg, 0, none⟩) gh ({ X with tasks := X.tasks.set g (taskOf l) } : WorldM).groups.length i → Has ca (some ⟨bt, 0, none⟩) (some ⟨bg, 0, none⟩) gh X.groups.length i ∨ w3.heap.size ≤ i from fun i hi => .inl hi)
  have K0e := Lib.hid (KK.out.blk K0c.out (by have := HBG.out; omega))
  have K1e := Lib.hid (KK.out.blk K1c.out (by have := HBG.out; omega))
  have KE := Lib.hid ((Keep.of_below (S := Has ca (some ⟨bt, 0, none⟩) (some ⟨bg, 0, none⟩) gh X.groups.length) B3.out).trans (KK.out.mono fun j _ e => by subst e; exact .inr (.inl rfl)))
  clear hw6 e6 KK K0c K1c OW3 HI hgi hgB n0 n1 n2 n3 n4 n5 n6 n7 n8 n9 v0 f0 v1 f1 v2 f2 v3 f3 v4 f4 v5 f5 v6 f6 v7 f7 v8 f8 z_c2 z_n0 z_n1 z_n2 z_n3 z_n4 z_n5 z_n6 z_n7 z_n8 z_n9 z_v0 z_v1 z_v2 z_v3 z_v4 z_v5 z_v6 z_v7 z_v8
  clear c0 c1 c2 c3 cf
  have c0 := K0e.out.cell 0
  have c1 := K0e.out.cell 1
  have c2 := K0e.out.cell 2
  have c3 := K0e.out.cell 3
  have cf := fun i => K0e.out.frozen i
  simp at c0 c1 c2 c3
  have d0 := K1e.out.cell 0
  have d1 := K1e.out.cell 1
  have d2 := K1e.out.cell 2
  have d3 := K1e.out.cell 3
  have df := fun i => K1e.out.frozen i
  simp at d0 d1 d2 d3
  go_wp2
  have kk := Lib.hid (show Keep (fun i => i = w.heap.size + 1) w6 ((((w6.setCell ⟨w.heap.size + 1, 0, none⟩ (.int .i64 X.now)).setCell ⟨w.heap.size + 1, 1, none⟩ (.slice ca X.cpus.length cc)).setCell ⟨w.heap.size + 1, 2, none⟩ (.slice (some ⟨bt, 0, none⟩) X.tasks.length tc)).setCell ⟨w.heap.size + 1, 3, none⟩ (.slice (some ⟨bg, 0, none⟩) X.groups.length gc)) from ((((Keep.set _ _ _ (by rfl)).trans (Keep.set _ _ _ (by rfl))).trans (Keep.set _ _ _ (by rfl))).trans (Keep.set _ _ _ (by rfl))))
  refine bodyPost_ret (v := .tuple #[.agg #[.int .i64 X.now, .slice ca X.cpus.length cc, .slice (some ⟨bt, 0, none⟩) X.tasks.length tc, .slice (some ⟨bg, 0, none⟩) X.groups.length gc], .bool true]) (by simp [results, Tryz.results10, go_sem, *]) rfl ⟨?_, ca, cc, gh, by first | rfl | simp [setG, addS], ?_, ?_⟩
  · exact Keep.then_ (S' := fun i => i = w.heap.size + 1) KE.out kk.out fun i hi e => by omega
  · exact OW6.out.keep kk.out fun i hi e => by rcases HN.out i hi with h | h; (have := (HOH.out i h).2; omega); (have := HW3.out; omega)
  · intro i hi; exact (HN.out i hi).imp_right fun h => by have := HW3.out; omega
set_option maxRecDepth 100000 in
set_option maxHeartbeats 4000000 in
theorem sLine_other (bt bg : Nat) (ca : Option Addr) (cc tc gc : Nat) (gh : Nat → GH) (X : WorldM) (B : Nat) (w : World) (h : OwnR w B ca cc (some ⟨bt, 0, none⟩) (some ⟨bg, 0, none⟩) gh X) (hf : RFit X) (hB : B ≤ w.heap.size) (s : ByteArray) (hs : s.size ≤ 20000) (L : List (List UInt8)) (hL : cutB 32 s.data.toList = L) (h0 : 0 < L.length) (hw : L[0] ≠ wNow ∧ L[0] ≠ wCpu ∧ L[0] ≠ wGroup ∧ L[0] ≠ wShelf ∧ L[0] ≠ wBand ∧ L[0] ≠ wTask) :
    Calls Tryz.prog 10 #[.agg #[.int .i64 X.now, .slice ca X.cpus.length cc, .slice (some ⟨bt, 0, none⟩) X.tasks.length tc, .slice (some ⟨bg, 0, none⟩) X.groups.length gc], .string s] w (LPost bt bg ca cc tc gc gh X B none w) := by
  have q0 : ((strB L[0]).toList == [110, 111, 119]) = false := by rw [wd_eq]; exact decide_eq_false (by exact hw.1)
  have q1 : ((strB L[0]).toList == [99, 112, 117]) = false := by rw [wd_eq]; exact decide_eq_false (by exact hw.2.1)
  have q2 : ((strB L[0]).toList == [103, 114, 111, 117, 112]) = false := by rw [wd_eq]; exact decide_eq_false (by exact hw.2.2.1)
  have q3 : ((strB L[0]).toList == [115, 104, 101, 108, 102]) = false := by rw [wd_eq]; exact decide_eq_false (by exact hw.2.2.2.1)
  have q4 : ((strB L[0]).toList == [98, 97, 110, 100]) = false := by rw [wd_eq]; exact decide_eq_false (by exact hw.2.2.2.2.1)
  have q5 : ((strB L[0]).toList == [116, 97, 115, 107]) = false := by rw [wd_eq]; exact decide_eq_false (by exact hw.2.2.2.2.2)
  have HOH := Lib.hid (fun i hi => h.own.has (g := i) hi)
  have HF := Lib.hid hf
  have HG8 := Lib.hid hf.gl
  have HT12 := Lib.hid hf.task
  have hc4 := hf.cpu
  have hc0 : (X.cpus.length : Int) ≤ 4 := by omega
  have HBL := Lib.hid (show ∀ a ∈ L, a.length ≤ 20000 from fun a ha => by rw [← hL] at ha; have := cut_len ha; have := len_s s; omega)
  have HLL := Lib.hid (show L.length ≤ 20001 by rw [← hL]; have := cut_count 32 s.data.toList; have := len_s s; omega)
  have HP := Lib.hid h0
  have SW := Lib.hid (show ∀ W, Calls Tryz.prog 25 #[.string s] W (WordsOut L W) from fun W => by have := sWords_any s W hs; rw [hL] at this; exact this)
  have l0 : (0 : Int) < (L.length : Int) := by omega
  clear hL hs hf
  go_enter Tryz.func10, Tryz.ntmps10
  go_upto_region 1 with (fail)
  refine gen2 (p := fun W => Code.wp _ _ _ _ W) ?_
  intro W b1 s1 k0 k1
  have B1 := Lib.hid b1
  have K0 := Lib.hid k0
  have K1 := Lib.hid k1
  have S1 := Lib.hid s1
  have OW1 := Lib.hid (h.below b1)
  clear b1 k0 k1 s1 h
  go_upto_region 2 with (go_at_call 25; refine (SW.out _).mono ?_; rintro e w2 ⟨A, c, rfl, hb2, hR, hcap⟩)
  obtain ⟨bw, rfl, hbw, cw⟩ := word_at hR HP.out
  generalize strB L[0] = s0 at *
  have WS := Lib.hid ((WordS.of_row hR).tl hcap 1)
  have HC := Lib.hid hcap
  have K0b := Lib.hid (K0.out.below hb2 K0.out.lt)
  have K1b := Lib.hid (K1.out.below hb2 K1.out.lt)
  have B2 := Lib.hid (B1.out.andThen hb2)
  have OW2 := Lib.hid (OW1.out.below hb2)
  have HS2 := Lib.hid (show w.heap.size + 2 ≤ w2.heap.size by have := S1.out; have := hb2.size; omega)
  clear hb2 hR hcap K0 K1 OW1 B1 SW
  go_upto_region 39 with (fail)
  have KE := Lib.hid (Keep.of_below (S := Has ca (some ⟨bt, 0, none⟩) (some ⟨bg, 0, none⟩) gh X.groups.length) B2.out)
  have c0 := K0b.out.cell 0
  have c1 := K0b.out.cell 1
  have c2 := K0b.out.cell 2
  have c3 := K0b.out.cell 3
  have cf := fun i => K0b.out.frozen i
  simp at c0 c1 c2 c3
  have d0 := K1b.out.cell 0
  have d1 := K1b.out.cell 1
  have d2 := K1b.out.cell 2
  have d3 := K1b.out.cell 3
  have df := fun i => K1b.out.frozen i
  simp at d0 d1 d2 d3
  go_wp2
  have kk := Lib.hid (show Keep (fun i => i = w.heap.size + 1) w2 ((((w2.setCell ⟨w.heap.size + 1, 0, none⟩ (.int .i64 X.now)).setCell ⟨w.heap.size + 1, 1, none⟩ (.slice ca X.cpus.length cc)).setCell ⟨w.heap.size + 1, 2, none⟩ (.slice (some ⟨bt, 0, none⟩) X.tasks.length tc)).setCell ⟨w.heap.size + 1, 3, none⟩ (.slice (some ⟨bg, 0, none⟩) X.groups.length gc)) from ((((Keep.set _ _ _ (by rfl)).trans (Keep.set _ _ _ (by rfl))).trans (Keep.set _ _ _ (by rfl))).trans (Keep.set _ _ _ (by rfl))))
  refine bodyPost_ret (v := .tuple #[.agg #[.int .i64 X.now, .slice ca X.cpus.length cc, .slice (some ⟨bt, 0, none⟩) X.tasks.length tc, .slice (some ⟨bg, 0, none⟩) X.groups.length gc], .bool false]) (by simp [results, Tryz.results10, go_sem, *]) rfl ⟨?_, rfl⟩
  exact Keep.then_ (S' := fun i => i = w.heap.size + 1) KE.out kk.out fun i hi e => by omega
set_option maxRecDepth 100000 in
set_option maxHeartbeats 4000000 in
theorem sLine_shelf_no (bt bg : Nat) (ca : Option Addr) (cc tc gc : Nat) (gh : Nat → GH) (X : WorldM) (B : Nat) (w : World) (h : OwnR w B ca cc (some ⟨bt, 0, none⟩) (some ⟨bg, 0, none⟩) gh X) (hf : RFit X) (hB : B ≤ w.heap.size) (s : ByteArray) (hs : s.size ≤ 20000) (L : List (List UInt8)) (hL : cutB 32 s.data.toList = L) (h0 : 0 < L.length) (hw : L[0] = wShelf) (hq : numsN (L.drop 1) 7 = none) :
    Calls Tryz.prog 10 #[.agg #[.int .i64 X.now, .slice ca X.cpus.length cc, .slice (some ⟨bt, 0, none⟩) X.tasks.length tc, .slice (some ⟨bg, 0, none⟩) X.groups.length gc], .string s] w (LPost bt bg ca cc tc gc gh X B none w) := by
  have q0 : ((strB L[0]).toList == [110, 111, 119]) = false := by rw [wd_eq]; exact decide_eq_false (by rw [hw]; decide)
  have q1 : ((strB L[0]).toList == [99, 112, 117]) = false := by rw [wd_eq]; exact decide_eq_false (by rw [hw]; decide)
  have q2 : ((strB L[0]).toList == [103, 114, 111, 117, 112]) = false := by rw [wd_eq]; exact decide_eq_false (by rw [hw]; decide)
  have q3 : ((strB L[0]).toList == [115, 104, 101, 108, 102]) = true := by rw [wd_eq]; exact decide_eq_true hw
  have HOH := Lib.hid (fun i hi => h.own.has (g := i) hi)
  have HF := Lib.hid hf
  have HG8 := Lib.hid hf.gl
  have HT12 := Lib.hid hf.task
  have hc4 := hf.cpu
  have hc0 : (X.cpus.length : Int) ≤ 4 := by omega
  have HBL := Lib.hid (show ∀ a ∈ L, a.length ≤ 20000 from fun a ha => by rw [← hL] at ha; have := cut_len ha; have := len_s s; omega)
  have HLL := Lib.hid (show L.length ≤ 20001 by rw [← hL]; have := cut_count 32 s.data.toList; have := len_s s; omega)
  have HP := Lib.hid h0
  have SW := Lib.hid (show ∀ W, Calls Tryz.prog 25 #[.string s] W (WordsOut L W) from fun W => by have := sWords_any s W hs; rw [hL] at this; exact this)
  have l0 : (0 : Int) < (L.length : Int) := by omega
  have HW := Lib.hid (head_at h0 hw)
  clear hL hs hf hw
  go_enter Tryz.func10, Tryz.ntmps10
  go_upto_region 1 with (fail)
  refine gen2 (p := fun W => Code.wp _ _ _ _ W) ?_
  intro W b1 s1 k0 k1
  have B1 := Lib.hid b1
  have K0 := Lib.hid k0
  have K1 := Lib.hid k1
  have S1 := Lib.hid s1
  have OW1 := Lib.hid (h.below b1)
  clear b1 k0 k1 s1 h
  go_upto_region 2 with (go_at_call 25; refine (SW.out _).mono ?_; rintro e w2 ⟨A, c, rfl, hb2, hR, hcap⟩)
  obtain ⟨bw, rfl, hbw, cw⟩ := word_at hR HP.out
  generalize strB L[0] = s0 at *
  have WS := Lib.hid ((WordS.of_row hR).tl hcap 1)
  have HC := Lib.hid hcap
  have K0b := Lib.hid (K0.out.below hb2 K0.out.lt)
  have K1b := Lib.hid (K1.out.below hb2 K1.out.lt)
  have B2 := Lib.hid (B1.out.andThen hb2)
  have OW2 := Lib.hid (OW1.out.below hb2)
  have HS2 := Lib.hid (show w.heap.size + 2 ≤ w2.heap.size by have := S1.out; have := hb2.size; omega)
  clear hb2 hR hcap K0 K1 OW1 B1 SW
  have lc : (L.length : Int) ≤ (c : Int) := by have := HC.out; omega
  have HQ := Lib.hid hq
  clear hq
  have l1 : (1 : Int) ≤ (L.length : Int) := by omega
  have SN := Lib.hid (fun (W : World) (hW : WordS W (if c = 1 then some ⟨bw, 0, none⟩ else some ⟨bw, 1, none⟩) (L.drop 1)) => sNums_no _ (L.length - 1) (c - 1) (L.drop 1) (by rw [List.length_drop]) 7 7 rfl W hW (by rw [List.length_drop]; have := HLL.out; omega) (fun a ha => HBL.out a (List.mem_of_mem_drop ha)) HQ.out)
  go_upto_region 27 with (go_at_call 26; refine (SN.out _ WS.out).mono ?_; rintro e w3 ⟨v, rfl, hb3⟩)
  have K0c := Lib.hid (K0b.out.below hb3 K0b.out.lt)
  have K1c := Lib.hid (K1b.out.below hb3 K1b.out.lt)
  have OW3 := Lib.hid (OW2.out.below hb3)
  have B3 := Lib.hid (B2.out.andThen hb3)
  have HW3 := Lib.hid (show w.heap.size + 2 ≤ w3.heap.size by have := HS2.out; have := hb3.size; omega)
  have HW2 := Lib.hid HS2.out
  clear hb3 K0b K1b OW2 B2 SN
  generalize (if c = 1 then some ⟨bw, 0, none⟩ else some ⟨bw, 1, none⟩ : Option Addr) = aw at *
  refine region_by [false, false, false, false, false, false, false, true, false, false, false, false, false, false, false, false, false, false, false, false, false, false] (by kernel_rfl) (by kernel_rfl) (by kernel_rfl) ?_
  repeat (first | (refine wpR_skip (by rfl) ?_; simp only [Act.put, List.setIfInBounds_toArray, List.set_cons_zero, List.set_cons_succ]) | (refine wpR_det (by rfl) (fun K hK => ?_); go_big_quiet_op; refine hK _ ?_; clear hK K))
  refine wpR_nil ?_
  go_upto_region 28 with (fail)
  have BD := Lib.hid (Below.refl w3.heap.size w3).drew
  have K0x := Lib.hid (K0c.out.below BD.out K0c.out.lt)
  have K1x := Lib.hid (K1c.out.below BD.out K1c.out.lt)
  have KE := Lib.hid (Keep.of_below (S := Has ca (some ⟨bt, 0, none⟩) (some ⟨bg, 0, none⟩) gh X.groups.length) (B3.out.andThen BD.out))
  generalize w3.drew = w4 at *
  clear K0c K1c
  have c0 := K0x.out.cell 0
  have c1 := K0x.out.cell 1
  have c2 := K0x.out.cell 2
  have c3 := K0x.out.cell 3
  have cf := fun i => K0x.out.frozen i
  simp at c0 c1 c2 c3
  have d0 := K1x.out.cell 0
  have d1 := K1x.out.cell 1
  have d2 := K1x.out.cell 2
  have d3 := K1x.out.cell 3
  have df := fun i => K1x.out.frozen i
  simp at d0 d1 d2 d3
  go_wp2
  have kk := Lib.hid (show Keep (fun i => i = w.heap.size + 1) w4 ((((w4.setCell ⟨w.heap.size + 1, 0, none⟩ (.int .i64 X.now)).setCell ⟨w.heap.size + 1, 1, none⟩ (.slice ca X.cpus.length cc)).setCell ⟨w.heap.size + 1, 2, none⟩ (.slice (some ⟨bt, 0, none⟩) X.tasks.length tc)).setCell ⟨w.heap.size + 1, 3, none⟩ (.slice (some ⟨bg, 0, none⟩) X.groups.length gc)) from ((((Keep.set _ _ _ (by rfl)).trans (Keep.set _ _ _ (by rfl))).trans (Keep.set _ _ _ (by rfl))).trans (Keep.set _ _ _ (by rfl))))
  refine bodyPost_ret (v := .tuple #[.agg #[.int .i64 X.now, .slice ca X.cpus.length cc, .slice (some ⟨bt, 0, none⟩) X.tasks.length tc, .slice (some ⟨bg, 0, none⟩) X.groups.length gc], .bool false]) (by simp [results, Tryz.results10, go_sem, *]) rfl ⟨?_, rfl⟩
  exact Keep.then_ (S' := fun i => i = w.heap.size + 1) KE.out kk.out fun i hi e => by omega
set_option maxRecDepth 100000 in
set_option maxHeartbeats 4000000 in
theorem sLine_shelf_off (bt bg : Nat) (ca : Option Addr) (cc tc gc : Nat) (gh : Nat → GH) (X : WorldM) (B : Nat) (w : World) (h : OwnR w B ca cc (some ⟨bt, 0, none⟩) (some ⟨bg, 0, none⟩) gh X) (hf : RFit X) (hB : B ≤ w.heap.size) (s : ByteArray) (hs : s.size ≤ 20000) (L : List (List UInt8)) (hL : cutB 32 s.data.toList = L) (h0 : 0 < L.length) (hw : L[0] = wShelf) {l : List Int} (hq : numsN (L.drop 1) 7 = some l) (hu : usedI X (gI l 0) = false) :
    Calls Tryz.prog 10 #[.agg #[.int .i64 X.now, .slice ca X.cpus.length cc, .slice (some ⟨bt, 0, none⟩) X.tasks.length tc, .slice (some ⟨bg, 0, none⟩) X.groups.length gc], .string s] w (LPost bt bg ca cc tc gc gh X B none w) := by
  have q0 : ((strB L[0]).toList == [110, 111, 119]) = false := by rw [wd_eq]; exact decide_eq_false (by rw [hw]; decide)
  have q1 : ((strB L[0]).toList == [99, 112, 117]) = false := by rw [wd_eq]; exact decide_eq_false (by rw [hw]; decide)
  have q2 : ((strB L[0]).toList == [103, 114, 111, 117, 112]) = false := by rw [wd_eq]; exact decide_eq_false (by rw [hw]; decide)
  have q3 : ((strB L[0]).toList == [115, 104, 101, 108, 102]) = true := by rw [wd_eq]; exact decide_eq_true hw
  have HOH := Lib.hid (fun i hi => h.own.has (g := i) hi)
  have HF := Lib.hid hf
  have HG8 := Lib.hid hf.gl
  have HT12 := Lib.hid hf.task
  have hc4 := hf.cpu
  have hc0 : (X.cpus.length : Int) ≤ 4 := by omega
  have HBL := Lib.hid (show ∀ a ∈ L, a.length ≤ 20000 from fun a ha => by rw [← hL] at ha; have := cut_len ha; have := len_s s; omega)
  have HLL := Lib.hid (show L.length ≤ 20001 by rw [← hL]; have := cut_count 32 s.data.toList; have := len_s s; omega)
  have HP := Lib.hid h0
  have SW := Lib.hid (show ∀ W, Calls Tryz.prog 25 #[.string s] W (WordsOut L W) from fun W => by have := sWords_any s W hs; rw [hL] at this; exact this)
  have l0 : (0 : Int) < (L.length : Int) := by omega
  have HW := Lib.hid (head_at h0 hw)
  clear hL hs hf hw
  go_enter Tryz.func10, Tryz.ntmps10
  go_upto_region 1 with (fail)
  refine gen2 (p := fun W => Code.wp _ _ _ _ W) ?_
  intro W b1 s1 k0 k1
  have B1 := Lib.hid b1
  have K0 := Lib.hid k0
  have K1 := Lib.hid k1
  have S1 := Lib.hid s1
  have OW1 := Lib.hid (h.below b1)
  clear b1 k0 k1 s1 h
  go_upto_region 2 with (go_at_call 25; refine (SW.out _).mono ?_; rintro e w2 ⟨A, c, rfl, hb2, hR, hcap⟩)
  obtain ⟨bw, rfl, hbw, cw⟩ := word_at hR HP.out
  generalize strB L[0] = s0 at *
  have WS := Lib.hid ((WordS.of_row hR).tl hcap 1)
  have HC := Lib.hid hcap
  have K0b := Lib.hid (K0.out.below hb2 K0.out.lt)
  have K1b := Lib.hid (K1.out.below hb2 K1.out.lt)
  have B2 := Lib.hid (B1.out.andThen hb2)
  have OW2 := Lib.hid (OW1.out.below hb2)
  have HS2 := Lib.hid (show w.heap.size + 2 ≤ w2.heap.size by have := S1.out; have := hb2.size; omega)
  clear hb2 hR hcap K0 K1 OW1 B1 SW
  have lc : (L.length : Int) ≤ (c : Int) := by have := HC.out; omega
  have HQ := Lib.hid hq
  clear hq
  have l1 : (1 : Int) ≤ (L.length : Int) := by omega
  have SN := Lib.hid (fun (W : World) (hW : WordS W (if c = 1 then some ⟨bw, 0, none⟩ else some ⟨bw, 1, none⟩) (L.drop 1)) => sNums_yes _ (L.length - 1) (c - 1) (L.drop 1) (by rw [List.length_drop]) 7 7 rfl W hW (by rw [List.length_drop]; have := HLL.out; omega) (fun a ha => HBL.out a (List.mem_of_mem_drop ha)) HQ.out)
  go_upto_region 27 with (go_at_call 26; refine (SN.out _ WS.out).mono ?_; rintro e w3 ⟨An, cn, rfl, hb3, hI⟩)
  have K0c := Lib.hid (K0b.out.below hb3 K0b.out.lt)
  have K1c := Lib.hid (K1b.out.below hb3 K1b.out.lt)
  have OW3 := Lib.hid (OW2.out.below hb3)
  have B3 := Lib.hid (B2.out.andThen hb3)
  have HW3 := Lib.hid (show w.heap.size + 2 ≤ w3.heap.size by have := HS2.out; have := hb3.size; omega)
  have HW2 := Lib.hid HS2.out
  have HI := Lib.hid hI
  have hlen := numsN_len HQ.out
  clear hI
  clear hb3 K0b K1b OW2 B2 SN
  generalize (if c = 1 then some ⟨bw, 0, none⟩ else some ⟨bw, 1, none⟩ : Option Addr) = aw at *
  have HU := Lib.hid hu
  clear hu
  obtain ⟨gI0, rfl, hgi, hgB, n0⟩ := int_at HI.out (i := 0) (by omega)
  have il : (0 : Int) < (l.length : Int) := by omega
  have c0 := K0c.out.cell 0
  have c1 := K0c.out.cell 1
  have c2 := K0c.out.cell 2
  have c3 := K0c.out.cell 3
  have cf := fun i => K0c.out.frozen i
  simp at c0 c1 c2 c3
  have z_c0 := fun d os => cell_regrown c0 d os
  have z_c1 := fun d os => cell_regrown c1 d os
  have z_c2 := fun d os => cell_regrown c2 d os
  have z_c3 := fun d os => cell_regrown c3 d os
  have z_n0 := fun d os => cell_regrown n0 d os
  refine region_by [false, false, false, false, false, false, false, true, false, false, false, false, false, false, false, false, false, false, false, false, false, false] (by kernel_rfl) (by kernel_rfl) (by kernel_rfl) ?_
  repeat (first | (refine wpR_skip (by rfl) ?_; simp only [Act.put, List.setIfInBounds_toArray, List.set_cons_zero, List.set_cons_succ]) | (refine wpR_det (by rfl) (fun K hK => ?_); go_big_quiet_op; refine hK _ ?_; clear hK K))
  refine wpR_bar (by rfl) (fun K hK => ?_)
  go_big_op
  go_at_call 28
  refine (sPlace_any _ _ _ _ _ _ gh X _ (OW3.out.below (Below.refl _ _).drew).own.wa _).mono ?_
  rintro e w4 ⟨rfl, hb4⟩
  rw [HU.out]
  have BD := Lib.hid ((Below.refl w3.heap.size w3).drew.andThen hb4)
  refine hK _ _ (regrown_of_below BD.out) ?_
  clear hK K hb4
  repeat (first | (refine wpR_skip (by rfl) ?_; simp only [Act.put, List.setIfInBounds_toArray, List.set_cons_zero, List.set_cons_succ]) | (refine wpR_det (by rfl) (fun K hK => ?_); go_big_quiet_op; refine hK _ ?_; clear hK K))
  refine wpR_nil ?_
  clear n0 hgi hgB HI z_c0 z_c1 z_c2 z_c3 z_n0
  clear c0 c1 c2 c3 cf
  go_upto_region 28 with (fail)
  have K0x := Lib.hid (K0c.out.below BD.out K0c.out.lt)
  have K1x := Lib.hid (K1c.out.below BD.out K1c.out.lt)
  have KE := Lib.hid (Keep.of_below (S := Has ca (some ⟨bt, 0, none⟩) (some ⟨bg, 0, none⟩) gh X.groups.length) (B3.out.andThen BD.out))
  clear K0c K1c BD
  have c0 := K0x.out.cell 0
  have c1 := K0x.out.cell 1
  have c2 := K0x.out.cell 2
  have c3 := K0x.out.cell 3
  have cf := fun i => K0x.out.frozen i
  simp at c0 c1 c2 c3
  have d0 := K1x.out.cell 0
  have d1 := K1x.out.cell 1
  have d2 := K1x.out.cell 2
  have d3 := K1x.out.cell 3
  have df := fun i => K1x.out.frozen i
  simp at d0 d1 d2 d3
  go_wp2
  have kk := Lib.hid (show Keep (fun i => i = w.heap.size + 1) w4 ((((w4.setCell ⟨w.heap.size + 1, 0, none⟩ (.int .i64 X.now)).setCell ⟨w.heap.size + 1, 1, none⟩ (.slice ca X.cpus.length cc)).setCell ⟨w.heap.size + 1, 2, none⟩ (.slice (some ⟨bt, 0, none⟩) X.tasks.length tc)).setCell ⟨w.heap.size + 1, 3, none⟩ (.slice (some ⟨bg, 0, none⟩) X.groups.length gc)) from ((((Keep.set _ _ _ (by rfl)).trans (Keep.set _ _ _ (by rfl))).trans (Keep.set _ _ _ (by rfl))).trans (Keep.set _ _ _ (by rfl))))
  refine bodyPost_ret (v := .tuple #[.agg #[.int .i64 X.now, .slice ca X.cpus.length cc, .slice (some ⟨bt, 0, none⟩) X.tasks.length tc, .slice (some ⟨bg, 0, none⟩) X.groups.length gc], .bool false]) (by simp [results, Tryz.results10, go_sem, *]) rfl ⟨?_, rfl⟩
  exact Keep.then_ (S' := fun i => i = w.heap.size + 1) KE.out kk.out fun i hi e => by omega
set_option maxRecDepth 100000 in
set_option maxHeartbeats 4000000 in
theorem sLine_shelf_full (bt bg : Nat) (ca : Option Addr) (cc tc gc : Nat) (gh : Nat → GH) (X : WorldM) (B : Nat) (w : World) (h : OwnR w B ca cc (some ⟨bt, 0, none⟩) (some ⟨bg, 0, none⟩) gh X) (hf : RFit X) (hB : B ≤ w.heap.size) (s : ByteArray) (hs : s.size ≤ 20000) (L : List (List UInt8)) (hL : cutB 32 s.data.toList = L) (h0 : 0 < L.length) (hw : L[0] = wShelf) {l : List Int} (hq : numsN (L.drop 1) 7 = some l) (g : Nat) (hg : gI l 0 = g) (hg8 : g < 8) (hu : usedI X (gI l 0) = true) (h4 : (grp X g).shelves.length = 4) :
    Calls Tryz.prog 10 #[.agg #[.int .i64 X.now, .slice ca X.cpus.length cc, .slice (some ⟨bt, 0, none⟩) X.tasks.length tc, .slice (some ⟨bg, 0, none⟩) X.groups.length gc], .string s] w (LPost bt bg ca cc tc gc gh X B none w) := by
  have q0 : ((strB L[0]).toList == [110, 111, 119]) = false := by rw [wd_eq]; exact decide_eq_false (by rw [hw]; decide)
  have q1 : ((strB L[0]).toList == [99, 112, 117]) = false := by rw [wd_eq]; exact decide_eq_false (by rw [hw]; decide)
  have q2 : ((strB L[0]).toList == [103, 114, 111, 117, 112]) = false := by rw [wd_eq]; exact decide_eq_false (by rw [hw]; decide)
  have q3 : ((strB L[0]).toList == [115, 104, 101, 108, 102]) = true := by rw [wd_eq]; exact decide_eq_true hw
  have HOH := Lib.hid (fun i hi => h.own.has (g := i) hi)
  have HF := Lib.hid hf
  have HG8 := Lib.hid hf.gl
  have HT12 := Lib.hid hf.task
  have hc4 := hf.cpu
  have hc0 : (X.cpus.length : Int) ≤ 4 := by omega
  have HBL := Lib.hid (show ∀ a ∈ L, a.length ≤ 20000 from fun a ha => by rw [← hL] at ha; have := cut_len ha; have := len_s s; omega)
  have HLL := Lib.hid (show L.length ≤ 20001 by rw [← hL]; have := cut_count 32 s.data.toList; have := len_s s; omega)
  have HP := Lib.hid h0
  have SW := Lib.hid (show ∀ W, Calls Tryz.prog 25 #[.string s] W (WordsOut L W) from fun W => by have := sWords_any s W hs; rw [hL] at this; exact this)
  have l0 : (0 : Int) < (L.length : Int) := by omega
  have HW := Lib.hid (head_at h0 hw)
  clear hL hs hf hw
  go_enter Tryz.func10, Tryz.ntmps10
  go_upto_region 1 with (fail)
  refine gen2 (p := fun W => Code.wp _ _ _ _ W) ?_
  intro W b1 s1 k0 k1
  have B1 := Lib.hid b1
  have K0 := Lib.hid k0
  have K1 := Lib.hid k1
  have S1 := Lib.hid s1
  have OW1 := Lib.hid (h.below b1)
  clear b1 k0 k1 s1 h
  go_upto_region 2 with (go_at_call 25; refine (SW.out _).mono ?_; rintro e w2 ⟨A, c, rfl, hb2, hR, hcap⟩)
  obtain ⟨bw, rfl, hbw, cw⟩ := word_at hR HP.out
  generalize strB L[0] = s0 at *
  have WS := Lib.hid ((WordS.of_row hR).tl hcap 1)
  have HC := Lib.hid hcap
  have K0b := Lib.hid (K0.out.below hb2 K0.out.lt)
  have K1b := Lib.hid (K1.out.below hb2 K1.out.lt)
  have B2 := Lib.hid (B1.out.andThen hb2)
  have OW2 := Lib.hid (OW1.out.below hb2)
  have HS2 := Lib.hid (show w.heap.size + 2 ≤ w2.heap.size by have := S1.out; have := hb2.size; omega)
  clear hb2 hR hcap K0 K1 OW1 B1 SW
  have lc : (L.length : Int) ≤ (c : Int) := by have := HC.out; omega
  have HQ := Lib.hid hq
  clear hq
  have l1 : (1 : Int) ≤ (L.length : Int) := by omega
  have SN := Lib.hid (fun (W : World) (hW : WordS W (if c = 1 then some ⟨bw, 0, none⟩ else some ⟨bw, 1, none⟩) (L.drop 1)) => sNums_yes _ (L.length - 1) (c - 1) (L.drop 1) (by rw [List.length_drop]) 7 7 rfl W hW (by rw [List.length_drop]; have := HLL.out; omega) (fun a ha => HBL.out a (List.mem_of_mem_drop ha)) HQ.out)
  go_upto_region 27 with (go_at_call 26; refine (SN.out _ WS.out).mono ?_; rintro e w3 ⟨An, cn, rfl, hb3, hI⟩)
  have K0c := Lib.hid (K0b.out.below hb3 K0b.out.lt)
  have K1c := Lib.hid (K1b.out.below hb3 K1b.out.lt)
  have OW3 := Lib.hid (OW2.out.below hb3)
  have B3 := Lib.hid (B2.out.andThen hb3)
  have HW3 := Lib.hid (show w.heap.size + 2 ≤ w3.heap.size by have := HS2.out; have := hb3.size; omega)
  have HW2 := Lib.hid HS2.out
  have HI := Lib.hid hI
  have hlen := numsN_len HQ.out
  clear hI
  clear hb3 K0b K1b OW2 B2 SN
  generalize (if c = 1 then some ⟨bw, 0, none⟩ else some ⟨bw, 1, none⟩ : Option Addr) = aw at *
  have HU := Lib.hid (show usedI X (g : Int) = true by rw [← hg]; exact hu)
  have HGE := Lib.hid hg
  have HG := Lib.hid (show g < X.groups.length by rw [HG8.out]; exact hg8)
  have gi0 : (0 : Int) ≤ (g : Int) := by omega
  have gi1 : (g : Int) < (X.groups.length : Int) := by rw [HG8.out]; omega
  clear hu hg
  obtain ⟨gI0, rfl, hgi, hgB, n0⟩ := int_at HI.out (i := 0) (by omega)
  obtain ⟨_, e1, _, _, n1⟩ := int_at HI.out (i := 1) (by omega)
  cases e1
  obtain ⟨_, e1, _, _, n2⟩ := int_at HI.out (i := 2) (by omega)
  cases e1
  obtain ⟨_, e1, _, _, n3⟩ := int_at HI.out (i := 3) (by omega)
  cases e1
  obtain ⟨_, e1, _, _, n4⟩ := int_at HI.out (i := 4) (by omega)
  cases e1
  obtain ⟨_, e1, _, _, n5⟩ := int_at HI.out (i := 5) (by omega)
  cases e1
  obtain ⟨_, e1, _, _, n6⟩ := int_at HI.out (i := 6) (by omega)
  cases e1
  have il : (6 : Int) < (l.length : Int) := by omega
  rw [HGE.out] at n0
  have c0 := K0c.out.cell 0
  have c1 := K0c.out.cell 1
  have c2 := K0c.out.cell 2
  have c3 := K0c.out.cell 3
  have cf := fun i => K0c.out.frozen i
  simp at c0 c1 c2 c3
  have H4 := Lib.hid h4
  have h4' : (((grp X g).shelves.length : Int) == 4) = true := by rw [h4]; rfl
  clear h4
  obtain ⟨_, e, _, _, v13, f13⟩ := OW3.out.own.grps.cell (k := g) (i := 13) HG.out (by omega); cases e
  have v13' : w3.cell? ⟨bg, g * 14 + 13, none⟩ = some (.slice (gh g).sa (grp X g).shelves.length (gh g).sc) := v13
  clear v13
  have v13 := v13'
  clear v13'
  have z_c0 := fun d os => cell_regrown c0 d os
  have z_c1 := fun d os => cell_regrown c1 d os
  have z_c2 := fun d os => cell_regrown c2 d os
  have z_c3 := fun d os => cell_regrown c3 d os
  have z_n0 := fun d os => cell_regrown n0 d os
  have z_v13 := fun d os => cell_regrown v13 d os
  refine region_by [false, false, false, false, false, false, false, true, false, false, false, false, false, false, false, false, false, false, false, false, false, false] (by kernel_rfl) (by kernel_rfl) (by kernel_rfl) ?_
  repeat (first | (refine wpR_skip (by rfl) ?_; simp only [Act.put, List.setIfInBounds_toArray, List.set_cons_zero, List.set_cons_succ]) | (refine wpR_det (by rfl) (fun K hK => ?_); go_big_quiet_op; refine hK _ ?_; clear hK K))
  refine wpR_bar (by rfl) (fun K hK => ?_)
  go_big_op
  go_at_call 28
  refine (sPlace_any _ _ _ _ _ _ gh X _ (OW3.out.below (Below.refl _ _).drew).own.wa _).mono ?_
  rintro e w4 ⟨rfl, hb4⟩
  rw [HU.out]
  have BD := Lib.hid ((Below.refl w3.heap.size w3).drew.andThen hb4)
  refine hK _ _ (regrown_of_below BD.out) ?_
  clear hK K hb4
  repeat (first | (refine wpR_skip (by rfl) ?_; simp only [Act.put, List.setIfInBounds_toArray, List.set_cons_zero, List.set_cons_succ]) | (refine wpR_det (by rfl) (fun K hK => ?_); go_big_quiet_op; refine hK _ ?_; clear hK K))
  refine wpR_nil ?_
  clear z_c0 z_c1 z_c2 z_c3 z_n0 z_v13 v13 f13 h4'
  clear c0 c1 c2 c3 cf
  clear hgi hgB HI n0 n1 n2 n3 n4 n5 n6
  go_upto_region 28 with (fail)
  have K0x := Lib.hid (K0c.out.below BD.out K0c.out.lt)
  have K1x := Lib.hid (K1c.out.below BD.out K1c.out.lt)
  have KE := Lib.hid (Keep.of_below (S := Has ca (some ⟨bt, 0, none⟩) (some ⟨bg, 0, none⟩) gh X.groups.length) (B3.out.andThen BD.out))
  clear K0c K1c BD
  have c0 := K0x.out.cell 0
  have c1 := K0x.out.cell 1
  have c2 := K0x.out.cell 2
  have c3 := K0x.out.cell 3
  have cf := fun i => K0x.out.frozen i
  simp at c0 c1 c2 c3
  have d0 := K1x.out.cell 0
  have d1 := K1x.out.cell 1
  have d2 := K1x.out.cell 2
  have d3 := K1x.out.cell 3
  have df := fun i => K1x.out.frozen i
  simp at d0 d1 d2 d3
  go_wp2
  have kk := Lib.hid (show Keep (fun i => i = w.heap.size + 1) w4 ((((w4.setCell ⟨w.heap.size + 1, 0, none⟩ (.int .i64 X.now)).setCell ⟨w.heap.size + 1, 1, none⟩ (.slice ca X.cpus.length cc)).setCell ⟨w.heap.size + 1, 2, none⟩ (.slice (some ⟨bt, 0, none⟩) X.tasks.length tc)).setCell ⟨w.heap.size + 1, 3, none⟩ (.slice (some ⟨bg, 0, none⟩) X.groups.length gc)) from ((((Keep.set _ _ _ (by rfl)).trans (Keep.set _ _ _ (by rfl))).trans (Keep.set _ _ _ (by rfl))).trans (Keep.set _ _ _ (by rfl))))
  refine bodyPost_ret (v := .tuple #[.agg #[.int .i64 X.now, .slice ca X.cpus.length cc, .slice (some ⟨bt, 0, none⟩) X.tasks.length tc, .slice (some ⟨bg, 0, none⟩) X.groups.length gc], .bool false]) (by simp [results, Tryz.results10, go_sem, *]) rfl ⟨?_, rfl⟩
  exact Keep.then_ (S' := fun i => i = w.heap.size + 1) KE.out kk.out fun i hi e => by omega
set_option maxRecDepth 100000 in
set_option maxHeartbeats 4000000 in
theorem sLine_shelf_yes (bt bg : Nat) (ca : Option Addr) (cc tc gc : Nat) (gh : Nat → GH) (X : WorldM) (B : Nat) (w : World) (h : OwnR w B ca cc (some ⟨bt, 0, none⟩) (some ⟨bg, 0, none⟩) gh X) (hf : RFit X) (hB : B ≤ w.heap.size) (s : ByteArray) (hs : s.size ≤ 20000) (L : List (List UInt8)) (hL : cutB 32 s.data.toList = L) (h0 : 0 < L.length) (hw : L[0] = wShelf) {l : List Int} (hq : numsN (L.drop 1) 7 = some l) (g : Nat) (hg : gI l 0 = g) (hg8 : g < 8) (hu : usedI X (gI l 0) = true) (h4 : (grp X g).shelves.length ≠ 4) :
    Calls Tryz.prog 10 #[.agg #[.int .i64 X.now, .slice ca X.cpus.length cc, .slice (some ⟨bt, 0, none⟩) X.tasks.length tc, .slice (some ⟨bg, 0, none⟩) X.groups.length gc], .string s] w (LPost bt bg ca cc tc gc gh X B (some (addS X g l)) w) := by
  have q0 : ((strB L[0]).toList == [110, 111, 119]) = false := by rw [wd_eq]; exact decide_eq_false (by rw [hw]; decide)
  have q1 : ((strB L[0]).toList == [99, 112, 117]) = false := by rw [wd_eq]; exact decide_eq_false (by rw [hw]; decide)
  have q2 : ((strB L[0]).toList == [103, 114, 111, 117, 112]) = false := by rw [wd_eq]; exact decide_eq_false (by rw [hw]; decide)
  have q3 : ((strB L[0]).toList == [115, 104, 101, 108, 102]) = true := by rw [wd_eq]; exact decide_eq_true hw
  have HOH := Lib.hid (fun i hi => h.own.has (g := i) hi)
  have HF := Lib.hid hf
  have HG8 := Lib.hid hf.gl
  have HT12 := Lib.hid hf.task
  have hc4 := hf.cpu
  have hc0 : (X.cpus.length : Int) ≤ 4 := by omega
  have HBL := Lib.hid (show ∀ a ∈ L, a.length ≤ 20000 from fun a ha => by rw [← hL] at ha; have := cut_len ha; have := len_s s; omega)
  have HLL := Lib.hid (show L.length ≤ 20001 by rw [← hL]; have := cut_count 32 s.data.toList; have := len_s s; omega)
  have HP := Lib.hid h0
  have SW := Lib.hid (show ∀ W, Calls Tryz.prog 25 #[.string s] W (WordsOut L W) from fun W => by have := sWords_any s W hs; rw [hL] at this; exact this)
  have l0 : (0 : Int) < (L.length : Int) := by omega
  have HW := Lib.hid (head_at h0 hw)
  clear hL hs hf hw
  go_enter Tryz.func10, Tryz.ntmps10
  go_upto_region 1 with (fail)
  refine gen2 (p := fun W => Code.wp _ _ _ _ W) ?_
  intro W b1 s1 k0 k1
  have B1 := Lib.hid b1
  have K0 := Lib.hid k0
  have K1 := Lib.hid k1
  have S1 := Lib.hid s1
  have OW1 := Lib.hid (h.below b1)
  clear b1 k0 k1 s1 h
  go_upto_region 2 with (go_at_call 25; refine (SW.out _).mono ?_; rintro e w2 ⟨A, c, rfl, hb2, hR, hcap⟩)
  obtain ⟨bw, rfl, hbw, cw⟩ := word_at hR HP.out
  generalize strB L[0] = s0 at *
  have WS := Lib.hid ((WordS.of_row hR).tl hcap 1)
  have HC := Lib.hid hcap
  have K0b := Lib.hid (K0.out.below hb2 K0.out.lt)
  have K1b := Lib.hid (K1.out.below hb2 K1.out.lt)
  have B2 := Lib.hid (B1.out.andThen hb2)
  have OW2 := Lib.hid (OW1.out.below hb2)
  have HS2 := Lib.hid (show w.heap.size + 2 ≤ w2.heap.size by have := S1.out; have := hb2.size; omega)
  clear hb2 hR hcap K0 K1 OW1 B1 SW
  have lc : (L.length : Int) ≤ (c : Int) := by have := HC.out; omega
  have HQ := Lib.hid hq
  clear hq
  have l1 : (1 : Int) ≤ (L.length : Int) := by omega
  have SN := Lib.hid (fun (W : World) (hW : WordS W (if c = 1 then some ⟨bw, 0, none⟩ else some ⟨bw, 1, none⟩) (L.drop 1)) => sNums_yes _ (L.length - 1) (c - 1) (L.drop 1) (by rw [List.length_drop]) 7 7 rfl W hW (by rw [List.length_drop]; have := HLL.out; omega) (fun a ha => HBL.out a (List.mem_of_mem_drop ha)) HQ.out)
  go_upto_region 27 with (go_at_call 26; refine (SN.out _ WS.out).mono ?_; rintro e w3 ⟨An, cn, rfl, hb3, hI⟩)
  have K0c := Lib.hid (K0b.out.below hb3 K0b.out.lt)
  have K1c := Lib.hid (K1b.out.below hb3 K1b.out.lt)
  have OW3 := Lib.hid (OW2.out.below hb3)
  have B3 := Lib.hid (B2.out.andThen hb3)
  have HW3 := Lib.hid (show w.heap.size + 2 ≤ w3.heap.size by have := HS2.out; have := hb3.size; omega)
  have HW2 := Lib.hid HS2.out
  have HI := Lib.hid hI
  have hlen := numsN_len HQ.out
  clear hI
  clear hb3 K0b K1b OW2 B2 SN
  generalize (if c = 1 then some ⟨bw, 0, none⟩ else some ⟨bw, 1, none⟩ : Option Addr) = aw at *
  have HU := Lib.hid (show usedI X (g : Int) = true by rw [← hg]; exact hu)
  have HGE := Lib.hid hg
  have HG := Lib.hid (show g < X.groups.length by rw [HG8.out]; exact hg8)
  have gi0 : (0 : Int) ≤ (g : Int) := by omega
  have gi1 : (g : Int) < (X.groups.length : Int) := by rw [HG8.out]; omega
  clear hu hg
  obtain ⟨gI0, rfl, hgi, hgB, n0⟩ := int_at HI.out (i := 0) (by omega)
  obtain ⟨_, e1, _, _, n1⟩ := int_at HI.out (i := 1) (by omega)
  cases e1
  obtain ⟨_, e1, _, _, n2⟩ := int_at HI.out (i := 2) (by omega)
  cases e1
  obtain ⟨_, e1, _, _, n3⟩ := int_at HI.out (i := 3) (by omega)
  cases e1
  obtain ⟨_, e1, _, _, n4⟩ := int_at HI.out (i := 4) (by omega)
  cases e1
  obtain ⟨_, e1, _, _, n5⟩ := int_at HI.out (i := 5) (by omega)
  cases e1
  obtain ⟨_, e1, _, _, n6⟩ := int_at HI.out (i := 6) (by omega)
  cases e1
  have il : (6 : Int) < (l.length : Int) := by omega
  rw [HGE.out] at n0
  have c0 := K0c.out.cell 0
  have c1 := K0c.out.cell 1
  have c2 := K0c.out.cell 2
  have c3 := K0c.out.cell 3
  have cf := fun i => K0c.out.frozen i
  simp at c0 c1 c2 c3
  have H4 := Lib.hid h4
  have h4' : (((grp X g).shelves.length : Int) == 4) = false := by rw [beq_eq_false_iff_ne]; omega
  clear h4
  obtain ⟨_, e, _, _, v13, f13⟩ := OW3.out.own.grps.cell (k := g) (i := 13) HG.out (by omega); cases e
  have v13' : w3.cell? ⟨bg, g * 14 + 13, none⟩ = some (.slice (gh g).sa (grp X g).shelves.length (gh g).sc) := v13
  clear v13
  have v13 := v13'
  clear v13'
  have z_c0 := fun d os => cell_regrown c0 d os
  have z_c1 := fun d os => cell_regrown c1 d os
  have z_c2 := fun d os => cell_regrown c2 d os
  have z_c3 := fun d os => cell_regrown c3 d os
  have z_n0 := fun d os => cell_regrown n0 d os
  have z_v13 := fun d os => cell_regrown v13 d os
  refine region_by [false, false, false, false, false, false, false, true, false, false, false, false, false, false, false, false, false, false, false, false, false, false] (by kernel_rfl) (by kernel_rfl) (by kernel_rfl) ?_
  repeat (first | (refine wpR_skip (by rfl) ?_; simp only [Act.put, List.setIfInBounds_toArray, List.set_cons_zero, List.set_cons_succ]) | (refine wpR_det (by rfl) (fun K hK => ?_); go_big_quiet_op; refine hK _ ?_; clear hK K))
  refine wpR_bar (by rfl) (fun K hK => ?_)
  go_big_op
  go_at_call 28
  refine (sPlace_any _ _ _ _ _ _ gh X _ (OW3.out.below (Below.refl _ _).drew).own.wa _).mono ?_
  rintro e w4 ⟨rfl, hb4⟩
  rw [HU.out]
  have BD := Lib.hid ((Below.refl w3.heap.size w3).drew.andThen hb4)
  refine hK _ _ (regrown_of_below BD.out) ?_
  clear hK K hb4
  repeat (first | (refine wpR_skip (by rfl) ?_; simp only [Act.put, List.setIfInBounds_toArray, List.set_cons_zero, List.set_cons_succ]) | (refine wpR_det (by rfl) (fun K hK => ?_); go_big_quiet_op; refine hK _ ?_; clear hK K))
  refine wpR_nil ?_
  clear z_c0 z_c1 z_c2 z_c3 z_n0 z_v13 v13 f13 h4'
  clear c0 c1 c2 c3 cf
  clear n0 n1 n2 n3 n4 n5 n6
  have OW4 := Lib.hid (OW3.out.below BD.out)
  have HI4 := Lib.hid (HI.out.below BD.out)
  have HB3 := Lib.hid BD.out.size
  have K0x := Lib.hid (K0c.out.below BD.out K0c.out.lt)
  have K1x := Lib.hid (K1c.out.below BD.out K1c.out.lt)
  have B4 := Lib.hid (B3.out.andThen BD.out)
  clear OW3 K0c K1c BD HI B3
  obtain ⟨_, e1, hg4, hgB4, n0⟩ := int_at HI4.out (i := 0) (by omega)
  cases e1
  rw [HGE.out] at n0
  obtain ⟨_, e1, _, _, n2⟩ := int_at HI4.out (i := 2) (by omega)
  cases e1
  obtain ⟨_, e1, _, _, n3⟩ := int_at HI4.out (i := 3) (by omega)
  cases e1
  obtain ⟨_, e1, _, _, n4⟩ := int_at HI4.out (i := 4) (by omega)
  cases e1
  obtain ⟨_, e1, _, _, n5⟩ := int_at HI4.out (i := 5) (by omega)
  cases e1
  obtain ⟨_, e1, _, _, n6⟩ := int_at HI4.out (i := 6) (by omega)
  cases e1
  have c0 := K0x.out.cell 0
  have c1 := K0x.out.cell 1
  have c2 := K0x.out.cell 2
  have c3 := K0x.out.cell 3
  have cf := fun i => K0x.out.frozen i
  simp at c0 c1 c2 c3
  obtain ⟨_, e, _, _, v13, _⟩ := OW4.out.own.grps.cell (k := g) (i := 13) HG.out (by omega); cases e
  have v13' : w4.cell? ⟨bg, g * 14 + 13, none⟩ = some (.slice (gh g).sa (grp X g).shelves.length (gh g).sc) := v13
  clear v13
  have v13 := v13'
  clear v13'
  have HSH := Lib.hid (show ∀ j, (Value.slice (gh g).sa (grp X g).shelves.length (gh g).sc).ownBlock = some j → (gh g).sa = some ⟨j, 0, none⟩ from fun j e => by obtain ⟨a, ha, h9⟩ := ob e; rw [ha, ← h9, ← (OW4.out.own.she g HG.out).form ha])
  have HSO := Lib.hid (show ∀ j, (Value.slice (gh g).sa (grp X g).shelves.length (gh g).sc).ownBlock = some j → j < w.heap.size from fun j e => (HOH.out j (.inr (.inr (.inr ⟨g, HG.out, .inr (.inr (HSH.out j e))⟩)))).2)
  have HI0 := Lib.hid (show w.heap.size ≤ gI0 by have := hgB; have := HW2.out; omega)
  have HBG := Lib.hid (HOH.out bg (.inr (.inr (.inl rfl)))).2
  have hbK : w.heap.size < w4.heap.size := K0x.out.lt
  have HGN := Lib.hid (show ¬ (Value.slice (gh g).sa (grp X g).shelves.length (gh g).sc).ownBlock = some bg from fun e => by obtain ⟨a, ha, h9⟩ := ob e; exact RowR.ne OW4.out.own.grps (OW4.out.own.she g HG.out) (by decide) rfl ha h9.symm)
  have hs4 : (grp X g).shelves.length ≤ 1048576 := by have := HF.out.she g; omega
  go_upto_region 29 with (fail)
  obtain ⟨g5, cap5, w5, hrun, hown5, hkeep5, hg5, hlt5, hB5⟩ := app_drew slSh (by omega) (by omega) (ty := 54) (T' := 59) (OW4.out.shr g HG.out) (by have := B4.out.size; omega) hs4 [.int .i64 (gI l 2), .bool (gI l 3 == 1), .int .i64 (gI l 4), .int .i64 (gI l 5), .int .i64 (gI l 6)] rfl (by simp [Value.oneCell'])
  obtain ⟨F, hFt, hFf⟩ : ∃ F : Bool → World, F true = w4 ∧ F false = w5 := ⟨fun b => if b then w4 else w5, rfl, rfl⟩
  have qq0 := fun b d os => cell_regrown (both hFt hFf (p := fun W => W.cell? _ = some _) c3 (hkeep5.cell c3 (by omega) (fun e => by have := HSO.out _ e; omega)) b) d os
  have qq1 := fun b d os => cell_regrown (both hFt hFf (p := fun W => W.cell? _ = some _) v13 (hkeep5.cell v13 (by have := HBG.out; omega) HGN.out) b) d os
  have qq2 := fun b d os => cell_regrown (both hFt hFf (p := fun W => W.cell? _ = some _) n0 (hkeep5.cell n0 hg4 (fun e => by have := HSO.out _ e; have := HI0.out; omega)) b) d os
  have qq3 := fun b d os => cell_regrown (both hFt hFf (p := fun W => W.cell? _ = some _) n2 (hkeep5.cell n2 hg4 (fun e => by have := HSO.out _ e; have := HI0.out; omega)) b) d os
  have qq4 := fun b d os => cell_regrown (both hFt hFf (p := fun W => W.cell? _ = some _) n3 (hkeep5.cell n3 hg4 (fun e => by have := HSO.out _ e; have := HI0.out; omega)) b) d os
  have qq5 := fun b d os => cell_regrown (both hFt hFf (p := fun W => W.cell? _ = some _) n4 (hkeep5.cell n4 hg4 (fun e => by have := HSO.out _ e; have := HI0.out; omega)) b) d os
  have qq6 := fun b d os => cell_regrown (both hFt hFf (p := fun W => W.cell? _ = some _) n5 (hkeep5.cell n5 hg4 (fun e => by have := HSO.out _ e; have := HI0.out; omega)) b) d os
  have qq7 := fun b d os => cell_regrown (both hFt hFf (p := fun W => W.cell? _ = some _) n6 (hkeep5.cell n6 hg4 (fun e => by have := HSO.out _ e; have := HI0.out; omega)) b) d os
  have HFt := Lib.hid hFt
  have HFf := Lib.hid hFf
  have HRUN := Lib.hid hrun
  clear hFt hFf hrun
  refine region_SC (twoC F) (twoC_drew true HFt.out) 32 [0, 0, 0, 0, 0, 0, 0, 0, 0, 0, 0, 0, 0, 0, 0, 0, 0, 0, 0, 0, 0, 0, 0, 0, 0, 0, 0, 0, 0, 0, 1, 1, 1, 1, 2] [0, 1, 2, 3, 4, 5, 6, 7, 8, 9, 10, 11, 12, 13, 14, 15, 16, 17, 18, 19, 20, 21, 22, 23, 24, 25, 26, 27, 28, 29, 30, 31, 32, 33, 34] (by kernel_rfl) (by kernel_rfl) (by kernel_rfl) rfl (by kernel_rfl) (by kernel_rfl) ?_
  simp only [permL, List.getElem?_cons_zero, List.getElem?_cons_succ, Option.toList_some, List.cons_append, List.nil_append]
  unfold twoC
  repeat (first | (refine wpS_skip (by rfl) ?_; simp only [Act.put, List.setIfInBounds_toArray, List.set_cons_zero, List.set_cons_succ]) | (refine wpS_det (by rfl) (fun K hK => ?_); go_big_quiet_op; refine hK _ ?_; clear hK K))
  refine wpS_bar (by rfl) (fun K hK => ?_)
  go_big_op
  refine hK _ _ (twoC_below true (by rw [HFt.out]; exact (Below.refl _ _).drew.alloc (Nat.le_refl _) _)) ?_
  clear hK K
  refine wpS_bar (by rfl) (fun K hK => ?_)
  refine wp_append_run rfl rfl rfl HRUN.out ?_
  refine hK _ _ (twoC_below false (by rw [HFf.out]; exact Below.refl _ _)) ?_
  clear hK K
  simp only [Act.put, List.setIfInBounds_toArray, List.set_cons_zero, List.set_cons_succ]
  repeat (first | (refine wpS_skip (by rfl) ?_; simp only [Act.put, List.setIfInBounds_toArray, List.set_cons_zero, List.set_cons_succ]) | (refine wpS_det (by rfl) (fun K hK => ?_); go_big_quiet_op; refine hK _ ?_; clear hK K))
  clear qq0 qq1 qq2 qq3 qq4 qq5 qq6 qq7
  refine wpS_bar (by rfl) (fun K hK => ?_)
  go_big_op
  refine hK _ _ (twoC_below false (by rw [HFf.out]; exact Below.refl _ _)) ?_
  clear hK K
  try simp only [Act.put, List.setIfInBounds_toArray, List.set_cons_zero, List.set_cons_succ]
  refine wpS_bar (by rfl) (fun K hK => ?_)
  go_big_op
  refine hK _ _ (twoC_below false (by rw [HFf.out]; exact Below.refl _ _)) ?_
  clear hK K
  try simp only [Act.put, List.setIfInBounds_toArray, List.set_cons_zero, List.set_cons_succ]
  have GR5 := OW4.out.own.grps.keep hkeep5 (fun a ha hb => by obtain ⟨a2, h2, h3⟩ := ob hb; exact RowR.ne OW4.out.own.grps (OW4.out.own.she g HG.out) (by decide) ha h2 h3.symm)
  obtain ⟨_, e, _, _, z13, fz13⟩ := GR5.cell (k := g) (i := 13) HG.out (by omega); cases e
  refine wpS_end (by rfl) (fun K hK => ?_)
  go_big_op
  refine hK _ _ ?_
  clear hK K
  refine wpS_nil ?_
  go_upto_region 30 with (fail)
  refine genR (p := fun W => Code.wp _ _ _ _ W) ?_
  intro w6 hw6
  have e6 : w5.setCell ⟨bg, g * 14 + 13, none⟩ (.slice (some ⟨g5, 0, none⟩) ((grp X g).shelves.length + 1) cap5) = w6 := hw6
  have OW6 := Lib.hid (show OwnR w6 B ca cc (some ⟨bt, 0, none⟩) (some ⟨bg, 0, none⟩) (hset gh g { gh g with sa := some ⟨g5, 0, none⟩, sc := cap5 }) (addS X g l) by rw [← e6]; exact OW4.out.shelf HG.out (shelfOf l) hkeep5 hown5 (hg5.imp_right Nat.le_of_lt))
  have KS := Lib.hid (show Keep (fun j => j = bg) w5 w6 by rw [← e6]; exact Keep.set _ _ _ rfl)
  have K0e := Lib.hid (KS.out.blk (hkeep5.blk K0x.out fun e => by have := HSO.out _ e; omega) (by have := HBG.out; omega))
  have K1e := Lib.hid (KS.out.blk (hkeep5.blk K1x.out fun e => by have := HSO.out _ e; omega) (by have := HBG.out; omega))
  have HGS := Lib.hid (show (addS X g l).groups.length = X.groups.length by simp [setG, addS])
  have HN := Lib.hid (show ∀ i, Has ca (some ⟨bt, 0, none⟩) (some ⟨bg, 0, none⟩) (hset gh g { gh g with sa := some ⟨g5, 0, none⟩, sc := cap5 }) (addS X g l).groups.length i → Has ca (some ⟨bt, 0, none⟩) (some ⟨bg, 0, none⟩) gh X.groups.length i ∨ w3.heap.size ≤ i from fun i hi => by
    rw [HGS.out] at hi
    refine has_set (x := { gh g with sa := some ⟨g5, 0, none⟩, sc := cap5 }) (N := w3.heap.size) HG.out (fun _ h => .inl h) (fun _ h => .inl h) (fun j h => ?_) hi
    cases h
    rcases hg5 with h | h
    · exact .inl (HSH.out _ h)
    · exact .inr (by have := HB3.out; omega))
  have KE := Lib.hid (((Keep.of_below (S := Has ca (some ⟨bt, 0, none⟩) (some ⟨bg, 0, none⟩) gh X.groups.length) B4.out).trans (hkeep5.mono fun j _ hj => .inr (.inr (.inr ⟨g, HG.out, .inr (.inr (HSH.out j hj))⟩)))).trans (KS.out.mono fun j _ e => by subst e; exact .inr (.inr (.inl rfl))))
  clear HFt HFf HRUN hkeep5 hown5 hg5 hlt5 hB5 z13 fz13 GR5 hw6 e6 KS K0x K1x OW4 HI4 hg4 hgB4 v13 n0 n2 n3 n4 n5 n6
  clear c0 c1 c2 c3 cf
  have c0 := K0e.out.cell 0
  have c1 := K0e.out.cell 1
  have c2 := K0e.out.cell 2
  have c3 := K0e.out.cell 3
  have cf := fun i => K0e.out.frozen i
  simp at c0 c1 c2 c3
  have d0 := K1e.out.cell 0
  have d1 := K1e.out.cell 1
  have d2 := K1e.out.cell 2
  have d3 := K1e.out.cell 3
  have df := fun i => K1e.out.frozen i
  simp at d0 d1 d2 d3
  go_wp2
  have kk := Lib.hid (show Keep (fun i => i = w.heap.size + 1) w6 ((((w6.setCell ⟨w.heap.size + 1, 0, none⟩ (.int .i64 X.now)).setCell ⟨w.heap.size + 1, 1, none⟩ (.slice ca X.cpus.length cc)).setCell ⟨w.heap.size + 1, 2, none⟩ (.slice (some ⟨bt, 0, none⟩) X.tasks.length tc)).setCell ⟨w.heap.size + 1, 3, none⟩ (.slice (some ⟨bg, 0, none⟩) X.groups.length gc)) from ((((Keep.set _ _ _ (by rfl)).trans (Keep.set _ _ _ (by rfl))).trans (Keep.set _ _ _ (by rfl))).trans (Keep.set _ _ _ (by rfl))))
  refine bodyPost_ret (v := .tuple #[.agg #[.int .i64 X.now, .slice ca X.cpus.length cc, .slice (some ⟨bt, 0, none⟩) X.tasks.length tc, .slice (some ⟨bg, 0, none⟩) X.groups.length gc], .bool true]) (by simp [results, Tryz.results10, go_sem, *]) rfl ⟨?_, ca, cc, (hset gh g { gh g with sa := some ⟨g5, 0, none⟩, sc := cap5 }), by first | rfl | simp [setG, addS], ?_, ?_⟩
  · exact Keep.then_ (S' := fun i => i = w.heap.size + 1) KE.out kk.out fun i hi e => by omega
  · exact OW6.out.keep kk.out fun i hi e => by rcases HN.out i hi with h | h; (have := (HOH.out i h).2; omega); (have := HW3.out; omega)
  · intro i hi; exact (HN.out i hi).imp_right fun h => by have := HW3.out; omega
set_option maxRecDepth 100000 in
set_option maxHeartbeats 4000000 in
theorem sLine_band_no (bt bg : Nat) (ca : Option Addr) (cc tc gc : Nat) (gh : Nat → GH) (X : WorldM) (B : Nat) (w : World) (h : OwnR w B ca cc (some ⟨bt, 0, none⟩) (some ⟨bg, 0, none⟩) gh X) (hf : RFit X) (hB : B ≤ w.heap.size) (s : ByteArray) (hs : s.size ≤ 20000) (L : List (List UInt8)) (hL : cutB 32 s.data.toList = L) (h0 : 0 < L.length) (hw : L[0] = wBand) (ho : ((numsN (L.drop 1) (4 + 2 * X.cpus.length)).bind fun l => if usedI X (gI l 0) = true then some (setG X (gI l 0).toNat { grp X (gI l 0).toNat with band := bandOf l X.cpus.length }) else none) = none) :
    Calls Tryz.prog 10 #[.agg #[.int .i64 X.now, .slice ca X.cpus.length cc, .slice (some ⟨bt, 0, none⟩) X.tasks.length tc, .slice (some ⟨bg, 0, none⟩) X.groups.length gc], .string s] w (LPost bt bg ca cc tc gc gh X B none w) := by
  have q0 : ((strB L[0]).toList == [110, 111, 119]) = false := by rw [wd_eq]; exact decide_eq_false (by rw [hw]; decide)
  have q1 : ((strB L[0]).toList == [99, 112, 117]) = false := by rw [wd_eq]; exact decide_eq_false (by rw [hw]; decide)
  have q2 : ((strB L[0]).toList == [103, 114, 111, 117, 112]) = false := by rw [wd_eq]; exact decide_eq_false (by rw [hw]; decide)
  have q3 : ((strB L[0]).toList == [115, 104, 101, 108, 102]) = false := by rw [wd_eq]; exact decide_eq_false (by rw [hw]; decide)
  have q4 : ((strB L[0]).toList == [98, 97, 110, 100]) = true := by rw [wd_eq]; exact decide_eq_true hw
  have HOH := Lib.hid (fun i hi => h.own.has (g := i) hi)
  have HF := Lib.hid hf
  have HG8 := Lib.hid hf.gl
  have HT12 := Lib.hid hf.task
  have hc4 := hf.cpu
  have hc0 : (X.cpus.length : Int) ≤ 4 := by omega
  have HBL := Lib.hid (show ∀ a ∈ L, a.length ≤ 20000 from fun a ha => by rw [← hL] at ha; have := cut_len ha; have := len_s s; omega)
  have HLL := Lib.hid (show L.length ≤ 20001 by rw [← hL]; have := cut_count 32 s.data.toList; have := len_s s; omega)
  have HP := Lib.hid h0
  have SW := Lib.hid (show ∀ W, Calls Tryz.prog 25 #[.string s] W (WordsOut L W) from fun W => by have := sWords_any s W hs; rw [hL] at this; exact this)
  have l0 : (0 : Int) < (L.length : Int) := by omega
  have HW := Lib.hid (head_at h0 hw)
  clear hL hs hf hw
  go_enter Tryz.func10, Tryz.ntmps10
  go_upto_region 1 with (fail)
  refine gen2 (p := fun W => Code.wp _ _ _ _ W) ?_
  intro W b1 s1 k0 k1
  have B1 := Lib.hid b1
  have K0 := Lib.hid k0
  have K1 := Lib.hid k1
  have S1 := Lib.hid s1
  have OW1 := Lib.hid (h.below b1)
  clear b1 k0 k1 s1 h
  go_upto_region 2 with (go_at_call 25; refine (SW.out _).mono ?_; rintro e w2 ⟨A, c, rfl, hb2, hR, hcap⟩)
  obtain ⟨bw, rfl, hbw, cw⟩ := word_at hR HP.out
  generalize strB L[0] = s0 at *
  have WS := Lib.hid ((WordS.of_row hR).tl hcap 1)
  have HC := Lib.hid hcap
  have K0b := Lib.hid (K0.out.below hb2 K0.out.lt)
  have K1b := Lib.hid (K1.out.below hb2 K1.out.lt)
  have B2 := Lib.hid (B1.out.andThen hb2)
  have OW2 := Lib.hid (OW1.out.below hb2)
  have HS2 := Lib.hid (show w.heap.size + 2 ≤ w2.heap.size by have := S1.out; have := hb2.size; omega)
  clear hb2 hR hcap K0 K1 OW1 B1 SW
  have lc : (L.length : Int) ≤ (c : Int) := by have := HC.out; omega
  have l1 : (1 : Int) ≤ (L.length : Int) := by omega
  have HO := Lib.hid ho
  clear ho
  go_upto_region 32 with (fail)
  have bd := (Below.refl w2.heap.size w2).drew
  have K0c := Lib.hid (K0b.out.below bd K0b.out.lt)
  have K1c := Lib.hid (K1b.out.below bd K1b.out.lt)
  have OW3 := Lib.hid (OW2.out.below bd)
  have B3 := Lib.hid (B2.out.andThen bd)
  have WS3 := Lib.hid (WS.out.keep bd)
  have HS3 := Lib.hid (show w.heap.size + 2 ≤ w2.drew.heap.size by have := HS2.out; have := bd.size; omega)
  have SB := Lib.hid (show Calls Tryz.prog 29 #[.agg #[.int .i64 X.now, .slice ca X.cpus.length cc, .slice (some ⟨bt, 0, none⟩) X.tasks.length tc, .slice (some ⟨bg, 0, none⟩) X.groups.length gc], .slice (if c = 1 then some ⟨bw, 0, none⟩ else some ⟨bw, 1, none⟩) (L.length - 1) (c - 1)] w2.drew (LPost bt bg ca cc tc gc gh X B none w2.drew) from by rw [← HO.out]; exact sBand_any bt bg ca cc tc gc gh X B _ OW3.out HF.out (by have := B3.out.size; omega) _ (L.length - 1) (c - 1) (L.drop 1) (by rw [List.length_drop]) WS3.out (by rw [List.length_drop]; have := HLL.out; omega) (fun a ha => HBL.out a (List.mem_of_mem_drop ha)))
  clear K0b K1b OW2 B2 WS bd
  refine region_TT (.det 1 (.det 2 (.one 0 (.one 3 (.det 4 (.det 5 (.one 6 (.det 7 .done)))))))) (by kernel_rfl) (by kernel_rfl) rfl (by kernel_rfl) ?_
  generalize w2.drew = w3 at *
  have c0 := K0c.out.cell 0
  have c1 := K0c.out.cell 1
  have c2 := K0c.out.cell 2
  have c3 := K0c.out.cell 3
  have cf := fun i => K0c.out.frozen i
  simp at c0 c1 c2 c3
  refine wpT_det (by rfl) (by rfl) (fun K hK => ?_); go_big_quiet_op; refine hK _ ?_; clear hK K
  try simp only [Act.put, List.setIfInBounds_toArray, List.set_cons_zero, List.set_cons_succ]
  refine wpT_det (by rfl) (by rfl) (fun K hK => ?_); go_big_quiet_op; refine hK _ ?_; clear hK K
  try simp only [Act.put, List.setIfInBounds_toArray, List.set_cons_zero, List.set_cons_succ]
  refine wpT_one (by rfl) (by rfl) (fun K hK => ?_)
  go_big_op
  refine hK _ _ trivial ?_
  clear hK K
  try simp only [Act.put, List.setIfInBounds_toArray, List.set_cons_zero, List.set_cons_succ]
  clear c0 c1 c2 c3 cf
  refine wpT_one (by rfl) (by rfl) (fun K hK => ?_)
  go_big_op
  go_at_call 29
  refine SB.out.mono ?_
  rintro e w4 ⟨hke, rfl⟩
  refine hK _ _ trivial ?_
  clear hK K
  have K1d := Lib.hid (hke.blk K1c.out fun e => by have := (HOH.out _ e).2; omega)
  have KE := Lib.hid ((Keep.of_below (S := Has ca (some ⟨bt, 0, none⟩) (some ⟨bg, 0, none⟩) gh X.groups.length) B3.out).trans hke)
  refine wpT_det (by rfl) (by rfl) (fun K hK => ?_); go_big_quiet_op; refine hK _ ?_; clear hK K
  try simp only [Act.put, List.setIfInBounds_toArray, List.set_cons_zero, List.set_cons_succ]
  refine wpT_det (by rfl) (by rfl) (fun K hK => ?_); go_big_quiet_op; refine hK _ ?_; clear hK K
  try simp only [Act.put, List.setIfInBounds_toArray, List.set_cons_zero, List.set_cons_succ]
  have d0 := K1d.out.cell 0
  have d1 := K1d.out.cell 1
  have d2 := K1d.out.cell 2
  have d3 := K1d.out.cell 3
  have df := fun i => K1d.out.frozen i
  simp at d0 d1 d2 d3
  refine wpT_one (by rfl) (by rfl) (fun K hK => ?_)
  go_big_op
  refine hK _ _ trivial ?_
  clear hK K
  try simp only [Act.put, List.setIfInBounds_toArray, List.set_cons_zero, List.set_cons_succ]
  refine wpT_det (by rfl) (by rfl) (fun K hK => ?_); go_big_quiet_op; refine hK _ ?_; clear hK K
  try simp only [Act.put, List.setIfInBounds_toArray, List.set_cons_zero, List.set_cons_succ]
  refine wpT_nil ?_
  generalize (if c = 1 then some ⟨bw, 0, none⟩ else some ⟨bw, 1, none⟩ : Option Addr) = aw at *
  go_wp2
  have kk := Lib.hid (show Keep (fun i => i = w.heap.size + 1) w4 ((((w4.setCell ⟨w.heap.size + 1, 0, none⟩ (.int .i64 X.now)).setCell ⟨w.heap.size + 1, 1, none⟩ (.slice ca X.cpus.length cc)).setCell ⟨w.heap.size + 1, 2, none⟩ (.slice (some ⟨bt, 0, none⟩) X.tasks.length tc)).setCell ⟨w.heap.size + 1, 3, none⟩ (.slice (some ⟨bg, 0, none⟩) X.groups.length gc)) from ((((Keep.set _ _ _ (by rfl)).trans (Keep.set _ _ _ (by rfl))).trans (Keep.set _ _ _ (by rfl))).trans (Keep.set _ _ _ (by rfl))))
  refine bodyPost_ret (v := .tuple #[.agg #[.int .i64 X.now, .slice ca X.cpus.length cc, .slice (some ⟨bt, 0, none⟩) X.tasks.length tc, .slice (some ⟨bg, 0, none⟩) X.groups.length gc], .bool false]) (by simp [results, Tryz.results10, go_sem, *]) rfl ⟨?_, rfl⟩
  exact Keep.then_ (S' := fun i => i = w.heap.size + 1) KE.out kk.out fun i hi e => by omega
set_option maxRecDepth 100000 in
set_option maxHeartbeats 4000000 in
theorem sLine_band_yes (bt bg : Nat) (ca : Option Addr) (cc tc gc : Nat) (gh : Nat → GH) (X : WorldM) (B : Nat) (w : World) (h : OwnR w B ca cc (some ⟨bt, 0, none⟩) (some ⟨bg, 0, none⟩) gh X) (hf : RFit X) (hB : B ≤ w.heap.size) (s : ByteArray) (hs : s.size ≤ 20000) (L : List (List UInt8)) (hL : cutB 32 s.data.toList = L) (h0 : 0 < L.length) (hw : L[0] = wBand) (X' : WorldM) (ho : ((numsN (L.drop 1) (4 + 2 * X.cpus.length)).bind fun l => if usedI X (gI l 0) = true then some (setG X (gI l 0).toNat { grp X (gI l 0).toNat with band := bandOf l X.cpus.length }) else none) = some X') :
    Calls Tryz.prog 10 #[.agg #[.int .i64 X.now, .slice ca X.cpus.length cc, .slice (some ⟨bt, 0, none⟩) X.tasks.length tc, .slice (some ⟨bg, 0, none⟩) X.groups.length gc], .string s] w (LPost bt bg ca cc tc gc gh X B (some X') w) := by
  have q0 : ((strB L[0]).toList == [110, 111, 119]) = false := by rw [wd_eq]; exact decide_eq_false (by rw [hw]; decide)
  have q1 : ((strB L[0]).toList == [99, 112, 117]) = false := by rw [wd_eq]; exact decide_eq_false (by rw [hw]; decide)
  have q2 : ((strB L[0]).toList == [103, 114, 111, 117, 112]) = false := by rw [wd_eq]; exact decide_eq_false (by rw [hw]; decide)
  have q3 : ((strB L[0]).toList == [115, 104, 101, 108, 102]) = false := by rw [wd_eq]; exact decide_eq_false (by rw [hw]; decide)
  have q4 : ((strB L[0]).toList == [98, 97, 110, 100]) = true := by rw [wd_eq]; exact decide_eq_true hw
  have HOH := Lib.hid (fun i hi => h.own.has (g := i) hi)
  have HF := Lib.hid hf
  have HG8 := Lib.hid hf.gl
  have HT12 := Lib.hid hf.task
  have hc4 := hf.cpu
  have hc0 : (X.cpus.length : Int) ≤ 4 := by omega
  have HBL := Lib.hid (show ∀ a ∈ L, a.length ≤ 20000 from fun a ha => by rw [← hL] at ha; have := cut_len ha; have := len_s s; omega)
  have HLL := Lib.hid (show L.length ≤ 20001 by rw [← hL]; have := cut_count 32 s.data.toList; have := len_s s; omega)
  have HP := Lib.hid h0
  have SW := Lib.hid (show ∀ W, Calls Tryz.prog 25 #[.string s] W (WordsOut L W) from fun W => by have := sWords_any s W hs; rw [hL] at this; exact this)
  have l0 : (0 : Int) < (L.length : Int) := by omega
  have HW := Lib.hid (head_at h0 hw)
  clear hL hs hf hw
  go_enter Tryz.func10, Tryz.ntmps10
  go_upto_region 1 with (fail)
  refine gen2 (p := fun W => Code.wp _ _ _ _ W) ?_
  intro W b1 s1 k0 k1
  have B1 := Lib.hid b1
  have K0 := Lib.hid k0
  have K1 := Lib.hid k1
  have S1 := Lib.hid s1
  have OW1 := Lib.hid (h.below b1)
  clear b1 k0 k1 s1 h
  go_upto_region 2 with (go_at_call 25; refine (SW.out _).mono ?_; rintro e w2 ⟨A, c, rfl, hb2, hR, hcap⟩)
  obtain ⟨bw, rfl, hbw, cw⟩ := word_at hR HP.out
  generalize strB L[0] = s0 at *
  have WS := Lib.hid ((WordS.of_row hR).tl hcap 1)
  have HC := Lib.hid hcap
  have K0b := Lib.hid (K0.out.below hb2 K0.out.lt)
  have K1b := Lib.hid (K1.out.below hb2 K1.out.lt)
  have B2 := Lib.hid (B1.out.andThen hb2)
  have OW2 := Lib.hid (OW1.out.below hb2)
  have HS2 := Lib.hid (show w.heap.size + 2 ≤ w2.heap.size by have := S1.out; have := hb2.size; omega)
  clear hb2 hR hcap K0 K1 OW1 B1 SW
  have lc : (L.length : Int) ≤ (c : Int) := by have := HC.out; omega
  have l1 : (1 : Int) ≤ (L.length : Int) := by omega
  have HO := Lib.hid ho
  clear ho
  go_upto_region 32 with (fail)
  have bd := (Below.refl w2.heap.size w2).drew
  have K0c := Lib.hid (K0b.out.below bd K0b.out.lt)
  have K1c := Lib.hid (K1b.out.below bd K1b.out.lt)
  have OW3 := Lib.hid (OW2.out.below bd)
  have B3 := Lib.hid (B2.out.andThen bd)
  have WS3 := Lib.hid (WS.out.keep bd)
  have HS3 := Lib.hid (show w.heap.size + 2 ≤ w2.drew.heap.size by have := HS2.out; have := bd.size; omega)
  have SB := Lib.hid (show Calls Tryz.prog 29 #[.agg #[.int .i64 X.now, .slice ca X.cpus.length cc, .slice (some ⟨bt, 0, none⟩) X.tasks.length tc, .slice (some ⟨bg, 0, none⟩) X.groups.length gc], .slice (if c = 1 then some ⟨bw, 0, none⟩ else some ⟨bw, 1, none⟩) (L.length - 1) (c - 1)] w2.drew (LPost bt bg ca cc tc gc gh X B (some X') w2.drew) from by rw [← HO.out]; exact sBand_any bt bg ca cc tc gc gh X B _ OW3.out HF.out (by have := B3.out.size; omega) _ (L.length - 1) (c - 1) (L.drop 1) (by rw [List.length_drop]) WS3.out (by rw [List.length_drop]; have := HLL.out; omega) (fun a ha => HBL.out a (List.mem_of_mem_drop ha)))
  clear K0b K1b OW2 B2 WS bd
  refine region_TT (.det 1 (.det 2 (.one 0 (.one 3 (.det 4 (.det 5 (.one 6 (.det 7 .done)))))))) (by kernel_rfl) (by kernel_rfl) rfl (by kernel_rfl) ?_
  generalize w2.drew = w3 at *
  have c0 := K0c.out.cell 0
  have c1 := K0c.out.cell 1
  have c2 := K0c.out.cell 2
  have c3 := K0c.out.cell 3
  have cf := fun i => K0c.out.frozen i
  simp at c0 c1 c2 c3
  refine wpT_det (by rfl) (by rfl) (fun K hK => ?_); go_big_quiet_op; refine hK _ ?_; clear hK K
  try simp only [Act.put, List.setIfInBounds_toArray, List.set_cons_zero, List.set_cons_succ]
  refine wpT_det (by rfl) (by rfl) (fun K hK => ?_); go_big_quiet_op; refine hK _ ?_; clear hK K
  try simp only [Act.put, List.setIfInBounds_toArray, List.set_cons_zero, List.set_cons_succ]
  refine wpT_one (by rfl) (by rfl) (fun K hK => ?_)
  go_big_op
  refine hK _ _ trivial ?_
  clear hK K
  try simp only [Act.put, List.setIfInBounds_toArray, List.set_cons_zero, List.set_cons_succ]
  clear c0 c1 c2 c3 cf
  refine wpT_one (by rfl) (by rfl) (fun K hK => ?_)
  go_big_op
  go_at_call 29
  refine SB.out.mono ?_
  rintro e w4 ⟨hke, ca', cc', gh', rfl, how, hnew⟩
  refine hK _ _ trivial ?_
  clear hK K
  have K1d := Lib.hid (hke.blk K1c.out fun e => by have := (HOH.out _ e).2; omega)
  have KE := Lib.hid ((Keep.of_below (S := Has ca (some ⟨bt, 0, none⟩) (some ⟨bg, 0, none⟩) gh X.groups.length) B3.out).trans hke)
  refine wpT_det (by rfl) (by rfl) (fun K hK => ?_); go_big_quiet_op; refine hK _ ?_; clear hK K
  try simp only [Act.put, List.setIfInBounds_toArray, List.set_cons_zero, List.set_cons_succ]
  refine wpT_det (by rfl) (by rfl) (fun K hK => ?_); go_big_quiet_op; refine hK _ ?_; clear hK K
  try simp only [Act.put, List.setIfInBounds_toArray, List.set_cons_zero, List.set_cons_succ]
  have d0 := K1d.out.cell 0
  have d1 := K1d.out.cell 1
  have d2 := K1d.out.cell 2
  have d3 := K1d.out.cell 3
  have df := fun i => K1d.out.frozen i
  simp at d0 d1 d2 d3
  refine wpT_one (by rfl) (by rfl) (fun K hK => ?_)
  go_big_op
  refine hK _ _ trivial ?_
  clear hK K
  try simp only [Act.put, List.setIfInBounds_toArray, List.set_cons_zero, List.set_cons_succ]
  refine wpT_det (by rfl) (by rfl) (fun K hK => ?_); go_big_quiet_op; refine hK _ ?_; clear hK K
  try simp only [Act.put, List.setIfInBounds_toArray, List.set_cons_zero, List.set_cons_succ]
  refine wpT_nil ?_
  generalize (if c = 1 then some ⟨bw, 0, none⟩ else some ⟨bw, 1, none⟩ : Option Addr) = aw at *
  go_wp2
  have kk := Lib.hid (show Keep (fun i => i = w.heap.size + 1) w4 ((((w4.setCell ⟨w.heap.size + 1, 0, none⟩ (.int .i64 X'.now)).setCell ⟨w.heap.size + 1, 1, none⟩ (.slice ca' X'.cpus.length cc')).setCell ⟨w.heap.size + 1, 2, none⟩ (.slice (some ⟨bt, 0, none⟩) X'.tasks.length tc)).setCell ⟨w.heap.size + 1, 3, none⟩ (.slice (some ⟨bg, 0, none⟩) X'.groups.length gc)) from ((((Keep.set _ _ _ (by rfl)).trans (Keep.set _ _ _ (by rfl))).trans (Keep.set _ _ _ (by rfl))).trans (Keep.set _ _ _ (by rfl))))
  refine bodyPost_ret (v := .tuple #[.agg #[.int .i64 X'.now, .slice ca' X'.cpus.length cc', .slice (some ⟨bt, 0, none⟩) X'.tasks.length tc, .slice (some ⟨bg, 0, none⟩) X'.groups.length gc], .bool true]) (by simp [results, Tryz.results10, go_sem, *]) rfl ⟨?_, ca', cc', gh', rfl, ?_, ?_⟩
  · exact Keep.then_ (S' := fun i => i = w.heap.size + 1) KE.out kk.out fun i hi e => by omega
  · exact how.keep kk.out fun i hi e => by rcases hnew i hi with h | h; (have := (HOH.out i h).2; omega); (have := HS3.out; omega)
  · intro i hi; exact (hnew i hi).imp_right fun h => by have := HS3.out; omega
theorem sLine_any (bt bg : Nat) (ca : Option Addr) (cc tc gc : Nat) (gh : Nat → GH) (X : WorldM) (B : Nat) (w : World) (h : OwnR w B ca cc (some ⟨bt, 0, none⟩) (some ⟨bg, 0, none⟩) gh X) (hf : RFit X) (hB : B ≤ w.heap.size) (s : ByteArray) (hs : s.size ≤ 20000) (L : List (List UInt8)) (hL : cutB 32 s.data.toList = L) (h0 : 0 < L.length) :
    Calls Tryz.prog 10 #[.agg #[.int .i64 X.now, .slice ca X.cpus.length cc, .slice (some ⟨bt, 0, none⟩) X.tasks.length tc, .slice (some ⟨bg, 0, none⟩) X.groups.length gc], .string s] w (LPost bt bg ca cc tc gc gh X B (lineSp X s.data.toList) w) := by
  have hd : ∀ {a : List UInt8}, L[0] ≠ a → ¬ L.headD [] = a := fun hn e => hn (by cases L with
    | nil => simp at h0
    | cons x r => exact e)
  have hh : ∀ {a : List UInt8}, L[0] = a → L.headD [] = a := fun e => head_at h0 e
  have nat : ∀ {n : Int} {b : Int}, inR n 0 b = true → ∃ g : Nat, n = g := fun hr => by rw [inR_iff] at hr; exact ⟨_, (Int.toNat_of_nonneg hr.1).symm⟩
  show Calls _ _ _ w (LPost bt bg ca cc tc gc gh X B (lineW X (cutB 32 s.data.toList)) w)
  rw [hL, lineW, ← List.drop_one]
  by_cases w1 : L[0] = wNow
  · rw [if_pos (hh w1)]
    cases hq : numsN (L.drop 1) 1 with
    | none => exact sLine_now_no bt bg ca cc tc gc gh X B w h hf hB s hs L hL h0 w1 hq
    | some l => exact sLine_now_yes bt bg ca cc tc gc gh X B w h hf hB s hs L hL h0 w1 hq
  rw [if_neg (hd w1)]
  by_cases w2 : L[0] = wCpu
  · rw [if_pos (hh w2)]
    cases hq : numsN (L.drop 1) 5 with
    | none => exact sLine_cpu_no bt bg ca cc tc gc gh X B w h hf hB s hs L hL h0 w2 hq
    | some l =>
      show Calls _ _ _ w (LPost bt bg ca cc tc gc gh X B (if X.cpus.length = 4 then none else some _) w)
      by_cases h4 : X.cpus.length = 4
      · rw [if_pos h4]; exact sLine_cpu_full bt bg ca cc tc gc gh X B w h hf hB s hs L hL h0 w2 hq h4
      · rw [if_neg h4]; exact sLine_cpu_yes bt bg ca cc tc gc gh X B w h hf hB s hs L hL h0 w2 hq h4
  rw [if_neg (hd w2)]
  by_cases w3 : L[0] = wGroup
  · rw [if_pos (hh w3)]
    by_cases h9 : L.length = 9
    · rw [if_pos h9]
      cases hq : numsN (L.drop 2) 7 with
      | none => exact sLine_group_no bt bg ca cc tc gc gh X B w h hf hB s hs L hL h0 w3 h9 hq
      | some l =>
        show Calls _ _ _ w (LPost bt bg ca cc tc gc gh X B (if inR (gI l 0) 0 7 = true then some _ else none) w)
        by_cases hr : inR (gI l 0) 0 7 = true
        · rw [if_pos hr]
          obtain ⟨g, hg⟩ := nat hr
          have hg8 : g < 8 := by rw [hg, inR_iff] at hr; omega
          have h91 : 1 < L.length := by omega
          rw [hg, Int.toNat_natCast]
          by_cases hz : g = 0
          · rw [if_pos (by omega)]; have q := sLine_group_root bt bg ca cc tc gc gh X B w h hf hB s hs L hL h0 w3 h9 hq h91 g hg hg8 hz; exact q
          · rw [if_neg (by omega), show L.getD 1 [] = L[1] by simp [h91]]; exact sLine_group_kid bt bg ca cc tc gc gh X B w h hf hB s hs L hL h0 w3 h9 hq h91 g hg hg8 hz
        · rw [if_neg hr]; exact sLine_group_off bt bg ca cc tc gc gh X B w h hf hB s hs L hL h0 w3 h9 hq (by simpa using hr)
    · rw [if_neg h9]; exact sLine_group_len bt bg ca cc tc gc gh X B w h hf hB s hs L hL h0 w3 h9
  rw [if_neg (hd w3)]
  by_cases w4 : L[0] = wShelf
  · rw [if_pos (hh w4)]
    cases hq : numsN (L.drop 1) 7 with
    | none => exact sLine_shelf_no bt bg ca cc tc gc gh X B w h hf hB s hs L hL h0 w4 hq
    | some l =>
      show Calls _ _ _ w (LPost bt bg ca cc tc gc gh X B (if (usedI X (gI l 0) && !((grp X (gI l 0).toNat).shelves.length == 4)) = true then some _ else none) w)
      by_cases hu : usedI X (gI l 0) = true
      · obtain ⟨g, hg⟩ : ∃ g : Nat, gI l 0 = g := ⟨(gI l 0).toNat, by simp only [usedI, Bool.and_eq_true, decide_eq_true_eq] at hu; omega⟩
        have hg8 : g < 8 := by have := usedI_lt hu hf.gl; rw [hg, Int.toNat_natCast] at this; exact this
        have hu2 := hu
        rw [hg] at hu2
        rw [hg, Int.toNat_natCast, hu2]
        by_cases h4 : (grp X g).shelves.length = 4
        · rw [if_neg (by simp [h4])]; exact sLine_shelf_full bt bg ca cc tc gc gh X B w h hf hB s hs L hL h0 w4 hq g hg hg8 hu h4
        · rw [if_pos (by simp [h4])]; exact sLine_shelf_yes bt bg ca cc tc gc gh X B w h hf hB s hs L hL h0 w4 hq g hg hg8 hu h4
      · rw [if_neg (by simp [hu])]; exact sLine_shelf_off bt bg ca cc tc gc gh X B w h hf hB s hs L hL h0 w4 hq (by simpa using hu)
  rw [if_neg (hd w4)]
  by_cases w5 : L[0] = wBand
  · rw [if_pos (hh w5)]
    cases ho : ((numsN (L.drop 1) (4 + 2 * X.cpus.length)).bind fun l => if usedI X (gI l 0) = true then some (setG X (gI l 0).toNat { grp X (gI l 0).toNat with band := bandOf l X.cpus.length }) else none) with
    | none => exact sLine_band_no bt bg ca cc tc gc gh X B w h hf hB s hs L hL h0 w5 ho
    | some X' => exact sLine_band_yes bt bg ca cc tc gc gh X B w h hf hB s hs L hL h0 w5 X' ho
  rw [if_neg (hd w5)]
  by_cases w6 : L[0] = wTask
  · rw [if_pos (hh w6)]
    cases hq : numsN (L.drop 1) 10 with
    | none => exact sLine_task_no bt bg ca cc tc gc gh X B w h hf hB s hs L hL h0 w6 hq
    | some l =>
      show Calls _ _ _ w (LPost bt bg ca cc tc gc gh X B (if inR (gI l 0) 0 11 = true then some _ else none) w)
      by_cases hr : inR (gI l 0) 0 11 = true
      · rw [if_pos hr]
        obtain ⟨g, hg⟩ := nat hr
        have hg8 : g < 12 := by rw [hg, inR_iff] at hr; omega
        rw [hg, Int.toNat_natCast]
        exact sLine_task_yes bt bg ca cc tc gc gh X B w h hf hB s hs L hL h0 w6 hq g hg hg8
      · rw [if_neg hr]; exact sLine_task_off bt bg ca cc tc gc gh X B w h hf hB s hs L hL h0 w6 hq (by simpa using hr)
  rw [if_neg (hd w6)]
  exact sLine_other bt bg ca cc tc gc gh X B w h hf hB s hs L hL h0 ⟨w1, w2, w3, w4, w5, w6⟩
end
end Go.Proofs.YtomllcclallcdaaGreatDoor
