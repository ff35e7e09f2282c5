/- The entries of a queue as the program holds them: values of an interface type; their keys, times and weights; members. What the entries of a level weigh together; calls through the interface. -/
import Derived.Test.YtccjanpdgdonmaaGreatI4
import Derived.Test.YtccjanpdgdonmaaGreatI1
import Derived.Test.YtccjanpdgdonmaaGreatZm
import Derived.Maps.AppendAt
import Derived.OwnWalk
import Derived.Test.YtccjanpdgdonmaaGreatZr
namespace Go.Proofs.YtccjanpdgdonmaaGreat
open Go.RowKit
def tmV (s : Int) (x : TaskM) : Value := .agg #[.int .i64 s, .int .i64 x.st, .int .i64 x.gr, .int .i64 x.cpu, .int .i64 x.nice, .int .i64 x.mask, .int .i64 x.v, .int .i64 x.sum, .int .i64 x.used, .int .i64 x.load]
def gmV (s : Int) (x : ShelfM) : Value := .agg #[.int .i64 s, .int .i64 x.floor, .bool x.on, .int .i64 x.v, .int .i64 x.w, .int .i64 x.sum]
/-- the value of an entry on a processor -/
def memV (M : WorldM) (c : Nat) : Mem → Value
  | ⟨false, t⟩ => .iface 113 (tmV t (tsk M t))
  | ⟨true, g⟩ => .iface 119 (gmV g (she M g c))
theorem memV_one (M : WorldM) (c : Nat) (m : Mem) : (memV M c m).oneCell' = true := by
  obtain ⟨g, s⟩ := m
  cases g <;> rfl
theorem iTmKey_any (s : Int) (x : TaskM) (w : World) :
    Calls Tryz.prog 166 #[tmV s x] w fun e w' => e = .returned (.agg #[.bool false, .int .i64 s]) ∧ Below w.heap.size w w' := by
  unfold tmV
  go_enter Tryz.func166, Tryz.ntmps166
  go_wp2
  exact bodyPost_ret (results_cell_row rfl _ _ (w.heap.size + 1) 116 _ (0, 0) _ rfl (by have := heap_alloc_new (w.alloc (.cells (tmV s x).cells 113)) (.cells #[.bool false, .int .i64 s] 116); simpa [tmV, Value.cells] using this) Tryz.underlying116 rfl (by kernel_rfl)) rfl ⟨rfl, ((Below.refl _ _).alloc (Nat.le_refl _) _).alloc (by simp) _⟩
theorem iTmTime_any (s : Int) (x : TaskM) (w : World) :
    Calls Tryz.prog 167 #[tmV s x] w fun e w' => e = .returned (.int .i64 x.v) ∧ Below w.heap.size w w' := by
  unfold tmV
  go_enter Tryz.func167, Tryz.ntmps167
  go_wp2
  go_ret
  exact ⟨rfl, (Below.refl _ _).alloc (Nat.le_refl _) _⟩
theorem iGmKey_any (s : Int) (x : ShelfM) (w : World) :
    Calls Tryz.prog 169 #[gmV s x] w fun e w' => e = .returned (.agg #[.bool true, .int .i64 s]) ∧ Below w.heap.size w w' := by
  unfold gmV
  go_enter Tryz.func169, Tryz.ntmps169
  go_wp2
  exact bodyPost_ret (results_cell_row rfl _ _ (w.heap.size + 1) 116 _ (0, 0) _ rfl (by have := heap_alloc_new (w.alloc (.cells (gmV s x).cells 119)) (.cells #[.bool true, .int .i64 s] 116); simpa [gmV, Value.cells] using this) Tryz.underlying116 rfl (by kernel_rfl)) rfl ⟨rfl, ((Below.refl _ _).alloc (Nat.le_refl _) _).alloc (by simp) _⟩
theorem iGmTime_any (s : Int) (x : ShelfM) (w : World) :
    Calls Tryz.prog 170 #[gmV s x] w fun e w' => e = .returned (.int .i64 x.v) ∧ Below w.heap.size w w' := by
  unfold gmV
  go_enter Tryz.func170, Tryz.ntmps170
  go_wp2
  go_ret
  exact ⟨rfl, (Below.refl _ _).alloc (Nat.le_refl _) _⟩
theorem iTmWeight_any (s : Int) (x : TaskM) (w : World) :
    Calls Tryz.prog 168 #[tmV s x] w fun e w' => e = .returned (.int .i64 (wof x.nice)) ∧ Below w.heap.size w w' := by
  unfold tmV
  go_enter Tryz.func168, Tryz.ntmps168
  go_wp2_with (go_at_call 116; refine (iWeightOf_any _ _).mono ?_; rintro e w' ⟨rfl, rfl⟩)
  go_ret
  exact ⟨rfl, (Below.refl _ _).alloc (Nat.le_refl _) _⟩
theorem iGmWeight_any (s : Int) (x : ShelfM) (w : World) :
    Calls Tryz.prog 171 #[gmV s x] w fun e w' => e = .returned (.int .i64 x.w) ∧ Below w.heap.size w w' := by
  unfold gmV
  go_enter Tryz.func171, Tryz.ntmps171
  go_wp2
  go_ret
  exact ⟨rfl, (Below.refl _ _).alloc (Nat.le_refl _) _⟩
theorem own_below {w W : World} {base : Nat} {e : TypeId} {size : Nat} {v : Value} {n : Nat} {xs : List Value} (h : w.ownsRow base e size v n xs) (hb : Below w.heap.size w W) : W.ownsRow base e size v n xs :=
  h.kept (row := none) ⟨hb.os, hb.tape, hb.output, hb.size, fun k hk _ => hb.block k hk⟩ (by cases v.ownBlock <;> simp)
theorem own_mono {w : World} {base base' : Nat} {e : TypeId} {size : Nat} {v : Value} {n : Nat} {xs : List Value} (h : w.ownsRow base e size v n xs) (hb : base' ≤ base) : w.ownsRow base' e size v n xs := by
  refine ⟨h.1, ?_⟩
  rcases h.2 with h2 | ⟨g, cap, cur, h1, h2, h3⟩
  · exact .inl h2
  · exact .inr ⟨g, cap, cur, h1, Nat.le_trans hb h2, h3⟩
theorem infoMem : (Tryz.prog.info? 84).map (fun i => (i.zero, i.size, i.bytes)) = some (some Value.nilIface, 1, 16) := by kernel_rfl
set_option maxRecDepth 100000 in
set_option maxHeartbeats 2000000 in
theorem iMembers_any (p : Nat) (ca : Option Addr) (cc : Nat) (ta : Option Addr) (tc : Nat) (ga : Option Addr) (gc : Nat) (gh : Nat → GH) (M : WorldM) (w : World) (hs : PA w p ca cc ta tc ga gc gh M) (hG : ∀ k, k < M.groups.length → (grp M k).used = true → (grp M k).shelves.length = M.cpus.length) (htm : M.tasks.length ≤ 12) (hgm : M.groups.length ≤ 8) (g : Int) (c : Nat) (hc : c < M.cpus.length) :
    Calls Tryz.prog 84 #[.agg #[.pointer (some ⟨p, 0, none⟩), .int .i64 (c : Int)], .int .i64 g] w fun e w' => ∃ v, e = .returned v ∧ w'.ownsRow w.heap.size 84 1 v (memsM M g c).length ((memsM M g c).map (memV M c)) ∧ Below w.heap.size w w' := by
  have HG := Lib.hid hG
  clear hG
  obtain ⟨i0, hi, hz0, hz1, hz2⟩ := info_parts infoMem
  go_enter Tryz.func84, Tryz.ntmps84
  go_upto_region 1 with (fail)
  refine gen1 (p := fun W => Code.wp _ _ _ _ W) ?_
  intro W b1 s1 k1
  have x0 := k1.cell 0
  have x1 := k1.cell 1
  simp at x0 x1
  have hl := k1.lt
  clear k1
  have pw := hs.keep b1
  have hsz := Lib.hid s1
  clear s1
  obtain ⟨q0, q1, q2, q3, q4, q5⟩ := pw
  go_wp2
  have pw : PA W p ca cc ta tc ga gc gh M := ⟨q0, q1, q2, q3, q4, q5⟩
  clear q0 q1 q2 q3 q4 q5 hs
  go_loopw [5, 15] (fun all i wr => ∃ k : Nat, k ≤ M.tasks.length ∧ i = .int .i64 k ∧ wr.ownsRow W.heap.size 84 1 all (tasksM M g c k).length ((tasksM M g c k).map (memV M c)) ∧ Below W.heap.size W wr) (fun _ i _ => M.tasks.length - (intOf i).toNat)
  case atStart => exact ⟨0, by omega, rfl, World.ownsRow_nil _ _ _ _, Below.refl _ _⟩
  case round =>
    obtain ⟨k, hk, rfl, hown, hb⟩ := hrel
    have pw2 := pw.keep hb
    have y0 := (hb.cell (p := ⟨w.heap.size, 0, none⟩) hl).trans x0
    have y1 := (hb.cell (p := ⟨w.heap.size, 1, none⟩) hl).trans x1
    have hlw := Nat.lt_of_lt_of_le hl hb.size
    have hln := tasksM_len M g c k
    by_cases hlt : k < M.tasks.length
    · have PW2 := Lib.hid pw2
      obtain ⟨p0, p1, p2, p3, p4, p5⟩ := pw2
      obtain ⟨b, o, rfl, hB, c0, c1, c2, c3, c4, c5, c6, c7, c8⟩ := p5.task_ hlt
      go_upto_region 5 with (fail)
      refine gen1 (p := fun W => Code.wp _ _ _ _ W) ?_
      intro W2 b2 s2 kx
      have z0 := kx.cell 0
      have z1 := kx.cell 1
      have z2 := kx.cell 2
      have z3 := kx.cell 3
      have z4 := kx.cell 4
      have z5 := kx.cell 5
      have z6 := kx.cell 6
      have z7 := kx.cell 7
      have z8 := kx.cell 8
      simp at z0 z1 z2 z3 z4 z5 z6 z7 z8
      have hlx := kx.lt
      have PW3 := Lib.hid (PW2.out.keep b2)
      have v0 := (b2.cell (p := ⟨w.heap.size, 0, none⟩) hlw).trans y0
      have v1 := (b2.cell (p := ⟨w.heap.size, 1, none⟩) hlw).trans y1
      have own2 := own_below hown b2
      clear kx c0 c1 c2 c3 c4 c5 c6 c7 c8 p0 p1 p2 p3 p4 p5 y0 y1 x0 x1 hown
      have hsW := Lib.hid (Nat.le_trans hb.size b2.size)
      have bel2 := hb.andThen b2
      cases hq : tq M k g c with
      | true =>
        have HQ := Lib.hid hq
        clear hq
        go_upto_region 6 with (go_at_call 121; refine (iQueues_any p ca cc _ tc ga gc gh M _ PW3.out k hlt g c).mono ?_; rintro e w3 ⟨rfl, hb3⟩; rw [HQ.out]; have z0 := (hb3.cell (p := ⟨wr.heap.size, 0, none⟩) hlx).trans z0; have z1 := (hb3.cell (p := ⟨wr.heap.size, 1, none⟩) hlx).trans z1; have z2 := (hb3.cell (p := ⟨wr.heap.size, 2, none⟩) hlx).trans z2; have z3 := (hb3.cell (p := ⟨wr.heap.size, 3, none⟩) hlx).trans z3; have z4 := (hb3.cell (p := ⟨wr.heap.size, 4, none⟩) hlx).trans z4; have z5 := (hb3.cell (p := ⟨wr.heap.size, 5, none⟩) hlx).trans z5; have z6 := (hb3.cell (p := ⟨wr.heap.size, 6, none⟩) hlx).trans z6; have z7 := (hb3.cell (p := ⟨wr.heap.size, 7, none⟩) hlx).trans z7; have z8 := (hb3.cell (p := ⟨wr.heap.size, 8, none⟩) hlx).trans z8)
        have hz := Nat.le_trans hsW.out hb3.size
        go_wp2_with ((at_builtin; refine wpList_append_own _ rfl _ _ 85 rfl W.heap.size 84 i0 .nilIface 1 16 Tryz.underlying85 hi hz0 hz1 hz2 rfl (by decide) _ _ _ rfl ((own_below own2 hb3).alloc _) ⟨w3.heap.size, 0, none⟩ 1 1 [memV M c ⟨false, k⟩] rfl rfl (cell_one_new _ _ _) (by intro u hu; simp at hu; subst hu; exact memV_one _ _ _) (by unfold maxLen; omega) (by omega) (by simp; omega) ?_; intro v' w4 hown' hgrow _))
        go_roundw
        case rel => exact ⟨k + 1, by omega, by go_num, by rw [tasksM_t HQ.out]; simpa using hown', ((bel2.andThen hb3).alloc (by have := hb3.size; have := hsW.out; omega) _).grown hgrow (by simp; have := hb3.size; have := hsW.out; omega) (fun j e => (own2.lt j e).1)⟩
        case measure => simp [intOf]; omega
      | false =>
        have HQ := Lib.hid hq
        clear hq
        go_wp2_with (go_at_call 121; refine (iQueues_any p ca cc _ tc ga gc gh M _ PW3.out k hlt g c).mono ?_; rintro e w3 ⟨rfl, hb3⟩; rw [HQ.out])
        go_roundw
        case rel => exact ⟨k + 1, by omega, by go_num, by rw [tasksM_f HQ.out]; exact own_below own2 hb3, bel2.andThen hb3⟩
        case measure => simp [intOf]; omega
    · have hk8 : k = M.tasks.length := by omega
      have OWN := Lib.hid (show wr.ownsRow W.heap.size 84 1 u5 (tasksM M g c M.tasks.length).length ((tasksM M g c M.tasks.length).map (memV M c)) by rw [← hk8]; exact hown)
      obtain ⟨q0, q1, q2, q3, q4, q5⟩ := pw2
      clear hk8 hown
      go_wp2
      have pwr : PA wr p ca cc ta tc ga gc gh M := ⟨q0, q1, q2, q3, q4, q5⟩
      clear q0 q1 q2 q3 q4 q5 x0 x1
      obtain ⟨wo, hwo⟩ : ∃ wo : World, wo = wr := ⟨_, rfl⟩
      subst hwo
      go_loopw [5, 38] (fun all i wr => ∃ k2 : Nat, k2 ≤ M.groups.length ∧ i = .int .i64 k2 ∧ wr.ownsRow W.heap.size 84 1 all ((tasksM M g c M.tasks.length).length + (groupsM M g c k2).length) ((tasksM M g c M.tasks.length ++ groupsM M g c k2).map (memV M c)) ∧ Below W.heap.size W wr ∧ Below (w.heap.size + 1) wo wr) (fun _ i _ => M.groups.length - (intOf i).toNat)
      case atStart => exact ⟨0, by omega, rfl, by simpa [groupsM] using OWN.out, hb, Below.refl _ _⟩
      case round =>
        obtain ⟨k2, hk2, rfl, hown, hb2, hb3⟩ := hrel
        have hsz1 := hsz.out
        have pw3 := pw.keep hb2
        have t0 := (hb3.cell (p := ⟨w.heap.size, 0, none⟩) (by simp)).trans y0
        have t1 := (hb3.cell (p := ⟨w.heap.size, 1, none⟩) (by simp)).trans y1
        have hlw2 := Nat.lt_of_lt_of_le hl hb2.size
        have hlt3 := tasksM_len M g c M.tasks.length
        have hlg := groupsM_len M g c k2
        by_cases hlt2 : k2 < M.groups.length
        · have HC := Lib.hid (show (grp M k2).used = true → c < (grp M k2).shelves.length from fun hu => by rw [HG.out k2 hlt2 hu]; exact hc)
          have PW3 := Lib.hid pw3
          have hsW := Lib.hid hb2.size
          cases hq : gq M k2 g c with
          | true =>
            have HQ := Lib.hid hq
            have HU := Lib.hid (show (grp M k2).used = true by simp only [gq, Bool.and_eq_true] at hq; exact hq.2.1.1)
            clear hq
            obtain ⟨b5, o5, e5, hB5, k0, k1, k2', k3, k4⟩ := pw3.wa.shelf_ hlt2 (HC.out HU.out)
            have E5 := Lib.hid e5
            clear e5
            go_upto_region 12 with (go_at_call 122; refine (iHolds_any p ca cc ta tc ga gc gh M _ PW3.out k2 hlt2 g c HC.out).mono ?_; rintro e w3 ⟨rfl, hb4⟩; rw [HQ.out])
            have PW4 := Lib.hid (PW3.out.keep hb4)
            have own2 := own_below hown hb4
            have s0 := (hb4.cell (p := ⟨w.heap.size, 0, none⟩) hlw2).trans t0
            have s1 := (hb4.cell (p := ⟨w.heap.size, 1, none⟩) hlw2).trans t1
            have f0 := (hb4.cell (p := ⟨b5, o5 + c * 5, none⟩) hB5).trans k0
            have f1 := (hb4.cell (p := ⟨b5, o5 + c * 5 + 1, none⟩) hB5).trans k1
            have f2 := (hb4.cell (p := ⟨b5, o5 + c * 5 + 2, none⟩) hB5).trans k2'
            have f3 := (hb4.cell (p := ⟨b5, o5 + c * 5 + 3, none⟩) hB5).trans k3
            have f4 := (hb4.cell (p := ⟨b5, o5 + c * 5 + 4, none⟩) hB5).trans k4
            have hB6 := Nat.lt_of_lt_of_le hB5 hb4.size
            have sz4 := hb4.size
            clear t0 t1 k0 k1 k2' k3 k4 hown
            go_wp2_with (first | (go_at_call 38; refine (iShelf_any p ca cc ta tc ga gc gh M _ PW4.out k2 c b5 o5 E5.out hlt2 (HC.out HU.out)).mono ?_; rintro e w5 ⟨rfl, hb5⟩; have f0 := (hb5.cell (p := ⟨b5, o5 + c * 5, none⟩) hB6).trans f0; have f1 := (hb5.cell (p := ⟨b5, o5 + c * 5 + 1, none⟩) hB6).trans f1; have f2 := (hb5.cell (p := ⟨b5, o5 + c * 5 + 2, none⟩) hB6).trans f2; have f3 := (hb5.cell (p := ⟨b5, o5 + c * 5 + 3, none⟩) hB6).trans f3; have f4 := (hb5.cell (p := ⟨b5, o5 + c * 5 + 4, none⟩) hB6).trans f4; have sz5 := hb5.size) | (at_builtin; refine wpList_append_own _ rfl _ _ 85 rfl W.heap.size 84 i0 .nilIface 1 16 Tryz.underlying85 hi hz0 hz1 hz2 rfl (by decide) _ _ _ rfl ((own_below own2 hb5).alloc _) ⟨w5.heap.size, 0, none⟩ 1 1 [memV M c ⟨true, k2⟩] rfl rfl (cell_one_new _ _ _) (by intro u hu; simp at hu; subst hu; exact memV_one _ _ _) (by unfold maxLen; omega) (by omega) (by have := hsW.out; simp; omega) ?_; intro v' w6 hown' hgrow _))
            have hsw := hsW.out
            go_roundw
            case rel => exact ⟨k2 + 1, by omega, by go_num, by rw [groupsM_t HQ.out]; simpa [Nat.add_assoc] using hown',
              (((hb2.andThen hb4).andThen hb5).alloc (by omega) _).grown hgrow (by simp; omega) (fun j e => (own2.lt j e).1),
              (((hb3.trans (hb4.mono (by omega))).trans (hb5.mono (by omega))).alloc (by omega) _).grown hgrow (by simp; omega) (fun j e => by have := (own2.lt j e).1; omega)⟩
            case measure => simp [intOf]; omega
          | false =>
            have HQ := Lib.hid hq
            clear hq
            go_wp2_with (go_at_call 122; refine (iHolds_any p ca cc ta tc ga gc gh M _ PW3.out k2 hlt2 g c HC.out).mono ?_; rintro e w3 ⟨rfl, hb4⟩; rw [HQ.out])
            have hsw := hsW.out
            go_roundw
            case rel => exact ⟨k2 + 1, by omega, by go_num, by rw [groupsM_f HQ.out]; exact own_below hown hb4, hb2.andThen hb4, hb3.trans (hb4.mono (by omega))⟩
            case measure => simp [intOf]; omega
        · have hk9 : k2 = M.groups.length := by omega
          have OWN2 := Lib.hid (show wr.ownsRow W.heap.size 84 1 u5 (memsM M g c).length ((memsM M g c).map (memV M c)) by rw [memsM, List.length_append, ← hk9]; exact hown)
          clear hk9
          go_wp2
          go_ret
          exact ⟨_, rfl, own_mono OWN2.out (by omega), b1.andThen hb2⟩
end Go.Proofs.YtccjanpdgdonmaaGreat
namespace Go.Proofs.YtccjanpdgdonmaaGreat
open Go.RowKit
attribute [local go_sem] Oper.semAt_some
theorem tm_key (x : Value) (w : World) : (method 270 113 x "loop.example/stint/impl.key").run Tryz.prog w = .ok (166, x) w := by kernel_rfl
theorem tm_time (x : Value) (w : World) : (method 270 113 x "loop.example/stint/impl.time").run Tryz.prog w = .ok (167, x) w := by kernel_rfl
theorem tm_weight (x : Value) (w : World) : (method 270 113 x "loop.example/stint/impl.weight").run Tryz.prog w = .ok (168, x) w := by kernel_rfl
theorem gm_key (x : Value) (w : World) : (method 270 119 x "loop.example/stint/impl.key").run Tryz.prog w = .ok (169, x) w := by kernel_rfl
theorem gm_time (x : Value) (w : World) : (method 270 119 x "loop.example/stint/impl.time").run Tryz.prog w = .ok (170, x) w := by kernel_rfl
theorem gm_weight (x : Value) (w : World) : (method 270 119 x "loop.example/stint/impl.weight").run Tryz.prog w = .ok (171, x) w := by kernel_rfl
theorem addr_add (g j : Nat) : (⟨g, 0, none⟩ : Addr).add j = ⟨g, j, none⟩ := by by_cases h : j = 0 <;> simp [Addr.add, h]
theorem own_addr {w : World} {base : Nat} {e : TypeId} {size : Nat} {a : Option Addr} {n cap : Nat} {xs : List Value} (h : w.ownsRow base e size (.slice a n cap) n xs) (hn : 0 < n) : ∃ g0, a = some ⟨g0, 0, none⟩ := by
  rcases h.2 with ⟨_, h0⟩ | ⟨g, cap', cur, h1, _⟩
  · omega
  · injection h1 with h1; exact ⟨g, h1⟩
set_option maxRecDepth 100000 in
set_option maxHeartbeats 2000000 in
theorem iWeights_any (M : WorldM) (c : Nat) (m : Mem) (a : Option Addr) (cap : Nat) (ms : List Mem) (B : Nat) (w : World) (hown : w.ownsRow B 84 1 (.slice a ms.length cap) ms.length (ms.map (memV M c))) (hm : 1 ≤ memW M c m ∧ memW M c m ≤ 20) (hW : ∀ x ∈ ms, 1 ≤ memW M c x ∧ memW M c x ≤ 20) (hlen : ms.length ≤ 20) :
    Calls Tryz.prog 52 #[.agg #[memV M c m, .slice a ms.length cap]] w fun e w' => e = .returned (.int .i64 (memW M c m + sumI (memW M c) ms)) ∧ Below w.heap.size w w' := by
  obtain ⟨g, s⟩ := m
  have q1 := tm_weight
  have q2 := gm_weight
  cases g with
  | false =>
    have HX : memV M c ⟨false, s⟩ = .iface 113 (tmV s (tsk M s)) := rfl
    have HW := Lib.hid (show memW M c ⟨false, s⟩ = wof (tsk M s).nice from rfl)
    rw [HX]
    rw [HW.out] at hm ⊢
    clear HX
    go_enter Tryz.func52, Tryz.ntmps52
    go_upto_region 1 with (fail)
    refine gen1 (p := fun W => Code.wp _ _ _ _ W) ?_
    intro W b1 s1 k1
    have x0 := k1.cell 0
    have x1 := k1.cell 1
    simp at x0 x1
    have hl := k1.lt
    clear k1 s1
    have own1 := own_below hown b1
    go_upto_region 2 with (go_at_call 168; refine (iTmWeight_any _ _ _).mono ?_; rintro e w2 ⟨rfl, hb2⟩)
    have x1 := (hb2.cell (p := ⟨w.heap.size, 1, none⟩) hl).trans x1
    have OWN := Lib.hid (own_below own1 hb2)
    have b3 := Lib.hid (b1.andThen hb2)
    clear own1 b1 hb2 x0 hown hl
    have SL := Lib.hid (own_addr OWN.out)
    go_wp2
    go_loopw [3, 12] (fun n i wr => ∃ j : Nat, j ≤ ms.length ∧ i = .int .i64 j ∧ n = .int .i64 (wof (tsk M s).nice + sumI (memW M c) (ms.take j)) ∧ Below w2.heap.size w2 wr) (fun _ i _ => ms.length - (intOf i).toNat)
    case atStart => exact ⟨0, by omega, rfl, val_eq (by simp [sumI]), Below.refl _ _⟩
    case round =>
      obtain ⟨j, hj, rfl, rfl, hb⟩ := hrel
      have own3 := own_below OWN.out hb
      by_cases hlt : j < ms.length
      · obtain ⟨g0, rfl⟩ := SL.out (by omega)
        have hcl : wr.cell? ⟨g0, j, none⟩ = some (memV M c ms[j]) := by have := own3.cells (g := g0) rfl j (memV M c ms[j]) (by rw [List.getElem?_map, List.getElem?_eq_getElem hlt]; rfl); rwa [addr_add] at this
        obtain ⟨m0, m1⟩ := hW ms[j] (List.getElem_mem hlt)
        obtain ⟨s0, s1⟩ := sumI_bd (A := 0) (B := 20) (f := memW M c) (l := ms.take j) (fun x hx => by have := hW x (List.mem_of_mem_take hx); omega)
        have hl1 : (ms.take j).length ≤ j := by simp; omega
        have hj0 : (0 : Int) ≤ (j : Int) := by omega
        have hj1 : (j : Int) < (ms.length : Int) := by omega
        rcases he : ms[j] with ⟨gr, sl⟩
        cases gr with
        | false =>
          have hmV : memV M c ms[j] = .iface 113 (tmV sl (tsk M sl)) := by rw [he]; rfl
          have hmW := Lib.hid (show memW M c ms[j] = wof (tsk M sl).nice by rw [he]; rfl)
          rw [hmV] at hcl
          rw [hmW.out] at m0 m1
          clear hmV he
          go_wp2_with (go_at_call 168; refine (iTmWeight_any _ _ _).mono ?_; rintro e w4 ⟨rfl, hb4⟩)
          go_roundw
          case rel => exact ⟨j + 1, by omega, by go_num, val_eq (by rw [List.take_succ_eq_append_getElem hlt, sumI_snoc, hmW.out, Int.add_assoc]), hb.andThen hb4⟩
          case measure => simp [intOf]; omega
        | true =>
          have hmV : memV M c ms[j] = .iface 119 (gmV sl (she M sl c)) := by rw [he]; rfl
          have hmW := Lib.hid (show memW M c ms[j] = (she M sl c).w by rw [he]; rfl)
          rw [hmV] at hcl
          rw [hmW.out] at m0 m1
          clear hmV he
          go_wp2_with (go_at_call 171; refine (iGmWeight_any _ _ _).mono ?_; rintro e w4 ⟨rfl, hb4⟩)
          go_roundw
          case rel => exact ⟨j + 1, by omega, by go_num, val_eq (by rw [List.take_succ_eq_append_getElem hlt, sumI_snoc, hmW.out, Int.add_assoc]), hb.andThen hb4⟩
          case measure => simp [intOf]; omega
      · have hje : j = ms.length := by omega
        have HE := Lib.hid (show ms.take j = ms by rw [hje, List.take_length])
        rw [HE.out]
        go_wp2
        go_ret
        exact ⟨rfl, b3.out.andThen hb⟩
  | true =>
    have HX : memV M c ⟨true, s⟩ = .iface 119 (gmV s (she M s c)) := rfl
    have HW := Lib.hid (show memW M c ⟨true, s⟩ = (she M s c).w from rfl)
    rw [HX]
    rw [HW.out] at hm ⊢
    clear HX
    go_enter Tryz.func52, Tryz.ntmps52
    go_upto_region 1 with (fail)
    refine gen1 (p := fun W => Code.wp _ _ _ _ W) ?_
    intro W b1 s1 k1
    have x0 := k1.cell 0
    have x1 := k1.cell 1
    simp at x0 x1
    have hl := k1.lt
    clear k1 s1
    have own1 := own_below hown b1
    go_upto_region 2 with (go_at_call 171; refine (iGmWeight_any _ _ _).mono ?_; rintro e w2 ⟨rfl, hb2⟩)
    have x1 := (hb2.cell (p := ⟨w.heap.size, 1, none⟩) hl).trans x1
    have OWN := Lib.hid (own_below own1 hb2)
    have b3 := Lib.hid (b1.andThen hb2)
    clear own1 b1 hb2 x0 hown hl
    have SL := Lib.hid (own_addr OWN.out)
    go_wp2
    go_loopw [3, 12] (fun n i wr => ∃ j : Nat, j ≤ ms.length ∧ i = .int .i64 j ∧ n = .int .i64 ((she M s c).w + sumI (memW M c) (ms.take j)) ∧ Below w2.heap.size w2 wr) (fun _ i _ => ms.length - (intOf i).toNat)
    case atStart => exact ⟨0, by omega, rfl, val_eq (by simp [sumI]), Below.refl _ _⟩
    case round =>
      obtain ⟨j, hj, rfl, rfl, hb⟩ := hrel
      have own3 := own_below OWN.out hb
      by_cases hlt : j < ms.length
      · obtain ⟨g0, rfl⟩ := SL.out (by omega)
        have hcl : wr.cell? ⟨g0, j, none⟩ = some (memV M c ms[j]) := by have := own3.cells (g := g0) rfl j (memV M c ms[j]) (by rw [List.getElem?_map, List.getElem?_eq_getElem hlt]; rfl); rwa [addr_add] at this
        obtain ⟨m0, m1⟩ := hW ms[j] (List.getElem_mem hlt)
        obtain ⟨s0, s1⟩ := sumI_bd (A := 0) (B := 20) (f := memW M c) (l := ms.take j) (fun x hx => by have := hW x (List.mem_of_mem_take hx); omega)
        have hl1 : (ms.take j).length ≤ j := by simp; omega
        have hj0 : (0 : Int) ≤ (j : Int) := by omega
        have hj1 : (j : Int) < (ms.length : Int) := by omega
        rcases he : ms[j] with ⟨gr, sl⟩
        cases gr with
        | false =>
          have hmV : memV M c ms[j] = .iface 113 (tmV sl (tsk M sl)) := by rw [he]; rfl
          have hmW := Lib.hid (show memW M c ms[j] = wof (tsk M sl).nice by rw [he]; rfl)
          rw [hmV] at hcl
          rw [hmW.out] at m0 m1
          clear hmV he
          go_wp2_with (go_at_call 168; refine (iTmWeight_any _ _ _).mono ?_; rintro e w4 ⟨rfl, hb4⟩)
          go_roundw
          case rel => exact ⟨j + 1, by omega, by go_num, val_eq (by rw [List.take_succ_eq_append_getElem hlt, sumI_snoc, hmW.out, Int.add_assoc]), hb.andThen hb4⟩
          case measure => simp [intOf]; omega
        | true =>
          have hmV : memV M c ms[j] = .iface 119 (gmV sl (she M sl c)) := by rw [he]; rfl
          have hmW := Lib.hid (show memW M c ms[j] = (she M sl c).w by rw [he]; rfl)
          rw [hmV] at hcl
          rw [hmW.out] at m0 m1
          clear hmV he
          go_wp2_with (go_at_call 171; refine (iGmWeight_any _ _ _).mono ?_; rintro e w4 ⟨rfl, hb4⟩)
          go_roundw
          case rel => exact ⟨j + 1, by omega, by go_num, val_eq (by rw [List.take_succ_eq_append_getElem hlt, sumI_snoc, hmW.out, Int.add_assoc]), hb.andThen hb4⟩
          case measure => simp [intOf]; omega
      · have hje : j = ms.length := by omega
        have HE := Lib.hid (show ms.take j = ms by rw [hje, List.take_length])
        rw [HE.out]
        go_wp2
        go_ret
        exact ⟨rfl, b3.out.andThen hb⟩
end Go.Proofs.YtccjanpdgdonmaaGreat
