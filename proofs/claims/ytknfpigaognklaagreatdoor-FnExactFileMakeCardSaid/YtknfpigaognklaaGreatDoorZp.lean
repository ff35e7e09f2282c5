/- Dropping and making groups: plain. Writing a whole group into an owned world. Appending to a row of the call's own; regions that append. The reference makes a world in memory of its own. The reference drops a group. The reference drops a group: the calls. The reference drops a group: GroupDrop. The reference cuts paths, finds groups by path, and drops by path. The reference's FileDrop. -/
import Derived.Test.YtknfpigaognklaaGreatDoorZt
import Derived.Test.YtknfpigaognklaaGreatDoorZo
import Derived.Test.YtknfpigaognklaaGreatDoorZr
import Derived.Deep.AppendLies
namespace Go.Proofs.YtknfpigaognklaaGreatDoor
open Go.RowKit Go.Sort
def half (n : Int) : Bool := decide (n ≤ 50000000000000000)
def roomC (x : CpuM) : Bool := half x.busy && half x.idle
def roomT (x : TaskM) : Bool := half x.v && half x.sum && half x.used
def roomS (x : ShelfM) : Bool := half x.floor && half x.v && half x.sum
def roomG (x : GroupM) : Bool := half x.sum && x.shelves.all roomS
/-- has a world time left -/
def roomM (M : WorldM) : Bool := half M.now && (M.cpus.all roomC && (M.tasks.all roomT && M.groups.all roomG))
def world0 : WorldM := ⟨0, [], [], []⟩
/-- what comes back of a call that returns a world and a code -/
def WPost (M : WorldM) (c : Int) (w : World) (e : Ending) (w' : World) : Prop := ∃ h : WH, e = .returned (.tuple #[.agg #[.int .i64 M.now, .slice h.ca M.cpus.length h.cc, .slice h.ta M.tasks.length h.tc, .slice h.ga M.groups.length h.gc], .int .i64 c]) ∧ Below w.heap.size w w' ∧ Own w' w.heap.size h.ca h.ta h.ga h.gh M
theorem own0 (w : World) (B : Nat) (gh : Nat → GH) : Own w B none none none gh world0 :=
  ⟨RowR.nil, RowR.nil, RowR.nil, fun _ h => absurd h (Nat.not_lt_zero _), fun _ h => absurd h (Nat.not_lt_zero _), fun _ h => absurd h (Nat.not_lt_zero _), fun _ _ _ h => absurd h (Nat.not_lt_zero _), fun _ _ _ h => absurd h (Nat.not_lt_zero _), fun _ _ _ h => absurd h (Nat.not_lt_zero _)⟩
def kidB (M : WorldM) (g : Nat) (h : Nat) : Bool := h != 0 && ((grp M h).used && ((grp M h).parent == (g : Int)))
def memB (M : WorldM) (g : Nat) (t : Nat) : Bool := !((tsk M t).st == 0) && ((tsk M t).gr == (g : Int))
def kidsB (M : WorldM) (g : Nat) : Bool := (List.range M.groups.length).any (kidB M g)
def memsB (M : WorldM) (g : Nat) : Bool := (List.range M.tasks.length).any (memB M g)
def dropC (M : WorldM) (g : Nat) : Int := if g = 0 then 1 else if (kidsB M g || memsB M g) = true then 4 else if roomM M = true then 0 else 10
def setG (M : WorldM) (g : Nat) (y : GroupM) : WorldM := { M with groups := M.groups.set g y }
def dropW (M : WorldM) (g : Nat) : WorldM := if dropC M g = 0 then setG M g group0 else M
/-- may a path be one -/
def pathOk (p : ByteArray) : Bool := inR p.size 1 60 && (p.data.toList.head? == some 47)
def isAt (M : WorldM) (p : ByteArray) (g : Nat) : Bool := (grp M g).used && ((strB (pathB M g)).toList == p.toList)
def findN (M : WorldM) (p : ByteArray) : Nat → Option Nat
  | 0 => none
  | k + 1 => match findN M p k with
    | some g => some g
    | none => if isAt M p k = true then some k else none
theorem findN_some {M : WorldM} {p : ByteArray} : ∀ {k g : Nat}, findN M p k = some g → g < k ∧ isAt M p g = true
  | 0, g, h => by simp [findN] at h
  | k + 1, g, h => by
    rw [findN] at h
    cases e : findN M p k with
    | some g' =>
      rw [e] at h
      cases h
      have := findN_some e
      exact ⟨by omega, this.2⟩
    | none =>
      rw [e] at h
      by_cases hi : isAt M p k = true
      · simp only [hi, if_true, Option.some.injEq] at h
        subst h
        exact ⟨by omega, hi⟩
      · simp [hi] at h
theorem findN_keep {M : WorldM} {p : ByteArray} {k g : Nat} (h : findN M p k = some g) : ∀ n, k ≤ n → findN M p n = some g := by
  intro n hn
  induction n with
  | zero => obtain rfl : k = 0 := by omega
            exact h
  | succ n ih =>
    by_cases e : k = n + 1
    · subst e; exact h
    · rw [findN, ih (by omega)]
theorem findN_here {M : WorldM} {p : ByteArray} {k n : Nat} (h : findN M p k = none) (hi : isAt M p k = true) (hn : k < n) : findN M p n = some k := findN_keep (k := k + 1) (by rw [findN, h]; simp [hi]) n hn
theorem findN_next {M : WorldM} {p : ByteArray} {k : Nat} (h : findN M p k = none) (hi : isAt M p k = false) : findN M p (k + 1) = none := by rw [findN, h]; simp [hi]
def findM (M : WorldM) (p : ByteArray) : Option Nat := findN M p 8
def findI (M : WorldM) (p : ByteArray) : Int := match findM M p with
  | some g => (g : Int)
  | none => -1
def fdropC (M : WorldM) (p : ByteArray) : Int := if worldB M = true then (if pathOk p = true then (match findM M p with | some g => dropC M g | none => 2) else 1) else 1
def fdropW (M : WorldM) (p : ByteArray) : WorldM := if worldB M = true then (if pathOk p = true then (match findM M p with | some g => dropW M g | none => M) else M) else world0
/-- a whole group is written -/
theorem Own.setGroup {w w' : World} {B : Nat} {ca ta ga : Option Addr} {gh : Nat → GH} {M : WorldM} (h : Own w B ca ta ga gh M) {k : Nat} {x : GH} {y : GroupM} (hkeep : Keep (fun g => ga = some ⟨g, 0, none⟩) w w')
    (hrow : RowR w' B ga 55 14 M.groups.length fun j => if j = k then groupF y x else groupF (grp M j) (gh j))
    (hl : IntR w' B x.la y.band.locals) (hd : BoolR w' B x.da y.band.dry) (hs : ShelfR w' B x.sa y.shelves)
    (hnl : ∀ j a, j < M.groups.length → j ≠ k → x.la = some a → (gh j).la ≠ some a) (hnd : ∀ j a, j < M.groups.length → j ≠ k → x.da = some a → (gh j).da ≠ some a) (hns : ∀ j a, j < M.groups.length → j ≠ k → x.sa = some a → (gh j).sa ≠ some a) : Own w' B ca ta ga (hset gh k x) (setG M k y) := by
  have hlen : (setG M k y).groups.length = M.groups.length := by simp [setG]
  have hgrp : ∀ j, j < M.groups.length → grp (setG M k y) j = if j = k then y else grp M j := fun j hj => by
    by_cases e : j = k
    · subst e; simp [grp, setG, hj]
    · rw [if_neg e]
      simp [grp, setG, Ne.symm e]
  have sep : ∀ (p : GH → Option Addr) (_ : Sep (fun j => p (gh j)) M.groups.length) (_ : ∀ j a, j < M.groups.length → j ≠ k → p x = some a → p (gh j) ≠ some a), Sep (fun j => p (hset gh k x j)) (setG M k y).groups.length := fun p hs hn i j a hi hj hne ha hb => by
    rw [hlen] at hi hj
    by_cases ei : i = k
    · subst ei
      have ej : j ≠ i := Ne.symm hne
      simp only [hset_same] at ha
      simp only [hset_other _ _ ej] at hb
      exact hn j a hj ej ha hb
    · simp only [hset_other _ _ ei] at ha
      by_cases ej : j = k
      · subst ej
        simp only [hset_same] at hb
        exact hn i a hi ei hb ha
      · simp only [hset_other _ _ ej] at hb
        exact hs i j a hi hj hne ha hb
  refine ⟨h.cpu.keep hkeep fun _ ha c => RowR.ne h.cpu h.grps (by decide) ha c rfl, h.task.keep hkeep fun _ ha c => RowR.ne h.task h.grps (by decide) ha c rfl, ?_, fun j hj => ?_, fun j hj => ?_, fun j hj => ?_, sep GH.la h.sepL hnl, sep GH.da h.sepD hnd, sep GH.sa h.sepS hns⟩
  · show RowR w' B ga 55 14 (setG M k y).groups.length _
    rw [hlen]
    refine hrow.congr fun j i hj _ => ?_
    have e := hgrp j hj
    unfold grp at e
    rw [e]
    by_cases ej : j = k
    · subst ej; rw [if_pos rfl, if_pos rfl, hset_same]
    · rw [if_neg ej, if_neg ej, hset_other _ _ ej]; rfl
  all_goals
    rw [hlen] at hj
    rw [hgrp j hj]
    by_cases ej : j = k
  · subst ej; rw [if_pos rfl, hset_same]; exact hl
  · rw [if_neg ej, hset_other _ _ ej]; exact (h.loc j hj).keep hkeep fun _ ha c => RowR.ne (h.loc j hj) h.grps (by decide) ha c rfl
  · subst ej; rw [if_pos rfl, hset_same]; exact hd
  · rw [if_neg ej, hset_other _ _ ej]; exact (h.dry j hj).keep hkeep fun _ ha c => RowR.ne (h.dry j hj) h.grps (by decide) ha c rfl
  · subst ej; rw [if_pos rfl, hset_same]; exact hs
  · rw [if_neg ej, hset_other _ _ ej]; exact (h.she j hj).keep hkeep fun _ ha c => RowR.ne (h.she j hj) h.grps (by decide) ha c rfl
end Go.Proofs.YtknfpigaognklaaGreatDoor
namespace Go.Proofs.YtknfpigaognklaaGreatDoor
open Go.RowKit Go.Sort
/-- the cells of a row -/
def rowL (f : Nat → Nat → Value) (n : Nat) : Nat → List Value
  | 0 => []
  | k + 1 => rowL f n k ++ (List.range n).map (f k)
theorem rowL_length (f : Nat → Nat → Value) (n : Nat) : ∀ k, (rowL f n k).length = k * n
  | 0 => by simp [rowL]
  | k + 1 => by simp [rowL, rowL_length f n k, Nat.succ_mul]
theorem rowL_get {f : Nat → Nat → Value} {n j i : Nat} (hi : i < n) : ∀ k, j < k → (rowL f n k)[j * n + i]? = some (f j i)
  | 0, h => by omega
  | k + 1, h => by
    by_cases e : j = k
    · subst e
      rw [rowL, List.getElem?_append_right (by rw [rowL_length]; omega), rowL_length]
      simp [hi]
    · have hj : j < k := by omega
      have hlt : j * n + i < k * n := by
        have := Nat.mul_le_mul_right n (show j + 1 ≤ k by omega)
        rw [Nat.succ_mul] at this
        omega
      rw [rowL, List.getElem?_append_left (by rw [rowL_length]; exact hlt)]
      exact rowL_get hi k hj
theorem row_of_own {w : World} {B : Nat} {T : TypeId} {n len : Nat} {v : Value} {f : Nat → Nat → Value} (h : w.ownsRow B T n v len (rowL f n len)) : ∃ A cap, v = .slice A len cap ∧ RowR w B A T n len f := by
  rcases h.2 with ⟨rfl, rfl⟩ | ⟨g, cap, cur, rfl, hb, hg, hn, hcm, hcs, ht⟩
  · exact ⟨none, 0, rfl, RowR.nil⟩
  · refine ⟨_, cap, rfl, RowR.mk_ hb hg fun k i hk hi => ?_⟩
    have h1 := rowL_get (f := f) hi len hk
    rw [← ht, List.getElem?_take] at h1
    split at h1
    · simpa using h1
    · cases h1
/-- what a slice type is -/
def SlT (t e : TypeId) (size bytes : Nat) : Prop := ∃ i z, Tryz.prog.underlying t = some (.slice e) ∧ Tryz.prog.info? e = some i ∧ i.zero = some z ∧ i.size = size ∧ i.bytes = bytes ∧ z.cells.size = size
theorem slT_of {t e : TypeId} {z : Value} {size bytes : Nat} (ht : Tryz.prog.underlying t = some (.slice e)) (hi : (Tryz.prog.info? e).map (fun i => (i.zero, i.size, i.bytes)) = some (some z, size, bytes)) (hz : z.cells.size = size) : SlT t e size bytes := by
  obtain ⟨i0, hi, hz0, hz1, hz2⟩ := info_parts hi
  exact ⟨i0, z, ht, hi, hz0, hz1, hz2, hz⟩
theorem Keep.of_grown {w w' : World} {v : Value} (h : w.grownBy w' v.ownBlock) : Keep (fun j => v.ownBlock = some j) w w' := ⟨h.os, h.tape, h.output, h.size, fun k hk hn => h.block k hk (fun e => hn e.symm)⟩
/-- one thing is appended, behind a draw and the thing's own block -/
theorem app_one {t e T' ty : TypeId} {size bytes : Nat} (hT : SlT t e size bytes) (hsz : 0 < size) (hby : bytes ≤ 1024) {W : World} {B k : Nat} {v : Value} {xs : List Value} (hown : W.ownsRow B e size v k xs) (hB : B ≤ W.heap.size) (hk : k ≤ 1048576)
    (es : List Value) (hes : es.length = size) (h1 : ∀ u ∈ es, u.oneCell' = true) {W1 : World} (hbl : Below W.heap.size W W1) (hsz1 : W1.heap.size = W.heap.size + 1) (hblk : Blk W1 W.heap.size T' es.toArray) :
    ∃ g cap w5, (Builtin.append_ #[t, t] ty #[v, .slice (some ⟨W.heap.size, 0, none⟩) 1 1]).run Tryz.prog W1 = .ok (.slice (some ⟨g, 0, none⟩) (k + 1 : Nat) cap) w5 ∧ w5.ownsRow B e size (.slice (some ⟨g, 0, none⟩) (k + 1 : Nat) cap) (k + 1) (xs ++ es) ∧ Keep (fun j => v.ownBlock = some j) W w5 ∧ (v.ownBlock = some g ∨ W.heap.size < g) ∧ g < w5.heap.size ∧ B ≤ g := by
  obtain ⟨i, z, ht, hi, hz, hs, hb, hzs⟩ := hT
  have own1 : W1.ownsRow B e size v k xs := by
    refine ⟨hown.1, ?_⟩
    rcases hown.2 with h | ⟨g, cap, cur, rfl, h1, h2, h3⟩
    · exact .inl h
    · exact .inr ⟨g, cap, cur, rfl, h1, (hbl.block g (Blk.lt h2)).trans h2, h3⟩
  have hkb : (k + 1) * bytes ≤ 140737488355328 := by
    have := Nat.mul_le_mul (show k + 1 ≤ 1048577 by omega) hby
    omega
  obtain ⟨g, cap, w5, hr, h2, h3, h4, h5⟩ := run_append_lies (P := Tryz.prog) W1 t ty B e i z size bytes ht hi hz hs hb hzs hsz v k xs own1 ⟨W.heap.size, 0, none⟩ 1 1 es (by rw [hes, Nat.one_mul])
    (fun j u hu => by
      rw [addr_mid, Nat.zero_add]
      rw [hblk.cell j]
      simpa using hu) h1 (by omega) (by unfold maxLen; omega) hkb (by omega) (W.heap.size + 1) hsz1
  refine ⟨g, cap, w5, hr, h2, ?_, ?_, h5, ?_⟩
  · exact (Keep.of_below hbl).then_ (Keep.of_grown h3) fun _ _ h => h
  · rcases h4 with h4 | h4
    · exact .inl h4
    · exact .inr (by omega)
  · rcases h2.2 with ⟨h, _⟩ | ⟨g', cap', cur', he, hbg, _⟩
    · cases h
    · cases he; exact hbg
/-- in a region that draws -/
theorem app_drew {t e T' ty : TypeId} {size bytes : Nat} (hT : SlT t e size bytes) (hsz : 0 < size) (hby : bytes ≤ 1024) {W : World} {B k : Nat} {v : Value} {xs : List Value} (hown : W.ownsRow B e size v k xs) (hB : B ≤ W.heap.size) (hk : k ≤ 1048576)
    (es : List Value) (hes : es.length = size) (h1 : ∀ u ∈ es, u.oneCell' = true) :
    ∃ g cap w5, (Builtin.append_ #[t, t] ty #[v, .slice (some ⟨W.heap.size, 0, none⟩) 1 1]).run Tryz.prog (W.drew.alloc (.cells es.toArray T')) = .ok (.slice (some ⟨g, 0, none⟩) (k + 1 : Nat) cap) w5 ∧ w5.ownsRow B e size (.slice (some ⟨g, 0, none⟩) (k + 1 : Nat) cap) (k + 1) (xs ++ es) ∧ Keep (fun j => v.ownBlock = some j) W w5 ∧ (v.ownBlock = some g ∨ W.heap.size < g) ∧ g < w5.heap.size ∧ B ≤ g :=
  app_one hT hsz hby hown hB hk es hes h1 ((Below.refl _ _).drew.alloc (Nat.le_refl _) _) (by simp) (Blk.new W.drew T' es.toArray)
theorem wp_append_run {o : Oper} {a : Act} {w w5 : World} {K : Act → World → Prop} {Q : Exit → Act → World → Prop} {s x : Operand} {t : TypeId} {v u v5 : Value} (ho : o.op = .call { callee := .builtin .append, args := #[s, x], argTypes := #[t, t] })
    (hs : a.eval s = v) (hx : a.eval x = u) (hr : (Builtin.append_ #[t, t] o.type #[v, u]).run Tryz.prog w = .ok v5 w5) (h : K (a.put o.dst v5) w5) : o.wp Tryz.prog a w K Q := by
  unfold Oper.wp execOp
  simp only [ho, resolve, invoke, builtin, Sem.run_bind, Sem.run_pure, Result.andThen_ok, List.map_toArray, List.map_cons, List.map_nil, hs, hx, hr]
  exact h
theorem wpList_append_run {ops : Array Oper} {rest : List Oper} {o : Oper} {a : Act} {w w5 : World} {Q : Exit → Act → World → Prop} (hgd : o.guard = none) {s x : Operand} {t : TypeId} {v u v5 : Value} (ho : o.op = .call { callee := .builtin .append, args := #[s, x], argTypes := #[t, t] })
    (hs : a.eval s = v) (hx : a.eval x = u) (hr : (Builtin.append_ #[t, t] o.type #[v, u]).run Tryz.prog w = .ok v5 w5) (h : wpList Tryz.prog ops Q rest (a.put o.dst v5) w5) : wpList Tryz.prog ops Q (o :: rest) a w :=
  wpList_plain hgd fun _ hK => wp_append_run ho hs hx hr (hK _ _ h)
theorem rowL_congr {f g : Nat → Nat → Value} {n : Nat} : ∀ {k : Nat}, (∀ j i, j < k → f j i = g j i) → rowL f n k = rowL g n k
  | 0, _ => rfl
  | k + 1, h => by
    rw [rowL, rowL, rowL_congr fun j i hj => h j i (by omega)]
    congr 1
    exact List.map_congr_left fun i _ => h k i (by omega)
theorem twoC_below {f : Bool → World} {w' : World} (b : Bool) (h : Below (f b).heap.size (f b) w') : twoC f w' := by
  obtain ⟨p, hp⟩ := regrown_of_below h
  exact ⟨⟨b, p.d, p.os⟩, hp⟩
/-- at a plain place, for any class of worlds -/
theorem region_SC {P : Program} {id : Nat} {Q : Exit → Act → World → Prop} {a : Act} {w : World} {L0 : List Oper} (C : World → Prop) (hC : C w.drew) (n : Nat) (fs ord : List Nat) (hm : P.follows .mixedOrders = true) (hs : Region.noSelect L0.toArray = true) (hw : waitB .any L0.toArray n = true)
    (hn : ord.length = L0.length) (hL : ord.map (fun i => L0.toArray[i]?) = (permL L0 ord).map some) (hB : ordS .any L0.toArray n fs ord (Array.replicate L0.length false) = true)
    (h : Rgs P L0.toArray C (fun a' w' => Q .normal a' w') fs (permL L0 ord) a w.drew) : (Code.region id L0.toArray true).wp P Q a w := by
  refine Code.wp_mono (Q := fun e a w => e = .normal ∧ Q .normal a w) (fun e a w hh => by obtain ⟨rfl, hh⟩ := hh; exact hh) ?_
  refine wp_region_any hm ?_
  have := anyB_of_wpS (md := .any) hs (waitB_spec hw) fs ord (permL L0 ord) (Array.replicate L0.length false) a w.drew hL hB (.inl hC) h.out
  rw [hn] at this
  simpa using any_of_B _ _ _ _ this
theorem Keep.cell {S : Nat → Prop} {w w' : World} (h : Keep S w w') {b o : Nat} {v : Value} (hc : w.cell? ⟨b, o, none⟩ = some v) (hb : b < w.heap.size) (hS : ¬ S b) : w'.cell? ⟨b, o, none⟩ = some v := (World.cell?_of_block (w := w) (h.block b hb hS)).trans hc
theorem own_keep {S : Nat → Prop} {w w' : World} {B : Nat} {T : TypeId} {n k : Nat} {v : Value} {xs : List Value} (h : w.ownsRow B T n v k xs) (hk : Keep S w w') (hS : ∀ j, v.ownBlock = some j → ¬ S j) : w'.ownsRow B T n v k xs := by
  refine ⟨h.1, ?_⟩
  rcases h.2 with h | ⟨g, cap, cur, rfl, h1, h2, h3⟩
  · exact .inl h
  · exact .inr ⟨g, cap, cur, rfl, h1, hk.blk h2 (hS g rfl), h3⟩
theorem own_below {w w' : World} {B : Nat} {T : TypeId} {n k : Nat} {v : Value} {xs : List Value} (h : w.ownsRow B T n v k xs) (hb : Below w.heap.size w w') : w'.ownsRow B T n v k xs := own_keep h (Keep.of_below (S := fun _ => False) hb) fun _ _ h => h
theorem own_ne {w : World} {B B' : Nat} {T T' : TypeId} {n n' k k' : Nat} {v v' : Value} {xs xs' : List Value} (h : w.ownsRow B T n v k xs) (h' : w.ownsRow B' T' n' v' k' xs') (hT : T ≠ T') : ∀ j, v.ownBlock = some j → ¬ v'.ownBlock = some j := by
  intro j hj hj'
  rcases h.2 with ⟨rfl, _⟩ | ⟨g, cap, cur, rfl, h1, h2, h3⟩
  · cases hj
  rcases h'.2 with ⟨rfl, _⟩ | ⟨g', cap', cur', rfl, h1', h2', h3'⟩
  · cases hj'
  have e1 : g = j := by simpa [Value.ownBlock] using hj
  have e2 : g' = j := by simpa [Value.ownBlock] using hj'
  subst e1
  subst e2
  rw [h2] at h2'
  simp only [Option.some.injEq, Obj.cells.injEq] at h2'
  exact hT h2'.2.1
theorem own_far {w : World} {B : Nat} {T : TypeId} {n k : Nat} {v : Value} {xs : List Value} (h : w.ownsRow B T n v k xs) {g : Nat} (hg : g < B) : ¬ v.ownBlock = some g := fun e => by have := (h.lt _ e).1; omega
theorem own_set {w : World} {B : Nat} {T : TypeId} {n k : Nat} {v : Value} {xs : List Value} (h : w.ownsRow B T n v k xs) {g i : Nat} (hg : g < B) (u : Value) : (w.setCell ⟨g, i, none⟩ u).ownsRow B T n v k xs :=
  own_keep h (Keep.set (S := fun j => j = g) w _ _ rfl) fun _ hj e => own_far h hg (e ▸ hj)
/-- one of two worlds -/
theorem both {F : Bool → World} {a b : World} (ht : F true = a) (hf : F false = b) {p : World → Prop} (h1 : p a) (h2 : p b) : ∀ x, p (F x) := fun x => match x with | true => by rw [ht]; exact h1 | false => by rw [hf]; exact h2
end Go.Proofs.YtknfpigaognklaaGreatDoor
namespace Go.Proofs.YtknfpigaognklaaGreatDoor
open Go.RowKit Go.Sort
theorem slInt : SlT 46 3 1 8 := slT_of Tryz.underlying46 infoIntS rfl
theorem slBool : SlT 50 4 1 1 := slT_of Tryz.underlying50 infoBoolS rfl
theorem slCpu : SlT 29 48 5 40 := slT_of Tryz.underlying29 infoCpu rfl
theorem slTask : SlT 30 58 9 72 := slT_of Tryz.underlying30 infoTask rfl
theorem slShelf : SlT 53 103 5 40 := slT_of Tryz.underlying53 infoShelf rfl
theorem slGroup : SlT 31 55 14 168 := slT_of Tryz.underlying31 infoGroup rfl
def L5Post (x : BandM) (w : World) (e : Ending) (w' : World) : Prop := ∃ (la : Option Addr) (lc : Nat) (da : Option Addr) (dc : Nat), e = .returned (.agg #[.int .i64 x.quota, .int .i64 x.pool, .int .i64 x.spent, .slice la x.locals.length lc, .slice da x.dry.length dc]) ∧ Below w.heap.size w w' ∧ IntR w' w.heap.size la x.locals ∧ BoolR w' w.heap.size da x.dry
def fI (l : List Int) : Nat → Nat → Value := fun k _ => .int .i64 (l.getD k 0)
def fB (l : List Bool) : Nat → Nat → Value := fun k _ => .bool (l.getD k false)
/-- what holds in the loop -/
structure L5I (x : BandM) (h : GH) (w wr : World) (k k2 : Nat) (vl vd : Value) : Prop where
  b0 : Blk wr w.heap.size 52 #[.int .i64 x.quota, .int .i64 x.pool, .int .i64 x.spent, .slice h.la x.locals.length h.lc, .slice h.da x.dry.length h.dc]
  b1 : Blk wr (w.heap.size + 1) 52 #[.int .i64 0, .int .i64 0, .int .i64 0, .slice none 0 0, .slice none 0 0]
  b2 : Blk wr (w.heap.size + 1 + 1) 52 #[.int .i64 x.quota, .int .i64 x.pool, .int .i64 x.spent, vl, vd]
  rl : wr.ownsRow (w.heap.size + 3) 3 1 vl k (rowL (fI x.locals) 1 k)
  rd : wr.ownsRow (w.heap.size + 3) 4 1 vd k2 (rowL (fB x.dry) 1 k2)
  bel : Below w.heap.size w wr
theorem L5I.locals {x : BandM} {h : GH} {w wr w5 : World} {k k2 : Nat} {vl vd u : Value} (I : L5I x h w wr k k2 vl vd) (hk : Keep (fun j => vl.ownBlock = some j) wr w5) (ho : w5.ownsRow (w.heap.size + 3) 3 1 u (k + 1) (rowL (fI x.locals) 1 (k + 1))) :
    L5I x h w (w5.setCell ⟨w.heap.size + 1 + 1, 3, none⟩ u) (k + 1) k2 u vd :=
  ⟨(hk.blk I.b0 (own_far I.rl (by omega))).far (by simp; omega) _, (hk.blk I.b1 (own_far I.rl (by omega))).far (by simp) _, (hk.blk I.b2 (own_far I.rl (by omega))).set_ 3 u, own_set ho (by omega) _, own_set (own_keep I.rd hk (own_ne I.rd I.rl (by decide))) (by omega) _,
   (I.bel.trans ((hk.below (B := w.heap.size) I.bel.size fun j hj => by have := (I.rl.lt _ hj).1; omega))).setCell (by simp; omega) _⟩
theorem L5I.dry {x : BandM} {h : GH} {w wr w5 : World} {k k2 : Nat} {vl vd u : Value} (I : L5I x h w wr k k2 vl vd) (hk : Keep (fun j => vd.ownBlock = some j) wr w5) (ho : w5.ownsRow (w.heap.size + 3) 4 1 u (k2 + 1) (rowL (fB x.dry) 1 (k2 + 1))) :
    L5I x h w (w5.setCell ⟨w.heap.size + 1 + 1, 4, none⟩ u) k (k2 + 1) vl u :=
  ⟨(hk.blk I.b0 (own_far I.rd (by omega))).far (by simp; omega) _, (hk.blk I.b1 (own_far I.rd (by omega))).far (by simp) _, (hk.blk I.b2 (own_far I.rd (by omega))).set_ 4 u, own_set (own_keep I.rl hk (own_ne I.rl I.rd (by decide))) (by omega) _, own_set ho (by omega) _,
   (I.bel.trans ((hk.below (B := w.heap.size) I.bel.size fun j hj => by have := (I.rd.lt _ hj).1; omega))).setCell (by simp; omega) _⟩
set_option maxRecDepth 100000 in
set_option maxHeartbeats 2000000 in
theorem sL5Own_any (x : BandM) (h : GH) (w : World) (hn : x.dry.length = x.locals.length) (hl4 : x.locals.length ≤ 1048576) (hl : IntS w h.la x.locals) (hd : BoolS w h.da x.dry) :
    Calls Tryz.prog 91 #[.agg #[.int .i64 x.quota, .int .i64 x.pool, .int .i64 x.spent, .slice h.la x.locals.length h.lc, .slice h.da x.dry.length h.dc]] w (L5Post x w) := by
  have HN := Lib.hid hn
  clear hn
  go_enter Tryz.func91, Tryz.ntmps91
  go_upto_region 2 with (fail)
  refine gen3 (p := fun W => Code.wp _ _ _ _ W) ?_
  intro W b1 s1 k0 k1 k2
  have I0 := Lib.hid (show L5I x h w W 0 0 (.slice none 0 0) (.slice none 0 0) from ⟨k0, k1, k2, World.ownsRow_nil _ _ _ _, World.ownsRow_nil _ _ _ _, b1⟩)
  clear b1 s1 k0 k1 k2
  go_wp2
  go_loopw [4] (fun i wr => ∃ (k : Nat) (vl vd : Value), k ≤ x.locals.length ∧ i = .int .i64 k ∧ L5I x h w wr k k vl vd) (fun i _ => x.locals.length - (intOf i).toNat)
  case atStart => exact ⟨0, _, _, Nat.zero_le _, rfl, I0.out⟩
  case round =>
    obtain ⟨k, vl, vd, hk, rfl, hI⟩ := hrel
    have II := Lib.hid hI
    have e3 := hI.b0.cell 3
    have f0 := fun i => hI.b0.frozen i
    simp at e3
    by_cases hlt : k < x.locals.length
    · have hlt2 : k < x.dry.length := by rw [HN.out]; exact hlt
      obtain ⟨b, o, hla, hb, y0⟩ := hl.at_ k hlt
      obtain ⟨b', o', hda, hb', y1⟩ := hd.at_ k hlt2
      have c0 := (hI.bel.cell (p := ⟨b, o + k, none⟩) hb).trans y0
      have c1 := (hI.bel.cell (p := ⟨b', o' + k, none⟩) hb').trans y1
      have Y1 := Lib.hid (show w.cell? ⟨b', o' + k, none⟩ = some (.bool (x.dry.getD k false)) by rw [y1]; simp [hlt2])
      clear y0 y1
      have e4 := hI.b0.cell 4
      have d3 := hI.b2.cell 3
      have hsz := hI.b2.lt
      simp at e4 d3
      rw [hla] at e3
      rw [hda] at e4
      rw [show x.locals[k] = x.locals.getD k 0 by simp [hlt]] at c0
      rw [show x.dry[k] = x.dry.getD k false by simp [hlt2]] at c1
      have i0 : (0 : Int) ≤ (k : Int) := by omega
      have i1 : (k : Int) < (x.locals.length : Int) := by omega
      have i2 : (k : Int) < (x.dry.length : Int) := by omega
      have HLT := Lib.hid hlt
      clear hl hd hI hlt hlt2
      go_wp2_with fail
      go_upto_region 5 with (fail)
      obtain ⟨g5, cap5, w5, hrun, hown5, hkeep5, hg5, hlt5, hB5⟩ := app_drew slInt (by omega) (by omega) (ty := 46) (T' := 3) II.out.rl (by omega) (by omega) [.int .i64 (x.locals.getD k 0)] rfl (by simp [Value.oneCell'])
      obtain ⟨F, hFt, hFf⟩ : ∃ F : Bool → World, F true = wr ∧ F false = w5 := ⟨fun b => if b then wr else w5, rfl, rfl⟩
      have qq0 := fun b d os => cell_regrown (both hFt hFf (p := fun W => W.cell? _ = some _) c0 (hkeep5.cell c0 (by have := II.out.bel.size; omega) (fun e => by have := (II.out.rl.lt _ e).1; omega)) b) d os
      have qq1 := fun b d os => cell_regrown (both hFt hFf (p := fun W => W.cell? _ = some _) e3 (hkeep5.cell e3 (by omega) (fun e => by have := (II.out.rl.lt _ e).1; omega)) b) d os
      have qq2 := fun b d os => cell_regrown (both hFt hFf (p := fun W => W.cell? _ = some _) d3 (hkeep5.cell d3 (by omega) (fun e => by have := (II.out.rl.lt _ e).1; omega)) b) d os
      have HFt := Lib.hid hFt
      have HFf := Lib.hid hFf
      have HRUN := Lib.hid hrun
      clear hFt hFf hrun
      refine region_SC (twoC F) (twoC_drew true HFt.out) 10 [0, 0, 0, 0, 0, 0, 0, 1, 1, 0, 2] [0, 1, 2, 3, 4, 5, 6, 7, 8, 9, 10] (by kernel_rfl) (by kernel_rfl) (by kernel_rfl) rfl (by kernel_rfl) (by kernel_rfl) ?_
      simp only [permL, List.getElem?_cons_zero, List.getElem?_cons_succ, Option.toList_some, List.cons_append, List.nil_append]
      unfold twoC
      repeat (first | (refine wpS_skip (by rfl) ?_; simp only [Act.put, List.setIfInBounds_toArray, List.set_cons_zero, List.set_cons_succ]) | (refine wpS_det (by rfl) (fun K hK => ?_); go_big_quiet_op; refine hK _ ?_; clear hK K))
      refine wpS_bar (by rfl) (fun K hK => ?_)
      go_big_op
      refine hK _ _ (twoC_below true (by rw [HFt.out]; exact (Below.refl _ _).drew.alloc (Nat.le_refl _) _)) ?_
      clear hK K
      refine wpS_bar (by rfl) (fun K hK => ?_)
      refine wp_append_run rfl rfl rfl HRUN.out ?_
      refine hK _ _ (twoC_below false (by rw [HFf.out]; exact Below.refl _ _)) ?_
      clear hK K
      simp only [Act.put, List.setIfInBounds_toArray, List.set_cons_zero, List.set_cons_succ]
      repeat (first | (refine wpS_skip (by rfl) ?_; simp only [Act.put, List.setIfInBounds_toArray, List.set_cons_zero, List.set_cons_succ]) | (refine wpS_det (by rfl) (fun K hK => ?_); go_big_quiet_op; refine hK _ ?_; clear hK K))
      clear qq0 qq1 qq2
      have f3 := fun i => (hkeep5.blk II.out.b2 (own_far II.out.rl (by omega))).frozen i
      have z3 := (hkeep5.blk II.out.b2 (own_far II.out.rl (by omega))).cell 3
      simp at z3
      refine wpS_end (by rfl) (fun K hK => ?_)
      go_big_op
      refine hK _ _ ?_
      clear hK K
      refine wpS_nil ?_
      have I2 := Lib.hid (II.out.locals hkeep5 (u := .slice (some ⟨g5, 0, none⟩) (k + 1 : Nat) cap5) hown5)
      have HK := Lib.hid hk
      generalize w5.setCell ⟨w.heap.size + 1 + 1, 3, none⟩ (.slice (some ⟨g5, 0, none⟩) (k + 1 : Nat) cap5) = w6 at *
      clear HFt HFf HRUN hkeep5 hown5 hg5 hlt5 hB5 z3 f3 c0 e3 d3 c1 f0 hsz e4 hk
      generalize (.slice (some ⟨g5, 0, none⟩) (k + 1 : Nat) cap5 : Value) = ul at *
      have e4 := I2.out.b0.cell 4
      have d4 := I2.out.b2.cell 4
      have f0 := fun i => I2.out.b0.frozen i
      have hsz := I2.out.b2.lt
      have c1 := (I2.out.bel.cell (p := ⟨b', o' + k, none⟩) hb').trans Y1.out
      simp at e4 d4
      rw [hda] at e4
      go_upto_region 6 with (fail)
      obtain ⟨g5, cap5, w5, hrun, hown5, hkeep5, hg5, hlt5, hB5⟩ := app_drew slBool (by omega) (by omega) (ty := 50) (T' := 4) I2.out.rd (by omega) (by omega) [.bool (x.dry.getD k false)] rfl (by simp [Value.oneCell'])
      obtain ⟨F, hFt, hFf⟩ : ∃ F : Bool → World, F true = w6 ∧ F false = w5 := ⟨fun b => if b then w6 else w5, rfl, rfl⟩
      have qq0 := fun b d os => cell_regrown (both hFt hFf (p := fun W => W.cell? _ = some _) c1 (hkeep5.cell c1 (by have := I2.out.bel.size; omega) (fun e => by have := (I2.out.rd.lt _ e).1; omega)) b) d os
      have qq1 := fun b d os => cell_regrown (both hFt hFf (p := fun W => W.cell? _ = some _) e4 (hkeep5.cell e4 (by omega) (fun e => by have := (I2.out.rd.lt _ e).1; omega)) b) d os
      have qq2 := fun b d os => cell_regrown (both hFt hFf (p := fun W => W.cell? _ = some _) d4 (hkeep5.cell d4 (by omega) (fun e => by have := (I2.out.rd.lt _ e).1; omega)) b) d os
      have HFt := Lib.hid hFt
      have HFf := Lib.hid hFf
      have HRUN := Lib.hid hrun
      clear hFt hFf hrun
      refine region_SC (twoC F) (twoC_drew true HFt.out) 10 [0, 0, 0, 0, 0, 0, 0, 1, 1, 0, 2] [0, 1, 2, 3, 4, 5, 6, 7, 8, 9, 10] (by kernel_rfl) (by kernel_rfl) (by kernel_rfl) rfl (by kernel_rfl) (by kernel_rfl) ?_
      simp only [permL, List.getElem?_cons_zero, List.getElem?_cons_succ, Option.toList_some, List.cons_append, List.nil_append]
      unfold twoC
      repeat (first | (refine wpS_skip (by rfl) ?_; simp only [Act.put, List.setIfInBounds_toArray, List.set_cons_zero, List.set_cons_succ]) | (refine wpS_det (by rfl) (fun K hK => ?_); go_big_quiet_op; refine hK _ ?_; clear hK K))
      refine wpS_bar (by rfl) (fun K hK => ?_)
      go_big_op
      refine hK _ _ (twoC_below true (by rw [HFt.out]; exact (Below.refl _ _).drew.alloc (Nat.le_refl _) _)) ?_
      clear hK K
      refine wpS_bar (by rfl) (fun K hK => ?_)
      refine wp_append_run rfl rfl rfl HRUN.out ?_
      refine hK _ _ (twoC_below false (by rw [HFf.out]; exact Below.refl _ _)) ?_
      clear hK K
      simp only [Act.put, List.setIfInBounds_toArray, List.set_cons_zero, List.set_cons_succ]
      repeat (first | (refine wpS_skip (by rfl) ?_; simp only [Act.put, List.setIfInBounds_toArray, List.set_cons_zero, List.set_cons_succ]) | (refine wpS_det (by rfl) (fun K hK => ?_); go_big_quiet_op; refine hK _ ?_; clear hK K))
      clear qq0 qq1 qq2
      have f3 := fun i => (hkeep5.blk I2.out.b2 (own_far I2.out.rd (by omega))).frozen i
      have z3 := (hkeep5.blk I2.out.b2 (own_far I2.out.rd (by omega))).cell 4
      simp at z3
      refine wpS_end (by rfl) (fun K hK => ?_)
      go_big_op
      refine hK _ _ ?_
      clear hK K
      refine wpS_nil ?_
      have I3 := Lib.hid (I2.out.dry hkeep5 (u := .slice (some ⟨g5, 0, none⟩) (k + 1 : Nat) cap5) hown5)
      clear HFt HFf HRUN hkeep5 hown5 hg5 hlt5 hB5 z3 f3 c1 f0 hsz e4 d4
      go_wp2
      go_roundw
      case rel => exact ⟨k + 1, _, _, HLT.out, by go_num, I3.out⟩
      case measure => have := HLT.out; simp [intOf]; omega
    · obtain rfl : k = x.locals.length := by omega
      obtain ⟨la, lc, rfl, hL⟩ := row_of_own hI.rl
      have hrd := hI.rd
      rw [← HN.out] at hrd
      obtain ⟨da, dc, rfl, hD⟩ := row_of_own hrd
      clear hrd
      have g0 := hI.b2.cell 0
      have g1 := hI.b2.cell 1
      have g2 := hI.b2.cell 2
      have g3 := hI.b2.cell 3
      have g4 := hI.b2.cell 4
      have y0 := hI.b1.cell 0
      have y1 := hI.b1.cell 1
      have y2 := hI.b1.cell 2
      have y3 := hI.b1.cell 3
      have y4 := hI.b1.cell 4
      have f1 := fun i => hI.b1.frozen i
      simp at g0 g1 g2 g3 g4 y0 y1 y2 y3 y4
      have HL := Lib.hid hL
      have HD := Lib.hid hD
      have hB0 := hI.bel
      clear hL hD hI
      have HBEL := Lib.hid hB0
      clear hB0
      go_wp2
      have kk := Lib.hid (show Keep (fun i => w.heap.size ≤ i ∧ i < w.heap.size + 3) wr (((((wr.setCell ⟨w.heap.size + 1, 0, none⟩ (.int .i64 x.quota)).setCell ⟨w.heap.size + 1, 1, none⟩ (.int .i64 x.pool)).setCell ⟨w.heap.size + 1, 2, none⟩ (.int .i64 x.spent)).setCell ⟨w.heap.size + 1, 3, none⟩ (.slice la x.locals.length lc)).setCell ⟨w.heap.size + 1, 4, none⟩ (.slice da x.dry.length dc)) from
        (((((Keep.set _ _ _ (by simp)).trans (Keep.set _ _ _ (by simp))).trans (Keep.set _ _ _ (by simp))).trans (Keep.set _ _ _ (by simp))).trans (Keep.set _ _ _ (by simp))))
      refine bodyPost_ret (v := .agg #[.int .i64 x.quota, .int .i64 x.pool, .int .i64 x.spent, .slice la x.locals.length lc, .slice da x.dry.length dc]) (by simp [results, Tryz.results91, go_sem, *]) rfl ⟨la, lc, da, dc, rfl, HBEL.out.trans (kk.out.below HBEL.out.size fun _ h => h.1), ?_, ?_⟩
      · exact (HL.out.keep kk.out fun a ha h => by have := (HL.out.lt ha).1; omega).mono (by omega)
      · exact (HD.out.keep kk.out fun a ha h => by have := (HD.out.lt ha).1; omega).mono (by omega)
def fC (M : WorldM) : Nat → Nat → Value := fun k => cpuF (M.cpus.getD k cpu0)
def fT (M : WorldM) : Nat → Nat → Value := fun k => taskF (M.tasks.getD k task0)
def fS (l : List ShelfM) : Nat → Nat → Value := fun k => shelfF (l.getD k shelf0)
def fG (M : WorldM) (H : Nat → GH) : Nat → Nat → Value := fun k => groupF (M.groups.getD k group0) (H k)
/-- what holds in the loops -/
structure L8I (h : WH) (M : WorldM) (w wr : World) (kc kt kg : Nat) (vc vt vg : Value) (H : Nat → GH) : Prop where
  b0 : Blk wr w.heap.size 33 #[.int .i64 M.now, .slice h.ca M.cpus.length h.cc, .slice h.ta M.tasks.length h.tc, .slice h.ga M.groups.length h.gc]
  b1 : Blk wr (w.heap.size + 1) 33 #[.int .i64 0, .slice none 0 0, .slice none 0 0, .slice none 0 0]
  b2 : Blk wr (w.heap.size + 1 + 1) 33 #[.int .i64 M.now, vc, vt, vg]
  rc : wr.ownsRow (w.heap.size + 3) 48 5 vc kc (rowL (fC M) 5 kc)
  rt : wr.ownsRow (w.heap.size + 3) 58 9 vt kt (rowL (fT M) 9 kt)
  rg : wr.ownsRow (w.heap.size + 3) 55 14 vg kg (rowL (fG M H) 14 kg)
  sub : GSubO wr (w.heap.size + 3) H M.groups kg
  bel : Below w.heap.size w wr
section
variable {h : WH} {M : WorldM} {w wr w5 : World} {kc kt kg : Nat} {vc vt vg u : Value} {H : Nat → GH}
theorem GSubO.keepS {S : Nat → Prop} {B : Nat} {L : List GroupM} {k : Nat} (hp : GSubO wr B H L k) (hk : Keep S wr w5) (hS : ∀ j, j < k → j < L.length → (∀ a, (H j).la = some a → ¬ S a.block) ∧ (∀ a, (H j).da = some a → ¬ S a.block) ∧ (∀ a, (H j).sa = some a → ¬ S a.block)) : GSubO w5 B H L k := ⟨fun j hj hjk => by
  obtain ⟨h0, h1, h2, h3⟩ := hp.1 j hj hjk
  exact ⟨h0, h1.keep hk (hS j hjk hj).1, h2.keep hk (hS j hjk hj).2.1, h3.keep hk (hS j hjk hj).2.2⟩, hp.2⟩
/-- a row of the call's own, and another of another kind -/
theorem row_own_ne {B B' n n' len k : Nat} {A : Option Addr} {T T' : TypeId} {f : Nat → Nat → Value} {v : Value} {xs : List Value} (hr : RowR wr B A T n len f) (ho : wr.ownsRow B' T' n' v k xs) (hT : T ≠ T') : ∀ a, A = some a → ¬ v.ownBlock = some a.block := fun a ha e => by
  rcases ho.2 with ⟨rfl, _⟩ | ⟨g, cap, cur, rfl, h1, h2, h3⟩
  · cases e
  have e1 : g = a.block := by simpa [Value.ownBlock] using e
  rcases hr with ⟨hr, _⟩ | ⟨g', C, hA, hB, hb, hc⟩
  · rw [hr] at ha; cases ha
  rw [hA] at ha; cases ha
  have e2 : g = g' := e1
  subst e2
  unfold Blk at hb
  rw [h2] at hb
  simp only [Option.some.injEq, Obj.cells.injEq] at hb
  exact hT hb.2.1.symm
theorem GSubO.far {B B' n' k' : Nat} {L : List GroupM} {k : Nat} {T' : TypeId} {v : Value} {xs : List Value} (hp : GSubO wr B H L k) (ho : wr.ownsRow B' T' n' v k' xs) (h1 : 3 ≠ T') (h2 : 4 ≠ T') (h3 : 103 ≠ T') :
    ∀ j, j < k → j < L.length → (∀ a, (H j).la = some a → ¬ v.ownBlock = some a.block) ∧ (∀ a, (H j).da = some a → ¬ v.ownBlock = some a.block) ∧ (∀ a, (H j).sa = some a → ¬ v.ownBlock = some a.block) := fun j hj hl =>
  ⟨row_own_ne (hp.1 j hl hj).2.1 ho h1, row_own_ne (hp.1 j hl hj).2.2.1 ho h2, row_own_ne (hp.1 j hl hj).2.2.2 ho h3⟩
theorem GSubO.setCell {B g i : Nat} {L : List GroupM} {k : Nat} (hp : GSubO wr B H L k) (hg : g < B) (u : Value) : GSubO (wr.setCell ⟨g, i, none⟩ u) B H L k := hp.but (But.set_ _ _ _ _) hg
theorem L8I.below (I : L8I h M w wr kc kt kg vc vt vg H) (hb : Below wr.heap.size wr w5) : L8I h M w w5 kc kt kg vc vt vg H :=
  ⟨I.b0.below hb I.b0.lt, I.b1.below hb I.b1.lt, I.b2.below hb I.b2.lt, own_below I.rc hb, own_below I.rt hb, own_below I.rg hb, I.sub.keep hb, I.bel.andThen hb⟩
theorem L8I.cpu (I : L8I h M w wr kc kt kg vc vt vg H) (hk : Keep (fun j => vc.ownBlock = some j) wr w5) (ho : w5.ownsRow (w.heap.size + 3) 48 5 u (kc + 1) (rowL (fC M) 5 (kc + 1))) :
    L8I h M w (w5.setCell ⟨w.heap.size + 1 + 1, 1, none⟩ u) (kc + 1) kt kg u vt vg H :=
  ⟨(hk.blk I.b0 (own_far I.rc (by omega))).far (by simp; omega) _, (hk.blk I.b1 (own_far I.rc (by omega))).far (by simp) _, (hk.blk I.b2 (own_far I.rc (by omega))).set_ 1 u, own_set ho (by omega) _, own_set (own_keep I.rt hk (own_ne I.rt I.rc (by decide))) (by omega) _, own_set (own_keep I.rg hk (own_ne I.rg I.rc (by decide))) (by omega) _,
   (I.sub.keepS hk (I.sub.far I.rc (by decide) (by decide) (by decide))).setCell (by omega) _,
   (I.bel.trans ((hk.below (B := w.heap.size) I.bel.size fun j hj => by have := (I.rc.lt _ hj).1; omega))).setCell (by simp; omega) _⟩
theorem L8I.task (I : L8I h M w wr kc kt kg vc vt vg H) (hk : Keep (fun j => vt.ownBlock = some j) wr w5) (ho : w5.ownsRow (w.heap.size + 3) 58 9 u (kt + 1) (rowL (fT M) 9 (kt + 1))) :
    L8I h M w (w5.setCell ⟨w.heap.size + 1 + 1, 2, none⟩ u) kc (kt + 1) kg vc u vg H :=
  ⟨(hk.blk I.b0 (own_far I.rt (by omega))).far (by simp; omega) _, (hk.blk I.b1 (own_far I.rt (by omega))).far (by simp) _, (hk.blk I.b2 (own_far I.rt (by omega))).set_ 2 u, own_set (own_keep I.rc hk (own_ne I.rc I.rt (by decide))) (by omega) _, own_set ho (by omega) _, own_set (own_keep I.rg hk (own_ne I.rg I.rt (by decide))) (by omega) _,
   (I.sub.keepS hk (I.sub.far I.rt (by decide) (by decide) (by decide))).setCell (by omega) _,
   (I.bel.trans ((hk.below (B := w.heap.size) I.bel.size fun j hj => by have := (I.rt.lt _ hj).1; omega))).setCell (by simp; omega) _⟩
theorem L8I.group {N : Nat} {x : GH} (I : L8I h M w wr kc kt kg vc vt vg H) (hkg : kg < M.groups.length) (hk : Keep (fun j => vg.ownBlock = some j) wr w5) (ho : w5.ownsRow (w.heap.size + 3) 55 14 u (kg + 1) (rowL (fG M H) 14 kg ++ (List.range 14).map (groupF (grp M kg) x)))
    (hN : w.heap.size + 3 ≤ N) (hnew : GNew N x) (hold : ∀ j, j < kg → (∀ a, (H j).la = some a → a.block < N) ∧ (∀ a, (H j).da = some a → a.block < N) ∧ (∀ a, (H j).sa = some a → a.block < N))
    (hl : IntR wr N x.la (grp M kg).band.locals) (hd : BoolR wr N x.da (grp M kg).band.dry) (hs : ShelfR wr N x.sa (grp M kg).shelves) :
    L8I h M w (w5.setCell ⟨w.heap.size + 1 + 1, 3, none⟩ u) kc kt (kg + 1) vc vt u (hset H kg x) := by
  have e1 : rowL (fG M H) 14 kg = rowL (fG M (hset H kg x)) 14 kg := rowL_congr fun j i hj => by show groupF _ _ i = groupF _ _ i; rw [hset_other _ _ (by omega)]
  have e2 : groupF (grp M kg) x = fG M (hset H kg x) kg := by show _ = groupF _ _; rw [hset_same]; rfl
  rw [e1, e2] at ho
  have s1 := I.sub.keepS hk (I.sub.far I.rg (by decide) (by decide) (by decide))
  have s2 : GSubO w5 (w.heap.size + 3) (hset H kg x) M.groups (kg + 1) := s1.step hkg ⟨hnew.mono hN, by rw [grp_eq hkg]; exact (hl.keep hk (row_own_ne hl I.rg (by decide))).mono hN, by rw [grp_eq hkg]; exact (hd.keep hk (row_own_ne hd I.rg (by decide))).mono hN, by rw [grp_eq hkg]; exact (hs.keep hk (row_own_ne hs I.rg (by decide))).mono hN⟩ hnew hold
  exact ⟨(hk.blk I.b0 (own_far I.rg (by omega))).far (by simp; omega) _, (hk.blk I.b1 (own_far I.rg (by omega))).far (by simp) _, (hk.blk I.b2 (own_far I.rg (by omega))).set_ 3 u, own_set (own_keep I.rc hk (own_ne I.rc I.rg (by decide))) (by omega) _, own_set (own_keep I.rt hk (own_ne I.rt I.rg (by decide))) (by omega) _, own_set ho (by omega) _,
   s2.setCell (by omega) _,
   (I.bel.trans ((hk.below (B := w.heap.size) I.bel.size fun j hj => by have := (I.rg.lt _ hj).1; omega))).setCell (by simp; omega) _⟩
end
/-- what holds while a group's shelves are copied -/
structure L9I (M : WorldM) (k N : Nat) (la : Option Addr) (lc : Nat) (da : Option Addr) (dc : Nat) (wr wi : World) (c : Nat) (vs : Value) : Prop where
  bx : Blk wi N 55 #[.bool ((grp M k)).used, .int .i64 ((grp M k)).parent, .string ((grp M k)).name, .int .i64 ((grp M k)).weight, .int .i64 ((grp M k)).cpus, .int .i64 ((grp M k)).period, .int .i64 ((grp M k)).next, .int .i64 ((grp M k)).sum, .int .i64 ((grp M k)).band.quota, .int .i64 ((grp M k)).band.pool, .int .i64 ((grp M k)).band.spent, .slice la (grp M k).band.locals.length lc, .slice da (grp M k).band.dry.length dc, vs]
  rs : wi.ownsRow (N + 1) 103 5 vs c (rowL (fS (grp M k).shelves) 5 c)
  hl : IntR wi (N + 1) la (grp M k).band.locals
  hd : BoolR wi (N + 1) da (grp M k).band.dry
  bel : Below N wr wi
theorem L9I.step {M : WorldM} {k N : Nat} {la : Option Addr} {lc : Nat} {da : Option Addr} {dc : Nat} {wr wi w5 : World} {c : Nat} {vs u : Value} (I : L9I M k N la lc da dc wr wi c vs) (hk : Keep (fun j => vs.ownBlock = some j) wi w5) (ho : w5.ownsRow (N + 1) 103 5 u (c + 1) (rowL (fS (grp M k).shelves) 5 (c + 1))) :
    L9I M k N la lc da dc wr (w5.setCell ⟨N, 13, none⟩ u) (c + 1) u :=
  ⟨(hk.blk I.bx (own_far I.rs (by omega))).set_ 13 u, own_set ho (by omega) _, (I.hl.keep hk (row_own_ne I.hl I.rs (by decide))).keep (Keep.set (S := fun j => j = N) _ _ _ rfl) (fun a ha e => by have := (I.hl.lt ha).1; omega), (I.hd.keep hk (row_own_ne I.hd I.rs (by decide))).keep (Keep.set (S := fun j => j = N) _ _ _ rfl) (fun a ha e => by have := (I.hd.lt ha).1; omega),
   (I.bel.trans (hk.below (B := N) (Nat.le_of_lt I.bx.lt) fun j hj => by have := (I.rs.lt _ hj).1; omega)).setCell (Nat.le_refl _) _⟩
set_option maxRecDepth 100000 in
set_option maxHeartbeats 4000000 in
theorem sL8Own_any (h : WH) (M : WorldM) (w : World) (hs : WAt w h M) (hf : WFit M) (hbd : ∀ k, k < M.groups.length → (grp M k).band.dry.length = (grp M k).band.locals.length) :
    Calls Tryz.prog 45 #[.agg #[.int .i64 M.now, .slice h.ca M.cpus.length h.cc, .slice h.ta M.tasks.length h.tc, .slice h.ga M.groups.length h.gc]] w (TwPostO M w) := by
  obtain ⟨m1, m2, m3, m4⟩ := hf
  have M4 := Lib.hid m4
  have HBD := Lib.hid hbd
  clear m4 hbd
  go_enter Tryz.func45, Tryz.ntmps45
  go_upto_region 2 with (fail)
  refine gen3 (p := fun W => Code.wp _ _ _ _ W) ?_
  intro W b1 s1 k0 k1 k2
  have H0 := h.gh
  have I0 := Lib.hid (show L8I h M w W 0 0 0 (.slice none 0 0) (.slice none 0 0) (.slice none 0 0) H0 from ⟨k0, k1, k2, World.ownsRow_nil _ _ _ _, World.ownsRow_nil _ _ _ _, World.ownsRow_nil _ _ _ _, ⟨fun j _ h => by omega, ⟨fun j _ _ h => by omega, fun j _ _ h => by omega, fun j _ _ h => by omega⟩⟩, b1⟩)
  clear b1 s1 k0 k1 k2
  go_wp2
  go_loopw [4] (fun i wr => ∃ (k : Nat) (v : Value), k ≤ M.cpus.length ∧ i = .int .i64 k ∧ L8I h M w wr k 0 0 v (.slice none 0 0) (.slice none 0 0) H0) (fun i _ => M.cpus.length - (intOf i).toNat)
  case atStart => exact ⟨0, _, Nat.zero_le _, rfl, I0.out⟩
  case round =>
    obtain ⟨k, v, hk, rfl, hI⟩ := hrel
    have II := Lib.hid hI
    have e1 := hI.b0.cell 1
    have f0 := fun i => hI.b0.frozen i
    have hsz := hI.b2.lt
    simp at e1
    by_cases hlt : k < M.cpus.length
    · obtain ⟨b, o, hca, hb, y0, y1, y2, y3, y4⟩ := ((hs.cpu).at_ k hlt)
      have c0 := (hI.bel.cell (p := ⟨b, o + k * 5, none⟩) hb).trans y0
      have c1 := (hI.bel.cell (p := ⟨b, o + k * 5 + 1, none⟩) hb).trans y1
      have c2 := (hI.bel.cell (p := ⟨b, o + k * 5 + 2, none⟩) hb).trans y2
      have c3 := (hI.bel.cell (p := ⟨b, o + k * 5 + 3, none⟩) hb).trans y3
      have c4 := (hI.bel.cell (p := ⟨b, o + k * 5 + 4, none⟩) hb).trans y4
      clear y0 y1 y2 y3 y4
      rw [show M.cpus[k] = M.cpus.getD k cpu0 by simp [hlt]] at c0 c1 c2 c3 c4
      rw [hca] at e1
      have d1 := hI.b2.cell 1
      simp at d1
      have i0 : (0 : Int) ≤ (k : Int) := by omega
      have i1 : (k : Int) < (M.cpus.length : Int) := by omega
      have HLT := Lib.hid hlt
      clear hI hlt
      go_upto_region 5 with (fail)
      obtain ⟨g5, cap5, w5, hrun, hown5, hkeep5, hg5, hlt5, hB5⟩ := app_drew slCpu (by omega) (by omega) (ty := 29) (T' := 48) II.out.rc (by omega) (by omega) [.bool (M.cpus.getD k cpu0).up, .int .i64 (M.cpus.getD k cpu0).cur, .int .i64 (M.cpus.getD k cpu0).ran, .int .i64 (M.cpus.getD k cpu0).busy, .int .i64 (M.cpus.getD k cpu0).idle] rfl (by simp [Value.oneCell'])
      obtain ⟨F, hFt, hFf⟩ : ∃ F : Bool → World, F true = wr ∧ F false = w5 := ⟨fun b => if b then wr else w5, rfl, rfl⟩
      have qq0 := fun b d os => cell_regrown (both hFt hFf (p := fun W => W.cell? _ = some _) c0 (hkeep5.cell c0 (by have := II.out.bel.size; omega) (own_far II.out.rc (by omega))) b) d os
      have qq1 := fun b d os => cell_regrown (both hFt hFf (p := fun W => W.cell? _ = some _) c1 (hkeep5.cell c1 (by have := II.out.bel.size; omega) (own_far II.out.rc (by omega))) b) d os
      have qq2 := fun b d os => cell_regrown (both hFt hFf (p := fun W => W.cell? _ = some _) c2 (hkeep5.cell c2 (by have := II.out.bel.size; omega) (own_far II.out.rc (by omega))) b) d os
      have qq3 := fun b d os => cell_regrown (both hFt hFf (p := fun W => W.cell? _ = some _) c3 (hkeep5.cell c3 (by have := II.out.bel.size; omega) (own_far II.out.rc (by omega))) b) d os
      have qq4 := fun b d os => cell_regrown (both hFt hFf (p := fun W => W.cell? _ = some _) c4 (hkeep5.cell c4 (by have := II.out.bel.size; omega) (own_far II.out.rc (by omega))) b) d os
      have qq5 := fun b d os => cell_regrown (both hFt hFf (p := fun W => W.cell? _ = some _) e1 (hkeep5.cell e1 (by omega) (own_far II.out.rc (by omega))) b) d os
      have qq6 := fun b d os => cell_regrown (both hFt hFf (p := fun W => W.cell? _ = some _) d1 (hkeep5.cell d1 (by omega) (own_far II.out.rc (by omega))) b) d os
      have HFt := Lib.hid hFt
      have HFf := Lib.hid hFf
      have HRUN := Lib.hid hrun
      clear hFt hFf hrun
      refine region_SC (twoC F) (twoC_drew true HFt.out) 10 [0, 0, 0, 0, 0, 0, 0, 1, 1, 0, 2] [0, 1, 2, 3, 4, 5, 6, 7, 8, 9, 10] (by kernel_rfl) (by kernel_rfl) (by kernel_rfl) rfl (by kernel_rfl) (by kernel_rfl) ?_
      simp only [permL, List.getElem?_cons_zero, List.getElem?_cons_succ, Option.toList_some, List.cons_append, List.nil_append]
      unfold twoC
      repeat (first | (refine wpS_skip (by rfl) ?_; simp only [Act.put, List.setIfInBounds_toArray, List.set_cons_zero, List.set_cons_succ]) | (refine wpS_det (by rfl) (fun K hK => ?_); go_big_quiet_op; refine hK _ ?_; clear hK K))
      refine wpS_bar (by rfl) (fun K hK => ?_)
      go_big_op
      refine hK _ _ (twoC_below true (by rw [HFt.out]; exact (Below.refl _ _).drew.alloc (Nat.le_refl _) _)) ?_
      clear hK K
      refine wpS_bar (by rfl) (fun K hK => ?_)
      refine wp_append_run rfl rfl rfl HRUN.out ?_
      refine hK _ _ (twoC_below false (by rw [HFf.out]; exact Below.refl _ _)) ?_
      clear hK K
      simp only [Act.put, List.setIfInBounds_toArray, List.set_cons_zero, List.set_cons_succ]
      repeat (first | (refine wpS_skip (by rfl) ?_; simp only [Act.put, List.setIfInBounds_toArray, List.set_cons_zero, List.set_cons_succ]) | (refine wpS_det (by rfl) (fun K hK => ?_); go_big_quiet_op; refine hK _ ?_; clear hK K))
      clear qq0 qq1 qq2 qq3 qq4 qq5 qq6
      have f3 := fun i => (hkeep5.blk II.out.b2 (own_far II.out.rc (by omega))).frozen i
      have z3 := (hkeep5.blk II.out.b2 (own_far II.out.rc (by omega))).cell 1
      simp at z3
      refine wpS_end (by rfl) (fun K hK => ?_)
      go_big_op
      refine hK _ _ ?_
      clear hK K
      refine wpS_nil ?_
      have I2 := Lib.hid (II.out.cpu hkeep5 (u := .slice (some ⟨g5, 0, none⟩) (k + 1 : Nat) cap5) hown5)
      clear HFt HFf HRUN hkeep5 hown5 hg5 hlt5 hB5 z3 f3 f0 hsz e1 d1 c0 c1 c2 c3 c4
      go_wp2
      go_roundw
      case rel => exact ⟨k + 1, _, by have := HLT.out; omega, by go_num, I2.out⟩
      case measure => have := HLT.out; simp [intOf]; omega
    · obtain rfl : k = M.cpus.length := by omega
      clear I0
      have I0 := Lib.hid hI
      clear hI II hk hsz
      generalize hv : v = vc at *
      clear hv
      go_wp2
      clear e1 f0 hlt
      go_loopw [5] (fun i wr => ∃ (k : Nat) (v : Value), k ≤ M.tasks.length ∧ i = .int .i64 k ∧ L8I h M w wr M.cpus.length k 0 vc v (.slice none 0 0) H0) (fun i _ => M.tasks.length - (intOf i).toNat)
      case atStart => exact ⟨0, _, Nat.zero_le _, rfl, I0.out⟩
      case round =>
        obtain ⟨k, v, hk, rfl, hI⟩ := hrel
        have II := Lib.hid hI
        have e1 := hI.b0.cell 2
        have f0 := fun i => hI.b0.frozen i
        have hsz := hI.b2.lt
        simp at e1
        by_cases hlt : k < M.tasks.length
        · obtain ⟨b, o, hca, hb, y0, y1, y2, y3, y4, y5, y6, y7, y8⟩ := ((hs.task).at_ k hlt)
          have c0 := (hI.bel.cell (p := ⟨b, o + k * 9, none⟩) hb).trans y0
          have c1 := (hI.bel.cell (p := ⟨b, o + k * 9 + 1, none⟩) hb).trans y1
          have c2 := (hI.bel.cell (p := ⟨b, o + k * 9 + 2, none⟩) hb).trans y2
          have c3 := (hI.bel.cell (p := ⟨b, o + k * 9 + 3, none⟩) hb).trans y3
          have c4 := (hI.bel.cell (p := ⟨b, o + k * 9 + 4, none⟩) hb).trans y4
          have c5 := (hI.bel.cell (p := ⟨b, o + k * 9 + 5, none⟩) hb).trans y5
          have c6 := (hI.bel.cell (p := ⟨b, o + k * 9 + 6, none⟩) hb).trans y6
          have c7 := (hI.bel.cell (p := ⟨b, o + k * 9 + 7, none⟩) hb).trans y7
          have c8 := (hI.bel.cell (p := ⟨b, o + k * 9 + 8, none⟩) hb).trans y8
          clear y0 y1 y2 y3 y4 y5 y6 y7 y8
          rw [show M.tasks[k] = M.tasks.getD k task0 by simp [hlt]] at c0 c1 c2 c3 c4 c5 c6 c7 c8
          rw [hca] at e1
          have d1 := hI.b2.cell 2
          simp at d1
          have i0 : (0 : Int) ≤ (k : Int) := by omega
          have i1 : (k : Int) < (M.tasks.length : Int) := by omega
          have HLT := Lib.hid hlt
          clear hI hlt
          go_upto_region 9 with (fail)
          obtain ⟨g5, cap5, w5, hrun, hown5, hkeep5, hg5, hlt5, hB5⟩ := app_drew slTask (by omega) (by omega) (ty := 30) (T' := 58) II.out.rt (by omega) (by omega) [.int .i64 (M.tasks.getD k task0).st, .int .i64 (M.tasks.getD k task0).gr, .int .i64 (M.tasks.getD k task0).cpu, .int .i64 (M.tasks.getD k task0).nice, .int .i64 (M.tasks.getD k task0).mask, .int .i64 (M.tasks.getD k task0).v, .int .i64 (M.tasks.getD k task0).sum, .int .i64 (M.tasks.getD k task0).used, .int .i64 (M.tasks.getD k task0).load] rfl (by simp [Value.oneCell'])
          obtain ⟨F, hFt, hFf⟩ : ∃ F : Bool → World, F true = wr ∧ F false = w5 := ⟨fun b => if b then wr else w5, rfl, rfl⟩
          have qq0 := fun b d os => cell_regrown (both hFt hFf (p := fun W => W.cell? _ = some _) c0 (hkeep5.cell c0 (by have := II.out.bel.size; omega) (own_far II.out.rt (by omega))) b) d os
          have qq1 := fun b d os => cell_regrown (both hFt hFf (p := fun W => W.cell? _ = some _) c1 (hkeep5.cell c1 (by have := II.out.bel.size; omega) (own_far II.out.rt (by omega))) b) d os
          have qq2 := fun b d os => cell_regrown (both hFt hFf (p := fun W => W.cell? _ = some _) c2 (hkeep5.cell c2 (by have := II.out.bel.size; omega) (own_far II.out.rt (by omega))) b) d os
          have qq3 := fun b d os => cell_regrown (both hFt hFf (p := fun W => W.cell? _ = some _) c3 (hkeep5.cell c3 (by have := II.out.bel.size; omega) (own_far II.out.rt (by omega))) b) d os
          have qq4 := fun b d os => cell_regrown (both hFt hFf (p := fun W => W.cell? _ = some _) c4 (hkeep5.cell c4 (by have := II.out.bel.size; omega) (own_far II.out.rt (by omega))) b) d os
          have qq5 := fun b d os => cell_regrown (both hFt hFf (p := fun W => W.cell? _ = some _) c5 (hkeep5.cell c5 (by have := II.out.bel.size; omega) (own_far II.out.rt (by omega))) b) d os
          have qq6 := fun b d os => cell_regrown (both hFt hFf (p := fun W => W.cell? _ = some _) c6 (hkeep5.cell c6 (by have := II.out.bel.size; omega) (own_far II.out.rt (by omega))) b) d os
          have qq7 := fun b d os => cell_regrown (both hFt hFf (p := fun W => W.cell? _ = some _) c7 (hkeep5.cell c7 (by have := II.out.bel.size; omega) (own_far II.out.rt (by omega))) b) d os
          have qq8 := fun b d os => cell_regrown (both hFt hFf (p := fun W => W.cell? _ = some _) c8 (hkeep5.cell c8 (by have := II.out.bel.size; omega) (own_far II.out.rt (by omega))) b) d os
          have qq9 := fun b d os => cell_regrown (both hFt hFf (p := fun W => W.cell? _ = some _) e1 (hkeep5.cell e1 (by omega) (own_far II.out.rt (by omega))) b) d os
          have qq10 := fun b d os => cell_regrown (both hFt hFf (p := fun W => W.cell? _ = some _) d1 (hkeep5.cell d1 (by omega) (own_far II.out.rt (by omega))) b) d os
          have HFt := Lib.hid hFt
          have HFf := Lib.hid hFf
          have HRUN := Lib.hid hrun
          clear hFt hFf hrun
          refine region_SC (twoC F) (twoC_drew true HFt.out) 10 [0, 0, 0, 0, 0, 0, 0, 1, 1, 0, 2] [0, 1, 2, 3, 4, 5, 6, 7, 8, 9, 10] (by kernel_rfl) (by kernel_rfl) (by kernel_rfl) rfl (by kernel_rfl) (by kernel_rfl) ?_
          simp only [permL, List.getElem?_cons_zero, List.getElem?_cons_succ, Option.toList_some, List.cons_append, List.nil_append]
          unfold twoC
          repeat (first | (refine wpS_skip (by rfl) ?_; simp only [Act.put, List.setIfInBounds_toArray, List.set_cons_zero, List.set_cons_succ]) | (refine wpS_det (by rfl) (fun K hK => ?_); go_big_quiet_op; refine hK _ ?_; clear hK K))
          refine wpS_bar (by rfl) (fun K hK => ?_)
          go_big_op
          refine hK _ _ (twoC_below true (by rw [HFt.out]; exact (Below.refl _ _).drew.alloc (Nat.le_refl _) _)) ?_
          clear hK K
          refine wpS_bar (by rfl) (fun K hK => ?_)
          refine wp_append_run rfl rfl rfl HRUN.out ?_
          refine hK _ _ (twoC_below false (by rw [HFf.out]; exact Below.refl _ _)) ?_
          clear hK K
          simp only [Act.put, List.setIfInBounds_toArray, List.set_cons_zero, List.set_cons_succ]
          repeat (first | (refine wpS_skip (by rfl) ?_; simp only [Act.put, List.setIfInBounds_toArray, List.set_cons_zero, List.set_cons_succ]) | (refine wpS_det (by rfl) (fun K hK => ?_); go_big_quiet_op; refine hK _ ?_; clear hK K))
          clear qq0 qq1 qq2 qq3 qq4 qq5 qq6 qq7 qq8 qq9 qq10
          have f3 := fun i => (hkeep5.blk II.out.b2 (own_far II.out.rt (by omega))).frozen i
          have z3 := (hkeep5.blk II.out.b2 (own_far II.out.rt (by omega))).cell 2
          simp at z3
          refine wpS_end (by rfl) (fun K hK => ?_)
          go_big_op
          refine hK _ _ ?_
          clear hK K
          refine wpS_nil ?_
          have I2 := Lib.hid (II.out.task hkeep5 (u := .slice (some ⟨g5, 0, none⟩) (k + 1 : Nat) cap5) hown5)
          clear HFt HFf HRUN hkeep5 hown5 hg5 hlt5 hB5 z3 f3 f0 hsz e1 d1 c0 c1 c2 c3 c4 c5 c6 c7 c8
          go_wp2
          go_roundw
          case rel => exact ⟨k + 1, _, by have := HLT.out; omega, by go_num, I2.out⟩
          case measure => have := HLT.out; simp [intOf]; omega
        · obtain rfl : k = M.tasks.length := by omega
          clear I0
          have I0 := Lib.hid hI
          clear hI II hk hsz
          generalize hv : v = vt at *
          clear hv
          go_wp2
          clear e1 f0 hlt
          go_loopw [6] (fun i wo => ∃ (k : Nat) (v : Value) (H : Nat → GH), k ≤ M.groups.length ∧ i = .int .i64 k ∧ L8I h M w wo M.cpus.length M.tasks.length k vc vt v H) (fun i _ => M.groups.length - (intOf i).toNat)
          case atStart => exact ⟨0, _, H0, Nat.zero_le _, rfl, I0.out⟩
          case round =>
            obtain ⟨k, v, H, hk, rfl, hI⟩ := hrel
            obtain ⟨wo, hwo⟩ : ∃ wo, wo = wr := ⟨wr, rfl⟩
            subst hwo
            have II := Lib.hid hI
            have e1 := hI.b0.cell 3
            have f0 := fun i => hI.b0.frozen i
            have hsz := hI.b2.lt
            simp at e1
            by_cases hlt : k < M.groups.length
            · obtain ⟨b, o, hga, hb, y0, y1, y2, y3, y4, y5, y6, y7, y8, y9, y10, y11, y12, y13⟩ := hs.group.at_ k hlt
              have c0 := (hI.bel.cell (p := ⟨b, o + k * 14, none⟩) hb).trans y0
              have c1 := (hI.bel.cell (p := ⟨b, o + k * 14 + 1, none⟩) hb).trans y1
              have c2 := (hI.bel.cell (p := ⟨b, o + k * 14 + 2, none⟩) hb).trans y2
              have c3 := (hI.bel.cell (p := ⟨b, o + k * 14 + 3, none⟩) hb).trans y3
              have c4 := (hI.bel.cell (p := ⟨b, o + k * 14 + 4, none⟩) hb).trans y4
              have c5 := (hI.bel.cell (p := ⟨b, o + k * 14 + 5, none⟩) hb).trans y5
              have c6 := (hI.bel.cell (p := ⟨b, o + k * 14 + 6, none⟩) hb).trans y6
              have c7 := (hI.bel.cell (p := ⟨b, o + k * 14 + 7, none⟩) hb).trans y7
              have c8 := (hI.bel.cell (p := ⟨b, o + k * 14 + 8, none⟩) hb).trans y8
              have c9 := (hI.bel.cell (p := ⟨b, o + k * 14 + 9, none⟩) hb).trans y9
              have c10 := (hI.bel.cell (p := ⟨b, o + k * 14 + 10, none⟩) hb).trans y10
              have c11 := (hI.bel.cell (p := ⟨b, o + k * 14 + 11, none⟩) hb).trans y11
              have c12 := (hI.bel.cell (p := ⟨b, o + k * 14 + 12, none⟩) hb).trans y12
              have c13 := (hI.bel.cell (p := ⟨b, o + k * 14 + 13, none⟩) hb).trans y13
              clear y0 y1 y2 y3 y4 y5 y6 y7 y8 y9 y10 y11 y12 y13
              rw [grp_eq hlt] at c0 c1 c2 c3 c4 c5 c6 c7 c8 c9 c10 c11 c12 c13
              rw [hga] at e1
              clear hga
              have i0 : (0 : Int) ≤ (k : Int) := by omega
              have i1 : (k : Int) < (M.groups.length : Int) := by omega
              have HLT := Lib.hid hlt
              have HGF := Lib.hid (show GFit (grp M k) by rw [← grp_eq hlt]; exact M4.out k hlt)
              have HLO := Lib.hid (show IntS w (h.gh k).la (grp M k).band.locals by rw [← grp_eq hlt]; exact hs.group.loc k hlt)
              have HDR := Lib.hid (show BoolS w (h.gh k).da (grp M k).band.dry by rw [← grp_eq hlt]; exact hs.group.dry k hlt)
              have HSH := Lib.hid (show ShelfS w (h.gh k).sa (grp M k).shelves by rw [← grp_eq hlt]; exact hs.group.she k hlt)
              have HKL := Lib.hid hk
              have HBE := Lib.hid hI.bel
              clear hI hlt hk
              go_upto_region 14 with (fail)
              refine gen1 (p := fun W => Code.wp _ _ _ _ W) ?_
              intro W1 b1 s1 kx
              have HS1 := Lib.hid s1
              have hbA := HBE.out.andThen b1
              have hbB := Nat.lt_of_lt_of_le hb HBE.out.size
              have E1 := (b1.cell (p := ⟨w.heap.size, 3, none⟩) (by simp; omega)).trans e1
              have d8 := (b1.cell (p := ⟨b, o + k * 14 + 8, none⟩) hbB).trans c8
              have d9 := (b1.cell (p := ⟨b, o + k * 14 + 9, none⟩) hbB).trans c9
              have d10 := (b1.cell (p := ⟨b, o + k * 14 + 10, none⟩) hbB).trans c10
              have d11 := (b1.cell (p := ⟨b, o + k * 14 + 11, none⟩) hbB).trans c11
              have d12 := (b1.cell (p := ⟨b, o + k * 14 + 12, none⟩) hbB).trans c12
              have hsz1 := Nat.lt_of_lt_of_le hsz b1.size
              have HE1 := Lib.hid e1
              clear e1 s1
              clear c0 c1 c2 c3 c4 c5 c6 c7 c8 c9 c10 c11 c12
              have E1 := E1
              go_wp2_with fail
              refine (sL5Own_any (grp M k).band (h.gh k) W1 (HBD.out k HLT.out) HGF.out.2.1.1 (HLO.out.keep hbA) (HDR.out.keep hbA)).mono ?_
              rintro e W2 ⟨la, lc, da, dc, rfl, hb2, hL, hD⟩
              have kx2 := kx.below hb2 kx.lt
              have x8 := kx2.cell 8
              have x9 := kx2.cell 9
              have x10 := kx2.cell 10
              have x11 := kx2.cell 11
              have x12 := kx2.cell 12
              have x13 := kx2.cell 13
              have fx := fun i => kx2.frozen i
              simp at x8 x9 x10 x11 x12 x13
              have KX := Lib.hid kx2
              have HL2 := Lib.hid hL
              have HD2 := Lib.hid hD
              have HB2 := Lib.hid (b1.andThen hb2)
              clear kx kx2 hL hD hb2 b1 hbA E1 hsz1 d8 d9 d10 d11 d12
              have e1 := HE1.out
              go_wp2
              refine genW (p := fun W => Code.wp _ _ _ _ W) ?_
              intro W3 hW3
              have KE := Lib.hid (show Keep (fun j => j = wo.heap.size) W2 W3 by rw [← hW3]; exact ((((((Keep.set _ _ _ (by rfl)).trans (Keep.set _ _ _ (by rfl))).trans (Keep.set _ _ _ (by rfl))).trans (Keep.set _ _ _ (by rfl))).trans (Keep.set _ _ _ (by rfl))).trans (Keep.set _ _ _ (by rfl))))
              have J0 := Lib.hid (show L9I M k wo.heap.size la lc da dc wo W3 0 (.slice none 0 0) from ⟨by rw [← hW3]; exact ((((((KX.out.set_ 8 _).set_ 9 _).set_ 10 _).set_ 11 _).set_ 12 _).set_ 13 _), World.ownsRow_nil _ _ _ _,
                (HL2.out.keep KE.out fun a ha e => by have := (HL2.out.lt ha).1; have := HS1.out; omega).mono (by rw [HS1.out]; exact Nat.le_refl _), (HD2.out.keep KE.out fun a ha e => by have := (HD2.out.lt ha).1; have := HS1.out; omega).mono (by rw [HS1.out]; exact Nat.le_refl _),
                HB2.out.trans (KE.out.below (B := wo.heap.size) HB2.out.size fun j e => by omega)⟩)
              clear hW3 x8 x9 x10 x11 x12 x13 fx KX HL2 HD2 HB2 KE HS1
              go_loopw [8] (fun i wr => ∃ (c : Nat) (vs : Value), c ≤ (grp M k).shelves.length ∧ i = .int .i64 c ∧ L9I M k wo.heap.size la lc da dc wo wr c vs) (fun i _ => (grp M k).shelves.length - (intOf i).toNat)
              case atStart => exact ⟨0, _, Nat.zero_le _, rfl, J0.out⟩
              case round =>
                obtain ⟨c, vs, hc, rfl, hJ⟩ := hrel
                have J := Lib.hid hJ
                have HCL := Lib.hid hc
                have hbW := hJ.bel
                have hwr := HBE.out.size
                have hH := II.out.b2.lt
                have e1 := (hbW.cell (p := ⟨w.heap.size, 3, none⟩) (by simp; omega)).trans HE1.out
                have hbi := Nat.lt_of_lt_of_le hb HBE.out.size
                have g13 := (hbW.cell (p := ⟨b, o + k * 14 + 13, none⟩) hbi).trans c13
                have hgb2 : b < wr.heap.size := by have := hJ.bx.lt; omega
                by_cases hlc : c < (grp M k).shelves.length
                · obtain ⟨b2, o2, hsa, hsb, t0, t1, t2, t3, t4⟩ := HSH.out.at_ c hlc
                  have hsbi := Nat.lt_of_lt_of_le hsb HBE.out.size
                  have s0 := (hbW.cell (p := ⟨b2, o2 + c * 5, none⟩) hsbi).trans ((HBE.out.cell (p := ⟨b2, o2 + c * 5, none⟩) hsb).trans t0)
                  have s1 := (hbW.cell (p := ⟨b2, o2 + c * 5 + 1, none⟩) hsbi).trans ((HBE.out.cell (p := ⟨b2, o2 + c * 5 + 1, none⟩) hsb).trans t1)
                  have s2 := (hbW.cell (p := ⟨b2, o2 + c * 5 + 2, none⟩) hsbi).trans ((HBE.out.cell (p := ⟨b2, o2 + c * 5 + 2, none⟩) hsb).trans t2)
                  have s3 := (hbW.cell (p := ⟨b2, o2 + c * 5 + 3, none⟩) hsbi).trans ((HBE.out.cell (p := ⟨b2, o2 + c * 5 + 3, none⟩) hsb).trans t3)
                  have s4 := (hbW.cell (p := ⟨b2, o2 + c * 5 + 4, none⟩) hsbi).trans ((HBE.out.cell (p := ⟨b2, o2 + c * 5 + 4, none⟩) hsb).trans t4)
                  clear t0 t1 t2 t3 t4
                  rw [show (grp M k).shelves[c] = (grp M k).shelves.getD c shelf0 by simp [hlc]] at s0 s1 s2 s3 s4
                  rw [hsa] at g13
                  have hsb2 : b2 < wr.heap.size := by have := hJ.bx.lt; omega
                  have j0 : (0 : Int) ≤ (c : Int) := by omega
                  have j1 : (c : Int) < ((grp M k).shelves.length : Int) := by omega
                  have j2 : ((grp M k).shelves.length : Int) ≤ 1048576 := by have := HGF.out.2.2; omega
                  have d13 := hJ.bx.cell 13
                  simp at d13
                  have hsz2 := hJ.bx.lt
                  have HLC := Lib.hid hlc
                  have HSL := Lib.hid HGF.out.2.2
                  clear hJ hlc hc hbW
                  go_upto_region 19 with (fail)
                  obtain ⟨g5, cap5, w5, hrun, hown5, hkeep5, hg5, hlt5, hB5⟩ := app_drew slShelf (by omega) (by omega) (ty := 53) (T' := 103) J.out.rs (by omega) (by have := HSL.out; omega) [.int .i64 ((grp M k).shelves.getD c shelf0).floor, .bool ((grp M k).shelves.getD c shelf0).on, .int .i64 ((grp M k).shelves.getD c shelf0).v, .int .i64 ((grp M k).shelves.getD c shelf0).w, .int .i64 ((grp M k).shelves.getD c shelf0).sum] rfl (by simp [Value.oneCell'])
                  obtain ⟨F, hFt, hFf⟩ : ∃ F : Bool → World, F true = wr ∧ F false = w5 := ⟨fun b => if b then wr else w5, rfl, rfl⟩
                  have qq0 := fun b d os => cell_regrown (both hFt hFf (p := fun W => W.cell? _ = some _) s0 (hkeep5.cell s0 hsb2 (own_far J.out.rs (by omega))) b) d os
                  have qq1 := fun b d os => cell_regrown (both hFt hFf (p := fun W => W.cell? _ = some _) s1 (hkeep5.cell s1 hsb2 (own_far J.out.rs (by omega))) b) d os
                  have qq2 := fun b d os => cell_regrown (both hFt hFf (p := fun W => W.cell? _ = some _) s2 (hkeep5.cell s2 hsb2 (own_far J.out.rs (by omega))) b) d os
                  have qq3 := fun b d os => cell_regrown (both hFt hFf (p := fun W => W.cell? _ = some _) s3 (hkeep5.cell s3 hsb2 (own_far J.out.rs (by omega))) b) d os
                  have qq4 := fun b d os => cell_regrown (both hFt hFf (p := fun W => W.cell? _ = some _) s4 (hkeep5.cell s4 hsb2 (own_far J.out.rs (by omega))) b) d os
                  have qq5 := fun b d os => cell_regrown (both hFt hFf (p := fun W => W.cell? _ = some _) e1 (hkeep5.cell e1 (by omega) (own_far J.out.rs (by omega))) b) d os
                  have qq6 := fun b d os => cell_regrown (both hFt hFf (p := fun W => W.cell? _ = some _) g13 (hkeep5.cell g13 hgb2 (own_far J.out.rs (by omega))) b) d os
                  have qq7 := fun b d os => cell_regrown (both hFt hFf (p := fun W => W.cell? _ = some _) d13 (hkeep5.cell d13 (by omega) (own_far J.out.rs (by omega))) b) d os
                  have HFt := Lib.hid hFt
                  have HFf := Lib.hid hFf
                  have HRUN := Lib.hid hrun
                  clear hFt hFf hrun
                  refine region_SC (twoC F) (twoC_drew true HFt.out) 14 [0, 0, 0, 0, 0, 0, 0, 0, 0, 0, 0, 1, 1, 0, 2] [0, 1, 2, 3, 4, 5, 6, 7, 8, 9, 10, 11, 12, 13, 14] (by kernel_rfl) (by kernel_rfl) (by kernel_rfl) rfl (by kernel_rfl) (by kernel_rfl) ?_
                  simp only [permL, List.getElem?_cons_zero, List.getElem?_cons_succ, Option.toList_some, List.cons_append, List.nil_append]
                  unfold twoC
                  repeat (first | (refine wpS_skip (by rfl) ?_; simp only [Act.put, List.setIfInBounds_toArray, List.set_cons_zero, List.set_cons_succ]) | (refine wpS_det (by rfl) (fun K hK => ?_); go_big_quiet_op; refine hK _ ?_; clear hK K))
                  refine wpS_bar (by rfl) (fun K hK => ?_)
                  go_big_op
                  refine hK _ _ (twoC_below true (by rw [HFt.out]; exact (Below.refl _ _).drew.alloc (Nat.le_refl _) _)) ?_
                  clear hK K
                  refine wpS_bar (by rfl) (fun K hK => ?_)
                  refine wp_append_run rfl rfl rfl HRUN.out ?_
                  refine hK _ _ (twoC_below false (by rw [HFf.out]; exact Below.refl _ _)) ?_
                  clear hK K
                  simp only [Act.put, List.setIfInBounds_toArray, List.set_cons_zero, List.set_cons_succ]
                  repeat (first | (refine wpS_skip (by rfl) ?_; simp only [Act.put, List.setIfInBounds_toArray, List.set_cons_zero, List.set_cons_succ]) | (refine wpS_det (by rfl) (fun K hK => ?_); go_big_quiet_op; refine hK _ ?_; clear hK K))
                  clear qq0 qq1 qq2 qq3 qq4 qq5 qq6 qq7
                  have f3 := fun i => (hkeep5.blk J.out.bx (own_far J.out.rs (by omega))).frozen i
                  have z3 := (hkeep5.blk J.out.bx (own_far J.out.rs (by omega))).cell 13
                  simp at z3
                  refine wpS_end (by rfl) (fun K hK => ?_)
                  go_big_op
                  refine hK _ _ ?_
                  clear hK K
                  refine wpS_nil ?_
                  have J2 := Lib.hid (J.out.step hkeep5 (u := .slice (some ⟨g5, 0, none⟩) (c + 1 : Nat) cap5) hown5)
                  clear HFt HFf HRUN hkeep5 hown5 hg5 hlt5 hB5 z3 f3 e1 g13 d13 s0 s1 s2 s3 s4
                  go_wp2
                  go_roundw
                  case rel => exact ⟨c + 1, _, by have := HLC.out; omega, by go_num, J2.out⟩
                  case measure => have := HLC.out; simp [intOf]; omega
                · obtain rfl : c = (grp M k).shelves.length := by omega
                  obtain ⟨sa, sc, rfl, hS⟩ := row_of_own hJ.rs
                  have HS := Lib.hid hS
                  have HL5 := Lib.hid hJ.hl
                  have HD5 := Lib.hid hJ.hd
                  have HBJ := Lib.hid hJ.bel
                  have IJ := Lib.hid (II.out.below hJ.bel)
                  have OLD := Lib.hid (II.out.sub.old HKL.out)
                  have HNB := Lib.hid (show w.heap.size + 3 ≤ wo.heap.size by omega)
                  have x0 := hJ.bx.cell 0
                  have x1 := hJ.bx.cell 1
                  have x2 := hJ.bx.cell 2
                  have x3 := hJ.bx.cell 3
                  have x4 := hJ.bx.cell 4
                  have x5 := hJ.bx.cell 5
                  have x6 := hJ.bx.cell 6
                  have x7 := hJ.bx.cell 7
                  have x8 := hJ.bx.cell 8
                  have x9 := hJ.bx.cell 9
                  have x10 := hJ.bx.cell 10
                  have x11 := hJ.bx.cell 11
                  have x12 := hJ.bx.cell 12
                  have x13 := hJ.bx.cell 13
                  simp at x0 x1 x2 x3 x4 x5 x6 x7 x8 x9 x10 x11 x12 x13
                  have g3 := IJ.out.b2.cell 3
                  have f3 := fun i => IJ.out.b2.frozen i
                  simp at g3
                  have hsi := hJ.bx.lt
                  clear hJ hc hbW hS
                  obtain ⟨g5, cap5, w5, hrun, hown5, hkeep5, hg5, hlt5, hB5⟩ := app_one slGroup (by omega) (by omega) (ty := 31) (T' := 55) IJ.out.rg (by omega) (by have := HLT.out; omega) [.bool ((grp M k)).used, .int .i64 ((grp M k)).parent, .string ((grp M k)).name, .int .i64 ((grp M k)).weight, .int .i64 ((grp M k)).cpus, .int .i64 ((grp M k)).period, .int .i64 ((grp M k)).next, .int .i64 ((grp M k)).sum, .int .i64 ((grp M k)).band.quota, .int .i64 ((grp M k)).band.pool, .int .i64 ((grp M k)).band.spent, .slice la (grp M k).band.locals.length lc, .slice da (grp M k).band.dry.length dc, .slice sa (grp M k).shelves.length sc] rfl (by simp [Value.oneCell']) (W1 := wr.alloc (.cells #[.bool ((grp M k)).used, .int .i64 ((grp M k)).parent, .string ((grp M k)).name, .int .i64 ((grp M k)).weight, .int .i64 ((grp M k)).cpus, .int .i64 ((grp M k)).period, .int .i64 ((grp M k)).next, .int .i64 ((grp M k)).sum, .int .i64 ((grp M k)).band.quota, .int .i64 ((grp M k)).band.pool, .int .i64 ((grp M k)).band.spent, .slice la (grp M k).band.locals.length lc, .slice da (grp M k).band.dry.length dc, .slice sa (grp M k).shelves.length sc] 55)) ((Below.refl _ _).alloc (Nat.le_refl _) _) (by simp) (Blk.new _ _ _)
                  have HRUN := Lib.hid hrun
                  have KB5 := hkeep5.blk IJ.out.b2 (own_far IJ.out.rg (by omega))
                  have f5 := fun i => KB5.frozen i
                  have z5 := KB5.cell 3
                  simp at z5
                  have I2 := Lib.hid (IJ.out.group (x := ⟨la, lc, da, dc, sa, sc⟩) HLT.out hkeep5 (u := .slice (some ⟨g5, 0, none⟩) (k + 1 : Nat) cap5) hown5 HNB.out ⟨fun a ha => by have := (HL5.out.lt ha).1; omega, fun a ha => by have := (HD5.out.lt ha).1; omega, fun a ha => by have := (HS.out.lt ha).1; omega⟩ OLD.out (HL5.out.mono (by omega)) (HD5.out.mono (by omega)) (HS.out.mono (by omega)))
                  clear hrun KB5
                  go_wp2_with (at_builtin; refine wpList_append_run rfl rfl rfl rfl HRUN.out ?_)
                  go_roundw
                  case rel => exact ⟨k + 1, _, _, by have := HLT.out; omega, by go_num, I2.out⟩
                  case measure => have := HLT.out; simp [intOf]; omega
            · obtain rfl : k = M.groups.length := by omega
              obtain ⟨ca, cc, rfl, hC⟩ := row_of_own hI.rc
              obtain ⟨ta, tc, rfl, hT⟩ := row_of_own hI.rt
              obtain ⟨ga, gc, rfl, hG⟩ := row_of_own hI.rg
              have own5 := Lib.hid (show Own wo (w.heap.size + 3) ca ta ga H M from ⟨hC, hT, hG, fun j hj => by rw [← grp_eq hj]; exact (hI.sub.1 j hj hj).2.1, fun j hj => by rw [← grp_eq hj]; exact (hI.sub.1 j hj hj).2.2.1, fun j hj => by rw [← grp_eq hj]; exact (hI.sub.1 j hj hj).2.2.2, hI.sub.2.1, hI.sub.2.2.1, hI.sub.2.2.2⟩)
              have g0 := hI.b2.cell 0
              have g1 := hI.b2.cell 1
              have g2 := hI.b2.cell 2
              have g3 := hI.b2.cell 3
              have y0 := hI.b1.cell 0
              have y1 := hI.b1.cell 1
              have y2 := hI.b1.cell 2
              have y3 := hI.b1.cell 3
              have f1 := fun i => hI.b1.frozen i
              simp at g0 g1 g2 g3 y0 y1 y2 y3
              have HBEL := Lib.hid hI.bel
              clear hC hT hG hI II hs
              go_wp2
              have kk := Lib.hid (show Keep (fun i => w.heap.size ≤ i ∧ i < w.heap.size + 3) wo ((((wo.setCell ⟨w.heap.size + 1, 0, none⟩ (.int .i64 M.now)).setCell ⟨w.heap.size + 1, 1, none⟩ (.slice ca M.cpus.length cc)).setCell ⟨w.heap.size + 1, 2, none⟩ (.slice ta M.tasks.length tc)).setCell ⟨w.heap.size + 1, 3, none⟩ (.slice ga M.groups.length gc)) from
                ((((Keep.set _ _ _ (by simp)).trans (Keep.set _ _ _ (by simp))).trans (Keep.set _ _ _ (by simp))).trans (Keep.set _ _ _ (by simp))))
              refine bodyPost_ret (v := .agg #[.int .i64 M.now, .slice ca M.cpus.length cc, .slice ta M.tasks.length tc, .slice ga M.groups.length gc]) (by simp [results, Tryz.results45, go_sem, *]) rfl ⟨⟨ca, cc, ta, tc, ga, gc, H⟩, rfl, HBEL.out.trans (kk.out.below HBEL.out.size fun _ h => h.1), ?_⟩
              exact (own5.out.keep kk.out fun g hg h => by have := (own5.out.has hg).1; omega).mono (by omega)
end Go.Proofs.YtknfpigaognklaaGreatDoor
namespace Go.Proofs.YtknfpigaognklaaGreatDoor
open Go.RowKit Go.Sort
theorem sHalf_any (n : Int) (w : World) : Calls Tryz.prog 194 #[.int .i64 n] w fun e w' => e = .returned (.bool (half n)) ∧ w = w' := by
  go_enter Tryz.func194, Tryz.ntmps194
  go_wp2
  go_ret
  exact ⟨ret_bool (by simp [half]), rfl⟩
set_option maxRecDepth 100000 in
set_option maxHeartbeats 4000000 in
theorem sRoom_any (ca : Option Addr) (cc : Nat) (ta : Option Addr) (tc : Nat) (ga : Option Addr) (gc : Nat) (gh : Nat → GH) (M : WorldM) (w : World) (hs : WA w ca ta ga gh M) (hF : FitG M) (hB : worldB M = true) :
    Calls Tryz.prog 164 #[.agg #[.int .i64 M.now, .slice ca M.cpus.length cc, .slice ta M.tasks.length tc, .slice ga M.groups.length gc]] w fun e w' => e = .returned (.bool (roomM M)) ∧ Below w.heap.size w w' := by
  have HWB := Lib.hid hB
  have HF := Lib.hid hF
  have hcm := hF.cpu
  have htm := hF.task
  have hgm := hF.group
  clear hB
  by_cases fN : half M.now = true
  · have FN := Lib.hid fN
    clear fN
    go_enter Tryz.func164, Tryz.ntmps164
    go_upto_region 1 with (fail)
    refine PA.gen (P := fun W => Code.wp _ _ _ _ W) hs ?_
    intro W b1 s1 pw
    have PW0 := Lib.hid pw
    obtain ⟨q0, q1, q2, q3, q4, q5⟩ := pw
    clear s1
    go_wp2_with (first | (go_at_call 23; refine (sWorldOk_any ca cc ta tc ga gc gh M _ q5 HF.out).mono ?_; rintro e w2 ⟨rfl, hb2⟩; rw [HWB.out]; have r1 := (hb2.cell (p := ⟨w.heap.size, 0, none⟩) q0).trans q1; have r2 := (hb2.cell (p := ⟨w.heap.size, 1, none⟩) q0).trans q2; have r3 := (hb2.cell (p := ⟨w.heap.size, 2, none⟩) q0).trans q3; have r4 := (hb2.cell (p := ⟨w.heap.size, 3, none⟩) q0).trans q4; have r0 := Nat.lt_of_lt_of_le q0 hb2.size) | (go_at_call 194; refine (sHalf_any _ _).mono ?_; rintro e w' ⟨rfl, rfl⟩; rw [FN.out]))
    have PW := Lib.hid (PW0.out.keep hb2)
    have B0 := Lib.hid (b1.andThen hb2)
    clear q0 q1 q2 q3 q4 q5 r0 r1 r2 r3 r4 PW0 b1 hb2 hs
    go_loopw [3] (fun i wr => ∃ k : Nat, k ≤ M.cpus.length ∧ i = .int .i64 k ∧ (M.cpus.take k).all roomC = true ∧ Below w2.heap.size w2 wr) (fun i _ => M.cpus.length - (intOf i).toNat)
    case atStart => exact ⟨0, Nat.zero_le _, rfl, by simp, Below.refl _ _⟩
    case round =>
      obtain ⟨k, hk, rfl, hall, hb⟩ := hrel
      have HA := Lib.hid hall
      have HB := Lib.hid hb
      obtain ⟨q0, q1, q2, q3, q4, q5⟩ := PW.out.keep hb
      clear hall hb
      by_cases hlt : k < M.cpus.length
      · obtain ⟨b, o, rfl, hB, c0, c1, c2, c3, c4⟩ := q5.cpu.at_ k hlt
        have i0 : (0 : Int) ≤ (k : Int) := by omega
        have i1 : (k : Int) < (M.cpus.length : Int) := by omega
        by_cases fH1 : half M.cpus[k].busy = true
        · have H1 := Lib.hid fH1
          clear fH1
          by_cases fH2 : half M.cpus[k].idle = true
          · have H2 := Lib.hid fH2
            clear fH2
            have H3 := Lib.hid (rfl : true = true)
            go_wp2_with (go_at_call 194; refine (sHalf_any _ _).mono ?_; rintro e w' ⟨rfl, rfl⟩; first | rw [H1.out] | rw [H2.out] | rw [H3.out])
            go_roundw
            case rel => exact ⟨k + 1, by omega, by go_num, all_snoc hlt HA.out (by simp only [roomC, H1.out, H2.out]; rfl), HB.out⟩
            case measure => simp [intOf]; omega
          · have H2 := Lib.hid (show half M.cpus[k].idle = false by simpa only [Bool.not_eq_true] using fH2)
            clear fH2
            have H3 := Lib.hid (rfl : true = true)
            have HN := Lib.hid (show M.cpus.all roomC = false from all_not hlt (by rw [roomC, H1.out, H2.out]; rfl))
            go_wp2_with (go_at_call 194; refine (sHalf_any _ _).mono ?_; rintro e w' ⟨rfl, rfl⟩; first | rw [H1.out] | rw [H2.out] | rw [H3.out])
            go_ret
            exact ⟨ret_bool (by rw [roomM, HN.out]; simp), B0.out.andThen HB.out⟩
        · have H1 := Lib.hid (show half M.cpus[k].busy = false by simpa only [Bool.not_eq_true] using fH1)
          clear fH1
          have H2 := Lib.hid (rfl : true = true)
          have H3 := Lib.hid (rfl : true = true)
          have HN := Lib.hid (show M.cpus.all roomC = false from all_not hlt (by rw [roomC, H1.out]; rfl))
          go_wp2_with (go_at_call 194; refine (sHalf_any _ _).mono ?_; rintro e w' ⟨rfl, rfl⟩; first | rw [H1.out] | rw [H2.out] | rw [H3.out])
          go_ret
          exact ⟨ret_bool (by rw [roomM, HN.out]; simp), B0.out.andThen HB.out⟩
      · obtain rfl : k = M.cpus.length := by omega
        have ALc := Lib.hid (show M.cpus.all roomC = true by rw [← HA.out, List.take_length])
        have B1 := Lib.hid (B0.out.andThen HB.out)
        have PX := Lib.hid (PW.out.keep HB.out)
        clear HA HB B0 PW
        have B0 := Lib.hid B1.out
        have PW := Lib.hid PX.out
        clear B1 PX
        go_wp2
        clear q0 q1 q2 q3 q4 q5
        obtain ⟨w3, hw3⟩ : ∃ w3, w3 = wr := ⟨wr, rfl⟩
        subst hw3
        go_loopw [4] (fun i wr => ∃ k : Nat, k ≤ M.tasks.length ∧ i = .int .i64 k ∧ (M.tasks.take k).all roomT = true ∧ Below w3.heap.size w3 wr) (fun i _ => M.tasks.length - (intOf i).toNat)
        case atStart => exact ⟨0, Nat.zero_le _, rfl, by simp, Below.refl _ _⟩
        case round =>
          obtain ⟨k, hk, rfl, hall, hb⟩ := hrel
          have HA := Lib.hid hall
          have HB := Lib.hid hb
          obtain ⟨q0, q1, q2, q3, q4, q5⟩ := PW.out.keep hb
          clear hall hb
          by_cases hlt : k < M.tasks.length
          · obtain ⟨b, o, rfl, hB, c0, c1, c2, c3, c4, c5, c6, c7, c8⟩ := q5.task.at_ k hlt
            have i0 : (0 : Int) ≤ (k : Int) := by omega
            have i1 : (k : Int) < (M.tasks.length : Int) := by omega
            by_cases fH1 : half M.tasks[k].v = true
            · have H1 := Lib.hid fH1
              clear fH1
              by_cases fH2 : half M.tasks[k].sum = true
              · have H2 := Lib.hid fH2
                clear fH2
                by_cases fH3 : half M.tasks[k].used = true
                · have H3 := Lib.hid fH3
                  clear fH3
                  go_wp2_with (go_at_call 194; refine (sHalf_any _ _).mono ?_; rintro e w' ⟨rfl, rfl⟩; first | rw [H1.out] | rw [H2.out] | rw [H3.out])
                  go_roundw
                  case rel => exact ⟨k + 1, by omega, by go_num, all_snoc hlt HA.out (by simp only [roomT, H1.out, H2.out, H3.out]; rfl), HB.out⟩
                  case measure => simp [intOf]; omega
                · have H3 := Lib.hid (show half M.tasks[k].used = false by simpa only [Bool.not_eq_true] using fH3)
                  clear fH3
                  have HN := Lib.hid (show M.tasks.all roomT = false from all_not hlt (by rw [roomT, H1.out, H2.out, H3.out]; rfl))
                  go_wp2_with (go_at_call 194; refine (sHalf_any _ _).mono ?_; rintro e w' ⟨rfl, rfl⟩; first | rw [H1.out] | rw [H2.out] | rw [H3.out])
                  go_ret
                  exact ⟨ret_bool (by rw [roomM, HN.out]; simp), B0.out.andThen HB.out⟩
              · have H2 := Lib.hid (show half M.tasks[k].sum = false by simpa only [Bool.not_eq_true] using fH2)
                clear fH2
                have H3 := Lib.hid (rfl : true = true)
                have HN := Lib.hid (show M.tasks.all roomT = false from all_not hlt (by rw [roomT, H1.out, H2.out]; rfl))
                go_wp2_with (go_at_call 194; refine (sHalf_any _ _).mono ?_; rintro e w' ⟨rfl, rfl⟩; first | rw [H1.out] | rw [H2.out] | rw [H3.out])
                go_ret
                exact ⟨ret_bool (by rw [roomM, HN.out]; simp), B0.out.andThen HB.out⟩
            · have H1 := Lib.hid (show half M.tasks[k].v = false by simpa only [Bool.not_eq_true] using fH1)
              clear fH1
              have H2 := Lib.hid (rfl : true = true)
              have H3 := Lib.hid (rfl : true = true)
              have HN := Lib.hid (show M.tasks.all roomT = false from all_not hlt (by rw [roomT, H1.out]; rfl))
              go_wp2_with (go_at_call 194; refine (sHalf_any _ _).mono ?_; rintro e w' ⟨rfl, rfl⟩; first | rw [H1.out] | rw [H2.out] | rw [H3.out])
              go_ret
              exact ⟨ret_bool (by rw [roomM, HN.out]; simp), B0.out.andThen HB.out⟩
          · obtain rfl : k = M.tasks.length := by omega
            have ALt := Lib.hid (show M.tasks.all roomT = true by rw [← HA.out, List.take_length])
            have B1 := Lib.hid (B0.out.andThen HB.out)
            have PX := Lib.hid (PW.out.keep HB.out)
            clear HA HB B0 PW
            have B0 := Lib.hid B1.out
            have PW := Lib.hid PX.out
            clear B1 PX
            go_wp2
            clear q0 q1 q2 q3 q4 q5
            obtain ⟨w4, hw4⟩ : ∃ w4, w4 = wr := ⟨wr, rfl⟩
            subst hw4
            go_loopw [5] (fun i wr => ∃ k : Nat, k ≤ M.groups.length ∧ i = .int .i64 k ∧ (M.groups.take k).all roomG = true ∧ Below w4.heap.size w4 wr) (fun i _ => M.groups.length - (intOf i).toNat)
            case atStart => exact ⟨0, Nat.zero_le _, rfl, by simp, Below.refl _ _⟩
            case round =>
              obtain ⟨k, hk, rfl, hall, hb⟩ := hrel
              obtain ⟨wk, hwk⟩ : ∃ wk, wk = wr := ⟨wr, rfl⟩
              subst hwk
              have HA := Lib.hid hall
              have HB := Lib.hid hb
              have PK := Lib.hid (PW.out.keep hb)
              obtain ⟨q0, q1, q2, q3, q4, q5⟩ := PW.out.keep hb
              clear hall hb
              by_cases hlt : k < M.groups.length
              · obtain ⟨b, o, rfl, hB, c0, c1, c2, c3, c4, c5, c6, c7, c8, c9, c10, c11, c12, c13⟩ := q5.group.at_ k hlt
                have SH := Lib.hid (q5.group.she k hlt)
                have i0 : (0 : Int) ≤ (k : Int) := by omega
                have i1 : (k : Int) < (M.groups.length : Int) := by omega
                have hsl : M.groups[k].shelves.length ≤ 1048576 := by have := HF.out.she k hlt; rw [← grp_eq hlt] at this; exact this
                have H2 := Lib.hid (rfl : true = true)
                have H3 := Lib.hid (rfl : true = true)
                by_cases f1 : half M.groups[k].sum = true
                · have H1 := Lib.hid f1
                  clear f1
                  clear c0 c1 c2 c3 c4 c5 c6 c8 c9 c10 c11 c12
                  go_wp2_with (go_at_call 194; refine (sHalf_any _ _).mono ?_; rintro e w' ⟨rfl, rfl⟩; first | rw [H1.out] | rw [H2.out] | rw [H3.out])
                  have C13 := Lib.hid c13
                  clear q0 q1 q2 q3 q4 q5 c7 c13
                  go_loopw [6] (fun i wr => ∃ c : Nat, c ≤ M.groups[k].shelves.length ∧ i = .int .i64 c ∧ (M.groups[k].shelves.take c).all roomS = true ∧ Below wk.heap.size wk wr) (fun i _ => M.groups[k].shelves.length - (intOf i).toNat)
                  case atStart => exact ⟨0, Nat.zero_le _, rfl, by simp, Below.refl _ _⟩
                  case round =>
                    obtain ⟨c, hc, rfl, hall2, hb2⟩ := hrel
                    have HA2 := Lib.hid hall2
                    have HB2 := Lib.hid hb2
                    obtain ⟨q0, q1, q2, q3, q4, q5⟩ := PK.out.keep hb2
                    have c13 := (hb2.cell (p := ⟨b, o + k * 14 + 13, none⟩) hB).trans C13.out
                    have hBr := Nat.lt_of_lt_of_le hB hb2.size
                    by_cases hlc : c < M.groups[k].shelves.length
                    · obtain ⟨b2, o2, hsa, hsb, s0, s1, s2, s3, s4⟩ := (SH.out.keep hb2).at_ c hlc
                      rw [hsa] at c13
                      have j0 : (0 : Int) ≤ (c : Int) := by omega
                      have j1 : (c : Int) < (M.groups[k].shelves.length : Int) := by omega
                      clear hall2 hb2 hsa
                      have HH1 := Lib.hid H1.out
                      clear H1 H2 H3
                      by_cases fH1 : half M.groups[k].shelves[c].floor = true
                      · have H1 := Lib.hid fH1
                        clear fH1
                        by_cases fH2 : half M.groups[k].shelves[c].v = true
                        · have H2 := Lib.hid fH2
                          clear fH2
                          by_cases fH3 : half M.groups[k].shelves[c].sum = true
                          · have H3 := Lib.hid fH3
                            clear fH3
                            go_wp2_with (go_at_call 194; refine (sHalf_any _ _).mono ?_; rintro e w' ⟨rfl, rfl⟩; first | rw [H1.out] | rw [H2.out] | rw [H3.out])
                            go_roundw
                            case rel => exact ⟨c + 1, by omega, by go_num, all_snoc hlc HA2.out (by simp only [roomS, H1.out, H2.out, H3.out]; rfl), HB2.out.alloc (by have := HB2.out.size; omega) _⟩
                            case measure => simp [intOf]; omega
                          · have H3 := Lib.hid (show half M.groups[k].shelves[c].sum = false by simpa only [Bool.not_eq_true] using fH3)
                            clear fH3
                            have HN := Lib.hid (show M.groups.all roomG = false from all_not hlt (by rw [roomG, HH1.out, all_not (p := roomS) hlc (by rw [roomS, H1.out, H2.out, H3.out]; rfl)]; rfl))
                            go_wp2_with (go_at_call 194; refine (sHalf_any _ _).mono ?_; rintro e w' ⟨rfl, rfl⟩; first | rw [H1.out] | rw [H2.out] | rw [H3.out])
                            go_ret
                            exact ⟨ret_bool (by rw [roomM, HN.out]; simp), (B0.out.andThen HB.out).andThen (HB2.out.alloc (by have := HB2.out.size; omega) _)⟩
                        · have H2 := Lib.hid (show half M.groups[k].shelves[c].v = false by simpa only [Bool.not_eq_true] using fH2)
                          clear fH2
                          have H3 := Lib.hid (rfl : true = true)
                          have HN := Lib.hid (show M.groups.all roomG = false from all_not hlt (by rw [roomG, HH1.out, all_not (p := roomS) hlc (by rw [roomS, H1.out, H2.out]; rfl)]; rfl))
                          go_wp2_with (go_at_call 194; refine (sHalf_any _ _).mono ?_; rintro e w' ⟨rfl, rfl⟩; first | rw [H1.out] | rw [H2.out] | rw [H3.out])
                          go_ret
                          exact ⟨ret_bool (by rw [roomM, HN.out]; simp), (B0.out.andThen HB.out).andThen (HB2.out.alloc (by have := HB2.out.size; omega) _)⟩
                      · have H1 := Lib.hid (show half M.groups[k].shelves[c].floor = false by simpa only [Bool.not_eq_true] using fH1)
                        clear fH1
                        have H2 := Lib.hid (rfl : true = true)
                        have H3 := Lib.hid (rfl : true = true)
                        have HN := Lib.hid (show M.groups.all roomG = false from all_not hlt (by rw [roomG, HH1.out, all_not (p := roomS) hlc (by rw [roomS, H1.out]; rfl)]; rfl))
                        go_wp2_with (go_at_call 194; refine (sHalf_any _ _).mono ?_; rintro e w' ⟨rfl, rfl⟩; first | rw [H1.out] | rw [H2.out] | rw [H3.out])
                        go_ret
                        exact ⟨ret_bool (by rw [roomM, HN.out]; simp), (B0.out.andThen HB.out).andThen (HB2.out.alloc (by have := HB2.out.size; omega) _)⟩
                    · obtain rfl : c = M.groups[k].shelves.length := by omega
                      have HG := Lib.hid (show roomG M.groups[k] = true by have e := HA2.out; rw [List.take_length] at e; rw [roomG, H1.out, e]; rfl)
                      clear hall2 hb2 H1 H2 H3
                      go_wp2
                      go_roundw
                      case rel => exact ⟨k + 1, by omega, by go_num, all_snoc hlt HA.out HG.out, HB.out.andThen HB2.out⟩
                      case measure => simp [intOf]; omega
                · have H1 := Lib.hid (show half M.groups[k].sum = false by simpa only [Bool.not_eq_true] using f1)
                  clear f1
                  have HN := Lib.hid (show M.groups.all roomG = false from all_not hlt (by rw [roomG, H1.out]; rfl))
                  clear c0 c1 c2 c3 c4 c5 c6 c8 c9 c10 c11 c12 c13
                  go_wp2_with (go_at_call 194; refine (sHalf_any _ _).mono ?_; rintro e w' ⟨rfl, rfl⟩; first | rw [H1.out] | rw [H2.out] | rw [H3.out])
                  go_ret
                  exact ⟨ret_bool (by rw [roomM, HN.out]; simp), B0.out.andThen HB.out⟩
              · obtain rfl : k = M.groups.length := by omega
                have HN := Lib.hid (show roomM M = true by have e := HA.out; rw [List.take_length] at e; rw [roomM, FN.out, ALc.out, ALt.out, e]; rfl)
                go_wp2
                go_ret
                exact ⟨ret_bool HN.out.symm, B0.out.andThen HB.out⟩
  · have FN := Lib.hid (show half M.now = false by simpa only [Bool.not_eq_true] using fN)
    clear fN
    go_enter Tryz.func164, Tryz.ntmps164
    go_upto_region 1 with (fail)
    refine PA.gen (P := fun W => Code.wp _ _ _ _ W) hs ?_
    intro W b1 s1 pw
    have PW0 := Lib.hid pw
    obtain ⟨q0, q1, q2, q3, q4, q5⟩ := pw
    clear s1
    go_wp2_with (first | (go_at_call 23; refine (sWorldOk_any ca cc ta tc ga gc gh M _ q5 HF.out).mono ?_; rintro e w2 ⟨rfl, hb2⟩; rw [HWB.out]; have r1 := (hb2.cell (p := ⟨w.heap.size, 0, none⟩) q0).trans q1; have r2 := (hb2.cell (p := ⟨w.heap.size, 1, none⟩) q0).trans q2; have r3 := (hb2.cell (p := ⟨w.heap.size, 2, none⟩) q0).trans q3; have r4 := (hb2.cell (p := ⟨w.heap.size, 3, none⟩) q0).trans q4; have r0 := Nat.lt_of_lt_of_le q0 hb2.size) | (go_at_call 194; refine (sHalf_any _ _).mono ?_; rintro e w' ⟨rfl, rfl⟩; rw [FN.out]))
    go_ret
    exact ⟨ret_bool (by rw [roomM, FN.out]; rfl), b1.andThen hb2⟩
end Go.Proofs.YtknfpigaognklaaGreatDoor
namespace Go.Proofs.YtknfpigaognklaaGreatDoor
open Go.RowKit Go.Sort
theorem Own.fin {wa wb : World} {B B' : Nat} {ca ta ga : Option Addr} {gh : Nat → GH} {M : WorldM} {S : Nat → Prop} (o : Own wa B' ca ta ga gh M) (k : Keep S wa wb) (hS : ∀ i, S i → i < B') (hB : B ≤ B') : Own wb B ca ta ga gh M :=
  (o.keep k fun g hg h => by have := (o.has hg).1; have := hS g h; omega).mono hB
theorem Own.wat {w : World} {B : Nat} {x : WH} {M : WorldM} (o : Own w B x.ca x.ta x.ga x.gh M) : WAt w x M := ⟨o.wa.cpu, o.wa.task, o.wa.group⟩
theorem watOf {w : World} {ca ta ga : Option Addr} {cc tc gc : Nat} {gh : Nat → GH} {M : WorldM} (hs : WA w ca ta ga gh M) : WAt w ⟨ca, cc, ta, tc, ga, gc, gh⟩ M := ⟨hs.cpu, hs.task, hs.group⟩
/-- bands whose rows are of one length -/
theorem band_len {M : WorldM} (h : worldB M = true) : ∀ k, k < M.groups.length → (grp M k).band.dry.length = (grp M k).band.locals.length := fun k hk => by
  have FA := facts_of h
  have hk8 : k < 8 := by have := FA.tree.len; omega
  by_cases hu : (grp M k).used = true
  · by_cases hq : (grp M k).band.quota = 0
    · simp only [worldB, worldL, Bool.and_eq_true] at h
      have := List.all_eq_true.1 h.2.1.1 k (List.mem_range.2 hk8)
      rw [groupB, if_pos hu] at this
      simp only [grpQ, if_pos hq, Bool.and_eq_true, noBand, beq_iff_eq] at this
      omega
    · have := FA.band k hk8 hu hq
      simp only [bandB, bandHead, Bool.and_eq_true, beq_iff_eq] at this
      omega
  · simp only [worldB, worldL, Bool.and_eq_true] at h
    have := List.all_eq_true.1 h.2.1.1 k (List.mem_range.2 hk8)
    rw [groupB, if_neg hu] at this
    simp only [grpZ, noBand, Bool.and_eq_true, beq_iff_eq] at this
    omega
set_option maxRecDepth 100000 in
set_option maxHeartbeats 4000000 in
theorem sBegin_no (ca : Option Addr) (cc : Nat) (ta : Option Addr) (tc : Nat) (ga : Option Addr) (gc : Nat) (gh : Nat → GH) (M : WorldM) (w : World) (hs : WA w ca ta ga gh M) (hf : WFit M) (hB : worldB M = false) :
    Calls Tryz.prog 107 #[.agg #[.int .i64 M.now, .slice ca M.cpus.length cc, .slice ta M.tasks.length tc, .slice ga M.groups.length gc]] w (WPost world0 1 w) := by
  have HWB := Lib.hid hB
  clear hB
  go_enter Tryz.func107, Tryz.ntmps107
  go_upto_region 1 with (fail)
  refine gen2 (p := fun W => Code.wp _ _ _ _ W) ?_
  intro W b1 s1 k0 k1
  have B1 := Lib.hid b1
  have K0 := Lib.hid k0
  have K1 := Lib.hid k1
  have hs1 := hs.keep b1
  clear b1 k0 k1 hs
  have c0 := K0.out.cell 0
  have c1 := K0.out.cell 1
  have c2 := K0.out.cell 2
  have c3 := K0.out.cell 3
  have cf := fun i => K0.out.frozen i
  simp at c0 c1 c2 c3
  go_wp2_with fail
  refine (sWorldOk_any ca cc ta tc ga gc gh M _ hs1 (fitG_of hf)).mono ?_
  rintro e w2 ⟨rfl, hb2⟩
  rw [HWB.out]
  have K1b := Lib.hid (K1.out.below hb2 K1.out.lt)
  clear c0 c1 c2 c3 cf
  have d0 := K1b.out.cell 0
  have d1 := K1b.out.cell 1
  have d2 := K1b.out.cell 2
  have d3 := K1b.out.cell 3
  have df := fun i => K1b.out.frozen i
  simp at d0 d1 d2 d3
  go_wp2
  refine bodyPost_ret (v := .tuple #[.agg #[.int .i64 0, .slice none 0 0, .slice none 0 0, .slice none 0 0], .int .i64 1]) (by simp [results, Tryz.results107, go_sem, *]) rfl ⟨⟨none, 0, none, 0, none, 0, gh⟩, rfl, ?_, own0 _ _ _⟩
  exact ((((B1.out.andThen hb2).setCell (by simp) _).setCell (by simp) _).setCell (by simp) _).setCell (by simp) _
set_option maxRecDepth 100000 in
set_option maxHeartbeats 4000000 in
theorem sBegin_yes (ca : Option Addr) (cc : Nat) (ta : Option Addr) (tc : Nat) (ga : Option Addr) (gc : Nat) (gh : Nat → GH) (M : WorldM) (w : World) (hs : WA w ca ta ga gh M) (hf : WFit M) (hB : worldB M = true) (hR : roomM M = true) :
    Calls Tryz.prog 107 #[.agg #[.int .i64 M.now, .slice ca M.cpus.length cc, .slice ta M.tasks.length tc, .slice ga M.groups.length gc]] w (WPost M 0 w) := by
  have HWB := Lib.hid hB
  have HRM := Lib.hid hR
  clear hB hR
  go_enter Tryz.func107, Tryz.ntmps107
  go_upto_region 1 with (fail)
  refine gen2 (p := fun W => Code.wp _ _ _ _ W) ?_
  intro W b1 s1 k0 k1
  have B1 := Lib.hid b1
  have K0 := Lib.hid k0
  have K1 := Lib.hid k1
  have S1 := Lib.hid s1
  have hs1 := hs.keep b1
  clear b1 k0 k1 hs s1
  have c0 := K0.out.cell 0
  have c1 := K0.out.cell 1
  have c2 := K0.out.cell 2
  have c3 := K0.out.cell 3
  have cf := fun i => K0.out.frozen i
  simp at c0 c1 c2 c3
  go_wp2_with fail
  refine (sWorldOk_any ca cc ta tc ga gc gh M _ hs1 (fitG_of hf)).mono ?_
  rintro e w2 ⟨rfl, hb2⟩
  rw [HWB.out]
  have K0b := Lib.hid (K0.out.below hb2 K0.out.lt)
  have K1b := Lib.hid (K1.out.below hb2 K1.out.lt)
  have hs2 := hs1.keep hb2
  have B2 := Lib.hid (B1.out.andThen hb2)
  have Z2 := Lib.hid hb2.size
  clear c0 c1 c2 c3 cf
  clear hs1 hb2 K0 K1 B1
  have c0 := K0b.out.cell 0
  have c1 := K0b.out.cell 1
  have c2 := K0b.out.cell 2
  have c3 := K0b.out.cell 3
  have cf := fun i => K0b.out.frozen i
  simp at c0 c1 c2 c3
  go_wp2_with fail
  refine (sL8Own_any ⟨ca, cc, ta, tc, ga, gc, gh⟩ M _ (watOf hs2) hf (band_len HWB.out)).mono ?_
  rintro e w3 ⟨x, rfl, hb3, ow⟩
  have K0c := Lib.hid (K0b.out.below hb3 K0b.out.lt)
  have K1c := Lib.hid (K1b.out.below hb3 K1b.out.lt)
  have B3 := Lib.hid (B2.out.andThen hb3)
  have OW := Lib.hid ow
  clear c0 c1 c2 c3 cf
  clear hs2 hb3 ow K0b K1b B2
  have c0 := K0c.out.cell 0
  have c1 := K0c.out.cell 1
  have c2 := K0c.out.cell 2
  have c3 := K0c.out.cell 3
  have cf := fun i => K0c.out.frozen i
  simp at c0 c1 c2 c3
  go_upto_region 4 with (fail)
  refine genW (p := fun W => Code.wp _ _ _ _ W) ?_
  intro w4 hw4
  have KE := Lib.hid (show Keep (fun j => j = w.heap.size) w3 w4 by rw [← hw4]; exact ((((Keep.set _ _ _ (by rfl)).trans (Keep.set _ _ _ (by rfl))).trans (Keep.set _ _ _ (by rfl))).trans (Keep.set _ _ _ (by rfl))))
  have K0d := Lib.hid (show Blk w4 w.heap.size 33 #[.int .i64 M.now, .slice x.ca M.cpus.length x.cc, .slice x.ta M.tasks.length x.tc, .slice x.ga M.groups.length x.gc] by rw [← hw4]; exact ((((K0c.out.set_ 0 _).set_ 1 _).set_ 2 _).set_ 3 _))
  have K1d := Lib.hid (KE.out.blk K1c.out (by omega))
  have OW4 := Lib.hid (OW.out.fin (B := w2.heap.size) KE.out (fun i h => by have := Z2.out; have := S1.out; omega) (Nat.le_refl _))
  have B4 := Lib.hid (B3.out.trans (KE.out.below B3.out.size fun i h => by omega))
  clear hw4 KE K0c K1c OW B3
  clear c0 c1 c2 c3 cf
  have c0 := K0d.out.cell 0
  have c1 := K0d.out.cell 1
  have c2 := K0d.out.cell 2
  have c3 := K0d.out.cell 3
  have cf := fun i => K0d.out.frozen i
  simp at c0 c1 c2 c3
  go_wp2_with fail
  refine (sRoom_any x.ca x.cc x.ta x.tc x.ga x.gc x.gh M _ OW4.out.wa (fitG_of hf) HWB.out).mono ?_
  rintro e w5 ⟨rfl, hb5⟩
  rw [HRM.out]
  have K0e := Lib.hid (K0d.out.below hb5 K0d.out.lt)
  have K1e := Lib.hid (K1d.out.below hb5 K1d.out.lt)
  have OW5 := Lib.hid (OW4.out.below hb5)
  have B5 := Lib.hid (B4.out.andThen hb5)
  clear c0 c1 c2 c3 cf
  clear hb5 K0d K1d OW4 B4
  have c0 := K0e.out.cell 0
  have c1 := K0e.out.cell 1
  have c2 := K0e.out.cell 2
  have c3 := K0e.out.cell 3
  have cf := fun i => K0e.out.frozen i
  simp at c0 c1 c2 c3
  have d0 := K1e.out.cell 0
  have d1 := K1e.out.cell 1
  have d2 := K1e.out.cell 2
  have d3 := K1e.out.cell 3
  have df := fun i => K1e.out.frozen i
  simp at d0 d1 d2 d3
  go_wp2
  have kk := Lib.hid (show Keep (fun i => i = w.heap.size + 1) w5 ((((w5.setCell ⟨w.heap.size + 1, 0, none⟩ (.int .i64 M.now)).setCell ⟨w.heap.size + 1, 1, none⟩ (.slice x.ca M.cpus.length x.cc)).setCell ⟨w.heap.size + 1, 2, none⟩ (.slice x.ta M.tasks.length x.tc)).setCell ⟨w.heap.size + 1, 3, none⟩ (.slice x.ga M.groups.length x.gc)) from ((((Keep.set _ _ _ (by rfl)).trans (Keep.set _ _ _ (by rfl))).trans (Keep.set _ _ _ (by rfl))).trans (Keep.set _ _ _ (by rfl))))
  refine bodyPost_ret (v := .tuple #[.agg #[.int .i64 M.now, .slice x.ca M.cpus.length x.cc, .slice x.ta M.tasks.length x.tc, .slice x.ga M.groups.length x.gc], .int .i64 0]) (by simp [results, Tryz.results107, go_sem, *]) rfl ⟨x, rfl, B5.out.trans (kk.out.below B5.out.size fun i h => by omega), ?_⟩
  exact OW5.out.fin kk.out (fun i h => by have := Z2.out; have := S1.out; omega) (by have := Z2.out; have := S1.out; omega)
set_option maxRecDepth 100000 in
set_option maxHeartbeats 4000000 in
theorem sBegin_end (ca : Option Addr) (cc : Nat) (ta : Option Addr) (tc : Nat) (ga : Option Addr) (gc : Nat) (gh : Nat → GH) (M : WorldM) (w : World) (hs : WA w ca ta ga gh M) (hf : WFit M) (hB : worldB M = true) (hR : roomM M = false) :
    Calls Tryz.prog 107 #[.agg #[.int .i64 M.now, .slice ca M.cpus.length cc, .slice ta M.tasks.length tc, .slice ga M.groups.length gc]] w (WPost M 10 w) := by
  have HWB := Lib.hid hB
  have HRM := Lib.hid hR
  clear hB hR
  go_enter Tryz.func107, Tryz.ntmps107
  go_upto_region 1 with (fail)
  refine gen2 (p := fun W => Code.wp _ _ _ _ W) ?_
  intro W b1 s1 k0 k1
  have B1 := Lib.hid b1
  have K0 := Lib.hid k0
  have K1 := Lib.hid k1
  have S1 := Lib.hid s1
  have hs1 := hs.keep b1
  clear b1 k0 k1 hs s1
  have c0 := K0.out.cell 0
  have c1 := K0.out.cell 1
  have c2 := K0.out.cell 2
  have c3 := K0.out.cell 3
  have cf := fun i => K0.out.frozen i
  simp at c0 c1 c2 c3
  go_wp2_with fail
  refine (sWorldOk_any ca cc ta tc ga gc gh M _ hs1 (fitG_of hf)).mono ?_
  rintro e w2 ⟨rfl, hb2⟩
  rw [HWB.out]
  have K0b := Lib.hid (K0.out.below hb2 K0.out.lt)
  have K1b := Lib.hid (K1.out.below hb2 K1.out.lt)
  have hs2 := hs1.keep hb2
  have B2 := Lib.hid (B1.out.andThen hb2)
  have Z2 := Lib.hid hb2.size
  clear c0 c1 c2 c3 cf
  clear hs1 hb2 K0 K1 B1
  have c0 := K0b.out.cell 0
  have c1 := K0b.out.cell 1
  have c2 := K0b.out.cell 2
  have c3 := K0b.out.cell 3
  have cf := fun i => K0b.out.frozen i
  simp at c0 c1 c2 c3
  go_wp2_with fail
  refine (sL8Own_any ⟨ca, cc, ta, tc, ga, gc, gh⟩ M _ (watOf hs2) hf (band_len HWB.out)).mono ?_
  rintro e w3 ⟨x, rfl, hb3, ow⟩
  have K0c := Lib.hid (K0b.out.below hb3 K0b.out.lt)
  have K1c := Lib.hid (K1b.out.below hb3 K1b.out.lt)
  have B3 := Lib.hid (B2.out.andThen hb3)
  have OW := Lib.hid ow
  clear c0 c1 c2 c3 cf
  clear hs2 hb3 ow K0b K1b B2
  have c0 := K0c.out.cell 0
  have c1 := K0c.out.cell 1
  have c2 := K0c.out.cell 2
  have c3 := K0c.out.cell 3
  have cf := fun i => K0c.out.frozen i
  simp at c0 c1 c2 c3
  go_upto_region 4 with (fail)
  refine genW (p := fun W => Code.wp _ _ _ _ W) ?_
  intro w4 hw4
  have KE := Lib.hid (show Keep (fun j => j = w.heap.size) w3 w4 by rw [← hw4]; exact ((((Keep.set _ _ _ (by rfl)).trans (Keep.set _ _ _ (by rfl))).trans (Keep.set _ _ _ (by rfl))).trans (Keep.set _ _ _ (by rfl))))
  have K0d := Lib.hid (show Blk w4 w.heap.size 33 #[.int .i64 M.now, .slice x.ca M.cpus.length x.cc, .slice x.ta M.tasks.length x.tc, .slice x.ga M.groups.length x.gc] by rw [← hw4]; exact ((((K0c.out.set_ 0 _).set_ 1 _).set_ 2 _).set_ 3 _))
  have K1d := Lib.hid (KE.out.blk K1c.out (by omega))
  have OW4 := Lib.hid (OW.out.fin (B := w2.heap.size) KE.out (fun i h => by have := Z2.out; have := S1.out; omega) (Nat.le_refl _))
  have B4 := Lib.hid (B3.out.trans (KE.out.below B3.out.size fun i h => by omega))
  clear hw4 KE K0c K1c OW B3
  clear c0 c1 c2 c3 cf
  have c0 := K0d.out.cell 0
  have c1 := K0d.out.cell 1
  have c2 := K0d.out.cell 2
  have c3 := K0d.out.cell 3
  have cf := fun i => K0d.out.frozen i
  simp at c0 c1 c2 c3
  go_wp2_with fail
  refine (sRoom_any x.ca x.cc x.ta x.tc x.ga x.gc x.gh M _ OW4.out.wa (fitG_of hf) HWB.out).mono ?_
  rintro e w5 ⟨rfl, hb5⟩
  rw [HRM.out]
  have K0e := Lib.hid (K0d.out.below hb5 K0d.out.lt)
  have K1e := Lib.hid (K1d.out.below hb5 K1d.out.lt)
  have OW5 := Lib.hid (OW4.out.below hb5)
  have B5 := Lib.hid (B4.out.andThen hb5)
  clear c0 c1 c2 c3 cf
  clear hb5 K0d K1d OW4 B4
  have c0 := K0e.out.cell 0
  have c1 := K0e.out.cell 1
  have c2 := K0e.out.cell 2
  have c3 := K0e.out.cell 3
  have cf := fun i => K0e.out.frozen i
  simp at c0 c1 c2 c3
  have d0 := K1e.out.cell 0
  have d1 := K1e.out.cell 1
  have d2 := K1e.out.cell 2
  have d3 := K1e.out.cell 3
  have df := fun i => K1e.out.frozen i
  simp at d0 d1 d2 d3
  go_wp2
  have kk := Lib.hid (show Keep (fun i => i = w.heap.size + 1) w5 ((((w5.setCell ⟨w.heap.size + 1, 0, none⟩ (.int .i64 M.now)).setCell ⟨w.heap.size + 1, 1, none⟩ (.slice x.ca M.cpus.length x.cc)).setCell ⟨w.heap.size + 1, 2, none⟩ (.slice x.ta M.tasks.length x.tc)).setCell ⟨w.heap.size + 1, 3, none⟩ (.slice x.ga M.groups.length x.gc)) from ((((Keep.set _ _ _ (by rfl)).trans (Keep.set _ _ _ (by rfl))).trans (Keep.set _ _ _ (by rfl))).trans (Keep.set _ _ _ (by rfl))))
  refine bodyPost_ret (v := .tuple #[.agg #[.int .i64 M.now, .slice x.ca M.cpus.length x.cc, .slice x.ta M.tasks.length x.tc, .slice x.ga M.groups.length x.gc], .int .i64 10]) (by simp [results, Tryz.results107, go_sem, *]) rfl ⟨x, rfl, B5.out.trans (kk.out.below B5.out.size fun i h => by omega), ?_⟩
  exact OW5.out.fin kk.out (fun i h => by have := Z2.out; have := S1.out; omega) (by have := Z2.out; have := S1.out; omega)
set_option maxRecDepth 100000 in
set_option maxHeartbeats 4000000 in
theorem sHolds_any (ca : Option Addr) (cc : Nat) (ta : Option Addr) (tc : Nat) (ga : Option Addr) (gc : Nat) (gh : Nat → GH) (M : WorldM) (w : World) (hs : WA w ca ta ga gh M) (hF : FitG M) (hl : M.groups.length = 8) (g : Nat) (hg : g < 8) :
    Calls Tryz.prog 93 #[.agg #[.int .i64 M.now, .slice ca M.cpus.length cc, .slice ta M.tasks.length tc, .slice ga M.groups.length gc], .int .i64 g] w fun e w' => e = .returned (.bool (kidsB M g || memsB M g)) ∧ Below w.heap.size w w' := by
  have HL := Lib.hid hl
  have hgm := hF.group
  have htm := hF.task
  have g0 : (0 : Int) ≤ (g : Int) := by omega
  clear hl
  go_enter Tryz.func93, Tryz.ntmps93
  go_upto_region 1 with (fail)
  refine PA.gen (P := fun W => Code.wp _ _ _ _ W) hs ?_
  intro W b1 s1 pw
  obtain ⟨q0, q1, q2, q3, q4, q5⟩ := pw
  clear s1
  go_wp2
  go_loopw [5] (fun i wr => ∃ k : Nat, 1 ≤ k ∧ k ≤ M.groups.length ∧ i = .int .i64 k ∧ (List.range k).any (kidB M g) = false ∧ W = wr) (fun i _ => M.groups.length - (intOf i).toNat)
  case atStart => exact ⟨1, Nat.le_refl _, by have := HL.out; omega, rfl, rfl, rfl⟩
  case round =>
    obtain ⟨k, h1, hk, rfl, hany, rfl⟩ := hrel
    have HA := Lib.hid hany
    clear hany
    by_cases hlt : k < M.groups.length
    · obtain ⟨b, o, rfl, hB, c0, c1, _⟩ := q5.group_ hlt
      have i0 : (0 : Int) ≤ (k : Int) := by omega
      have i1 : (k : Int) < (M.groups.length : Int) := by omega
      by_cases hu : (grp M k).used = true
      · rw [hu] at c0
        have HU := Lib.hid hu
        clear hu
        by_cases hp : (grp M k).parent = (g : Int)
        · rw [hp] at c1
          have HK := Lib.hid (show kidB M g k = true by simp only [kidB, HU.out, hp, beq_self_eq_true, Bool.and_true, bne_iff_ne]; omega)
          clear hp
          go_wp2
          go_ret
          exact ⟨ret_bool (by rw [kidsB, any_of hlt HK.out]; rfl), b1⟩
        · have HK := Lib.hid (show kidB M g k = false by simp [kidB, hp])
          have hp2 : ((grp M k).parent == (g : Int)) = false := by simpa using hp
          generalize (grp M k).parent = P at *
          go_wp2
          go_roundw
          case rel => exact ⟨k + 1, by omega, by omega, by go_num, by rw [any_succ, HA.out, HK.out]; rfl, by first | rfl | trivial⟩
          case measure => simp [intOf]; omega
      · have hu' : (grp M k).used = false := by simpa using hu
        rw [hu'] at c0
        have HK := Lib.hid (show kidB M g k = false by simp [kidB, hu'])
        clear hu hu'
        go_wp2
        go_roundw
        case rel => exact ⟨k + 1, by omega, by omega, by go_num, by rw [any_succ, HA.out, HK.out]; rfl, by first | rfl | trivial⟩
        case measure => simp [intOf]; omega
    · obtain rfl : k = M.groups.length := by omega
      have HKS := Lib.hid (show kidsB M g = false from HA.out)
      clear HA hk h1
      go_wp2
      clear hlt
      go_loopw [6] (fun i wr => ∃ k : Nat, k ≤ M.tasks.length ∧ i = .int .i64 k ∧ (List.range k).any (memB M g) = false ∧ W = wr) (fun i _ => M.tasks.length - (intOf i).toNat)
      case atStart => exact ⟨0, Nat.zero_le _, rfl, rfl, rfl⟩
      case round =>
        obtain ⟨k, hk, rfl, hany, rfl⟩ := hrel
        have HA := Lib.hid hany
        clear hany
        by_cases hlt : k < M.tasks.length
        · obtain ⟨b, o, rfl, hB, c0, c1, _⟩ := q5.task_ hlt
          have i0 : (0 : Int) ≤ (k : Int) := by omega
          have i1 : (k : Int) < (M.tasks.length : Int) := by omega
          by_cases hu : (tsk M k).st = 0
          · rw [hu] at c0
            have HK := Lib.hid (show memB M g k = false by simp [memB, hu])
            clear hu
            go_wp2
            go_roundw
            case rel => exact ⟨k + 1, by omega, by go_num, by rw [any_succ, HA.out, HK.out]; rfl, by first | rfl | trivial⟩
            case measure => simp [intOf]; omega
          · have hu2 : ((tsk M k).st == 0) = false := by simpa using hu
            have HU := Lib.hid hu2
            generalize hst : (tsk M k).st = ST at *
            by_cases hp : (tsk M k).gr = (g : Int)
            · rw [hp] at c1
              have HK := Lib.hid (show memB M g k = true by simp only [memB, hst, HU.out, hp, beq_self_eq_true]; rfl)
              clear hp hst
              go_wp2
              go_ret
              exact ⟨ret_bool (by rw [HKS.out, memsB, any_of hlt HK.out]; rfl), b1⟩
            · have HK := Lib.hid (show memB M g k = false by simp [memB, hp])
              have hp2 : ((tsk M k).gr == (g : Int)) = false := by simpa using hp
              generalize (tsk M k).gr = P at *
              clear hst
              go_wp2
              go_roundw
              case rel => exact ⟨k + 1, by omega, by go_num, by rw [any_succ, HA.out, HK.out]; rfl, by first | rfl | trivial⟩
              case measure => simp [intOf]; omega
        · obtain rfl : k = M.tasks.length := by omega
          have HMS := Lib.hid (show memsB M g = false from HA.out)
          go_wp2
          go_ret
          exact ⟨ret_bool (by rw [HKS.out, HMS.out]; rfl), b1⟩
set_option maxRecDepth 100000 in
set_option maxHeartbeats 4000000 in
theorem sBegin11_yes0 (ca : Option Addr) (cc : Nat) (ta : Option Addr) (tc : Nat) (ga : Option Addr) (gc : Nat) (gh : Nat → GH) (M : WorldM) (w : World) (hs : WA w ca ta ga gh M) (hf : WFit M) (hB : worldB M = true) (hR : roomM M = true) (g : Nat) (hg : g = 0) (hu : usedI M g = true) :
    Calls Tryz.prog 92 #[.agg #[.int .i64 M.now, .slice ca M.cpus.length cc, .slice ta M.tasks.length tc, .slice ga M.groups.length gc], .int .i64 g, .bool true] w (WPost M 1 w) := by
  have HWB := Lib.hid hB
  have HRM := Lib.hid hR
  have HU := Lib.hid hu
  clear hB hR hu
  subst hg
  go_enter Tryz.func92, Tryz.ntmps92
  go_upto_region 1 with (fail)
  refine gen2 (p := fun W => Code.wp _ _ _ _ W) ?_
  intro W b1 s1 k0 k1
  have B1 := Lib.hid b1
  have K0 := Lib.hid k0
  have K1 := Lib.hid k1
  have S1 := Lib.hid s1
  have hs1 := hs.keep b1
  clear b1 k0 k1 hs s1
  have c0 := K0.out.cell 0
  have c1 := K0.out.cell 1
  have c2 := K0.out.cell 2
  have c3 := K0.out.cell 3
  have cf := fun i => K0.out.frozen i
  simp at c0 c1 c2 c3
  go_wp2_with fail
  refine (sBegin_yes ca cc ta tc ga gc gh M _ hs1 hf HWB.out HRM.out).mono ?_
  rintro e w3 ⟨x, rfl, hb3, ow⟩
  have K0c := Lib.hid (K0.out.below hb3 K0.out.lt)
  have K1c := Lib.hid (K1.out.below hb3 K1.out.lt)
  have B3 := Lib.hid (B1.out.andThen hb3)
  have OW := Lib.hid ow
  clear c0 c1 c2 c3 cf
  clear hs1 hb3 ow K0 K1 B1
  have c0 := K0c.out.cell 0
  have c1 := K0c.out.cell 1
  have c2 := K0c.out.cell 2
  have c3 := K0c.out.cell 3
  have cf := fun i => K0c.out.frozen i
  simp at c0 c1 c2 c3
  go_upto_region 2 with (fail)
  refine genW (p := fun W => Code.wp _ _ _ _ W) ?_
  intro w4 hw4
  have KE := Lib.hid (show Keep (fun j => j = w.heap.size) w3 w4 by rw [← hw4]; exact ((((Keep.set _ _ _ (by rfl)).trans (Keep.set _ _ _ (by rfl))).trans (Keep.set _ _ _ (by rfl))).trans (Keep.set _ _ _ (by rfl))))
  have K0d := Lib.hid (show Blk w4 w.heap.size 33 #[.int .i64 M.now, .slice x.ca M.cpus.length x.cc, .slice x.ta M.tasks.length x.tc, .slice x.ga M.groups.length x.gc] by rw [← hw4]; exact ((((K0c.out.set_ 0 _).set_ 1 _).set_ 2 _).set_ 3 _))
  have K1d := Lib.hid (KE.out.blk K1c.out (by omega))
  have OW4 := Lib.hid (OW.out.fin (B := W.heap.size) KE.out (fun i h => by have := S1.out; omega) (Nat.le_refl _))
  have B4 := Lib.hid (B3.out.trans (KE.out.below B3.out.size fun i h => by omega))
  clear hw4 KE K0c K1c OW B3
  clear c0 c1 c2 c3 cf
  have c0 := K0d.out.cell 0
  have c1 := K0d.out.cell 1
  have c2 := K0d.out.cell 2
  have c3 := K0d.out.cell 3
  have cf := fun i => K0d.out.frozen i
  simp at c0 c1 c2 c3
  have d0 := K1d.out.cell 0
  have d1 := K1d.out.cell 1
  have d2 := K1d.out.cell 2
  have d3 := K1d.out.cell 3
  have df := fun i => K1d.out.frozen i
  simp at d0 d1 d2 d3
  go_wp2
  have kk := Lib.hid (show Keep (fun i => i = w.heap.size + 1) w4 ((((w4.setCell ⟨w.heap.size + 1, 0, none⟩ (.int .i64 M.now)).setCell ⟨w.heap.size + 1, 1, none⟩ (.slice x.ca M.cpus.length x.cc)).setCell ⟨w.heap.size + 1, 2, none⟩ (.slice x.ta M.tasks.length x.tc)).setCell ⟨w.heap.size + 1, 3, none⟩ (.slice x.ga M.groups.length x.gc)) from ((((Keep.set _ _ _ (by rfl)).trans (Keep.set _ _ _ (by rfl))).trans (Keep.set _ _ _ (by rfl))).trans (Keep.set _ _ _ (by rfl))))
  refine bodyPost_ret (v := .tuple #[.agg #[.int .i64 M.now, .slice x.ca M.cpus.length x.cc, .slice x.ta M.tasks.length x.tc, .slice x.ga M.groups.length x.gc], .int .i64 1]) (by simp [results, Tryz.results92, go_sem, *]) rfl ⟨x, rfl, B4.out.trans (kk.out.below B4.out.size fun i h => by omega), ?_⟩
  exact OW4.out.fin kk.out (fun i h => by have := S1.out; omega) (by have := S1.out; omega)
set_option maxRecDepth 100000 in
set_option maxHeartbeats 4000000 in
theorem sBegin11_yes1 (ca : Option Addr) (cc : Nat) (ta : Option Addr) (tc : Nat) (ga : Option Addr) (gc : Nat) (gh : Nat → GH) (M : WorldM) (w : World) (hs : WA w ca ta ga gh M) (hf : WFit M) (hB : worldB M = true) (hR : roomM M = true) (g : Nat) (hg : g ≠ 0) (hu : usedI M g = true) :
    Calls Tryz.prog 92 #[.agg #[.int .i64 M.now, .slice ca M.cpus.length cc, .slice ta M.tasks.length tc, .slice ga M.groups.length gc], .int .i64 g, .bool true] w (WPost M 0 w) := by
  have HWB := Lib.hid hB
  have HRM := Lib.hid hR
  have HU := Lib.hid hu
  clear hB hR hu
  have hg0 : ((g : Int) == 0) = false := by simpa using hg
  have hgi : (1 : Int) ≤ (g : Int) := by omega
  clear hg
  go_enter Tryz.func92, Tryz.ntmps92
  go_upto_region 1 with (fail)
  refine gen2 (p := fun W => Code.wp _ _ _ _ W) ?_
  intro W b1 s1 k0 k1
  have B1 := Lib.hid b1
  have K0 := Lib.hid k0
  have K1 := Lib.hid k1
  have S1 := Lib.hid s1
  have hs1 := hs.keep b1
  clear b1 k0 k1 hs s1
  have c0 := K0.out.cell 0
  have c1 := K0.out.cell 1
  have c2 := K0.out.cell 2
  have c3 := K0.out.cell 3
  have cf := fun i => K0.out.frozen i
  simp at c0 c1 c2 c3
  go_wp2_with fail
  refine (sBegin_yes ca cc ta tc ga gc gh M _ hs1 hf HWB.out HRM.out).mono ?_
  rintro e w3 ⟨x, rfl, hb3, ow⟩
  have K0c := Lib.hid (K0.out.below hb3 K0.out.lt)
  have K1c := Lib.hid (K1.out.below hb3 K1.out.lt)
  have B3 := Lib.hid (B1.out.andThen hb3)
  have OW := Lib.hid ow
  clear c0 c1 c2 c3 cf
  clear hs1 hb3 ow K0 K1 B1
  have c0 := K0c.out.cell 0
  have c1 := K0c.out.cell 1
  have c2 := K0c.out.cell 2
  have c3 := K0c.out.cell 3
  have cf := fun i => K0c.out.frozen i
  simp at c0 c1 c2 c3
  go_upto_region 2 with (fail)
  refine genW (p := fun W => Code.wp _ _ _ _ W) ?_
  intro w4 hw4
  have KE := Lib.hid (show Keep (fun j => j = w.heap.size) w3 w4 by rw [← hw4]; exact ((((Keep.set _ _ _ (by rfl)).trans (Keep.set _ _ _ (by rfl))).trans (Keep.set _ _ _ (by rfl))).trans (Keep.set _ _ _ (by rfl))))
  have K0d := Lib.hid (show Blk w4 w.heap.size 33 #[.int .i64 M.now, .slice x.ca M.cpus.length x.cc, .slice x.ta M.tasks.length x.tc, .slice x.ga M.groups.length x.gc] by rw [← hw4]; exact ((((K0c.out.set_ 0 _).set_ 1 _).set_ 2 _).set_ 3 _))
  have K1d := Lib.hid (KE.out.blk K1c.out (by omega))
  have OW4 := Lib.hid (OW.out.fin (B := W.heap.size) KE.out (fun i h => by have := S1.out; omega) (Nat.le_refl _))
  have B4 := Lib.hid (B3.out.trans (KE.out.below B3.out.size fun i h => by omega))
  clear hw4 KE K0c K1c OW B3
  clear c0 c1 c2 c3 cf
  have c0 := K0d.out.cell 0
  have c1 := K0d.out.cell 1
  have c2 := K0d.out.cell 2
  have c3 := K0d.out.cell 3
  have cf := fun i => K0d.out.frozen i
  simp at c0 c1 c2 c3
  have HUS := Lib.hid (sl6Used_any x.ca x.ta x.ga x.gc x.gh M w4 OW4.out.wa (g : Int))
  go_wp2_with fail
  refine HUS.out.mono ?_
  rintro e w5 ⟨rfl, rfl⟩
  rw [HU.out]
  have d0 := K1d.out.cell 0
  have d1 := K1d.out.cell 1
  have d2 := K1d.out.cell 2
  have d3 := K1d.out.cell 3
  have df := fun i => K1d.out.frozen i
  simp at d0 d1 d2 d3
  go_wp2
  have kk := Lib.hid (show Keep (fun i => i = w.heap.size + 1) w4 ((((w4.setCell ⟨w.heap.size + 1, 0, none⟩ (.int .i64 M.now)).setCell ⟨w.heap.size + 1, 1, none⟩ (.slice x.ca M.cpus.length x.cc)).setCell ⟨w.heap.size + 1, 2, none⟩ (.slice x.ta M.tasks.length x.tc)).setCell ⟨w.heap.size + 1, 3, none⟩ (.slice x.ga M.groups.length x.gc)) from ((((Keep.set _ _ _ (by rfl)).trans (Keep.set _ _ _ (by rfl))).trans (Keep.set _ _ _ (by rfl))).trans (Keep.set _ _ _ (by rfl))))
  refine bodyPost_ret (v := .tuple #[.agg #[.int .i64 M.now, .slice x.ca M.cpus.length x.cc, .slice x.ta M.tasks.length x.tc, .slice x.ga M.groups.length x.gc], .int .i64 0]) (by simp [results, Tryz.results92, go_sem, *]) rfl ⟨x, rfl, B4.out.trans (kk.out.below B4.out.size fun i h => by omega), ?_⟩
  exact OW4.out.fin kk.out (fun i h => by have := S1.out; omega) (by have := S1.out; omega)
set_option maxRecDepth 100000 in
set_option maxHeartbeats 4000000 in
theorem sBegin11_end0 (ca : Option Addr) (cc : Nat) (ta : Option Addr) (tc : Nat) (ga : Option Addr) (gc : Nat) (gh : Nat → GH) (M : WorldM) (w : World) (hs : WA w ca ta ga gh M) (hf : WFit M) (hB : worldB M = true) (hR : roomM M = false) (g : Nat) (hg : g = 0) (hu : usedI M g = true) :
    Calls Tryz.prog 92 #[.agg #[.int .i64 M.now, .slice ca M.cpus.length cc, .slice ta M.tasks.length tc, .slice ga M.groups.length gc], .int .i64 g, .bool true] w (WPost M 1 w) := by
  have HWB := Lib.hid hB
  have HRM := Lib.hid hR
  have HU := Lib.hid hu
  clear hB hR hu
  subst hg
  go_enter Tryz.func92, Tryz.ntmps92
  go_upto_region 1 with (fail)
  refine gen2 (p := fun W => Code.wp _ _ _ _ W) ?_
  intro W b1 s1 k0 k1
  have B1 := Lib.hid b1
  have K0 := Lib.hid k0
  have K1 := Lib.hid k1
  have S1 := Lib.hid s1
  have hs1 := hs.keep b1
  clear b1 k0 k1 hs s1
  have c0 := K0.out.cell 0
  have c1 := K0.out.cell 1
  have c2 := K0.out.cell 2
  have c3 := K0.out.cell 3
  have cf := fun i => K0.out.frozen i
  simp at c0 c1 c2 c3
  go_wp2_with fail
  refine (sBegin_end ca cc ta tc ga gc gh M _ hs1 hf HWB.out HRM.out).mono ?_
  rintro e w3 ⟨x, rfl, hb3, ow⟩
  have K0c := Lib.hid (K0.out.below hb3 K0.out.lt)
  have K1c := Lib.hid (K1.out.below hb3 K1.out.lt)
  have B3 := Lib.hid (B1.out.andThen hb3)
  have OW := Lib.hid ow
  clear c0 c1 c2 c3 cf
  clear hs1 hb3 ow K0 K1 B1
  have c0 := K0c.out.cell 0
  have c1 := K0c.out.cell 1
  have c2 := K0c.out.cell 2
  have c3 := K0c.out.cell 3
  have cf := fun i => K0c.out.frozen i
  simp at c0 c1 c2 c3
  go_upto_region 2 with (fail)
  refine genW (p := fun W => Code.wp _ _ _ _ W) ?_
  intro w4 hw4
  have KE := Lib.hid (show Keep (fun j => j = w.heap.size) w3 w4 by rw [← hw4]; exact ((((Keep.set _ _ _ (by rfl)).trans (Keep.set _ _ _ (by rfl))).trans (Keep.set _ _ _ (by rfl))).trans (Keep.set _ _ _ (by rfl))))
  have K0d := Lib.hid (show Blk w4 w.heap.size 33 #[.int .i64 M.now, .slice x.ca M.cpus.length x.cc, .slice x.ta M.tasks.length x.tc, .slice x.ga M.groups.length x.gc] by rw [← hw4]; exact ((((K0c.out.set_ 0 _).set_ 1 _).set_ 2 _).set_ 3 _))
  have K1d := Lib.hid (KE.out.blk K1c.out (by omega))
  have OW4 := Lib.hid (OW.out.fin (B := W.heap.size) KE.out (fun i h => by have := S1.out; omega) (Nat.le_refl _))
  have B4 := Lib.hid (B3.out.trans (KE.out.below B3.out.size fun i h => by omega))
  clear hw4 KE K0c K1c OW B3
  clear c0 c1 c2 c3 cf
  have c0 := K0d.out.cell 0
  have c1 := K0d.out.cell 1
  have c2 := K0d.out.cell 2
  have c3 := K0d.out.cell 3
  have cf := fun i => K0d.out.frozen i
  simp at c0 c1 c2 c3
  have d0 := K1d.out.cell 0
  have d1 := K1d.out.cell 1
  have d2 := K1d.out.cell 2
  have d3 := K1d.out.cell 3
  have df := fun i => K1d.out.frozen i
  simp at d0 d1 d2 d3
  go_wp2
  have kk := Lib.hid (show Keep (fun i => i = w.heap.size + 1) w4 ((((w4.setCell ⟨w.heap.size + 1, 0, none⟩ (.int .i64 M.now)).setCell ⟨w.heap.size + 1, 1, none⟩ (.slice x.ca M.cpus.length x.cc)).setCell ⟨w.heap.size + 1, 2, none⟩ (.slice x.ta M.tasks.length x.tc)).setCell ⟨w.heap.size + 1, 3, none⟩ (.slice x.ga M.groups.length x.gc)) from ((((Keep.set _ _ _ (by rfl)).trans (Keep.set _ _ _ (by rfl))).trans (Keep.set _ _ _ (by rfl))).trans (Keep.set _ _ _ (by rfl))))
  refine bodyPost_ret (v := .tuple #[.agg #[.int .i64 M.now, .slice x.ca M.cpus.length x.cc, .slice x.ta M.tasks.length x.tc, .slice x.ga M.groups.length x.gc], .int .i64 1]) (by simp [results, Tryz.results92, go_sem, *]) rfl ⟨x, rfl, B4.out.trans (kk.out.below B4.out.size fun i h => by omega), ?_⟩
  exact OW4.out.fin kk.out (fun i h => by have := S1.out; omega) (by have := S1.out; omega)
set_option maxRecDepth 100000 in
set_option maxHeartbeats 4000000 in
theorem sBegin11_end1 (ca : Option Addr) (cc : Nat) (ta : Option Addr) (tc : Nat) (ga : Option Addr) (gc : Nat) (gh : Nat → GH) (M : WorldM) (w : World) (hs : WA w ca ta ga gh M) (hf : WFit M) (hB : worldB M = true) (hR : roomM M = false) (g : Nat) (hg : g ≠ 0) (hu : usedI M g = true) :
    Calls Tryz.prog 92 #[.agg #[.int .i64 M.now, .slice ca M.cpus.length cc, .slice ta M.tasks.length tc, .slice ga M.groups.length gc], .int .i64 g, .bool true] w (WPost M 10 w) := by
  have HWB := Lib.hid hB
  have HRM := Lib.hid hR
  have HU := Lib.hid hu
  clear hB hR hu
  have hg0 : ((g : Int) == 0) = false := by simpa using hg
  have hgi : (1 : Int) ≤ (g : Int) := by omega
  clear hg
  go_enter Tryz.func92, Tryz.ntmps92
  go_upto_region 1 with (fail)
  refine gen2 (p := fun W => Code.wp _ _ _ _ W) ?_
  intro W b1 s1 k0 k1
  have B1 := Lib.hid b1
  have K0 := Lib.hid k0
  have K1 := Lib.hid k1
  have S1 := Lib.hid s1
  have hs1 := hs.keep b1
  clear b1 k0 k1 hs s1
  have c0 := K0.out.cell 0
  have c1 := K0.out.cell 1
  have c2 := K0.out.cell 2
  have c3 := K0.out.cell 3
  have cf := fun i => K0.out.frozen i
  simp at c0 c1 c2 c3
  go_wp2_with fail
  refine (sBegin_end ca cc ta tc ga gc gh M _ hs1 hf HWB.out HRM.out).mono ?_
  rintro e w3 ⟨x, rfl, hb3, ow⟩
  have K0c := Lib.hid (K0.out.below hb3 K0.out.lt)
  have K1c := Lib.hid (K1.out.below hb3 K1.out.lt)
  have B3 := Lib.hid (B1.out.andThen hb3)
  have OW := Lib.hid ow
  clear c0 c1 c2 c3 cf
  clear hs1 hb3 ow K0 K1 B1
  have c0 := K0c.out.cell 0
  have c1 := K0c.out.cell 1
  have c2 := K0c.out.cell 2
  have c3 := K0c.out.cell 3
  have cf := fun i => K0c.out.frozen i
  simp at c0 c1 c2 c3
  go_upto_region 2 with (fail)
  refine genW (p := fun W => Code.wp _ _ _ _ W) ?_
  intro w4 hw4
  have KE := Lib.hid (show Keep (fun j => j = w.heap.size) w3 w4 by rw [← hw4]; exact ((((Keep.set _ _ _ (by rfl)).trans (Keep.set _ _ _ (by rfl))).trans (Keep.set _ _ _ (by rfl))).trans (Keep.set _ _ _ (by rfl))))
  have K0d := Lib.hid (show Blk w4 w.heap.size 33 #[.int .i64 M.now, .slice x.ca M.cpus.length x.cc, .slice x.ta M.tasks.length x.tc, .slice x.ga M.groups.length x.gc] by rw [← hw4]; exact ((((K0c.out.set_ 0 _).set_ 1 _).set_ 2 _).set_ 3 _))
  have K1d := Lib.hid (KE.out.blk K1c.out (by omega))
  have OW4 := Lib.hid (OW.out.fin (B := W.heap.size) KE.out (fun i h => by have := S1.out; omega) (Nat.le_refl _))
  have B4 := Lib.hid (B3.out.trans (KE.out.below B3.out.size fun i h => by omega))
  clear hw4 KE K0c K1c OW B3
  clear c0 c1 c2 c3 cf
  have c0 := K0d.out.cell 0
  have c1 := K0d.out.cell 1
  have c2 := K0d.out.cell 2
  have c3 := K0d.out.cell 3
  have cf := fun i => K0d.out.frozen i
  simp at c0 c1 c2 c3
  have HUS := Lib.hid (sl6Used_any x.ca x.ta x.ga x.gc x.gh M w4 OW4.out.wa (g : Int))
  go_wp2_with fail
  refine HUS.out.mono ?_
  rintro e w5 ⟨rfl, rfl⟩
  rw [HU.out]
  have d0 := K1d.out.cell 0
  have d1 := K1d.out.cell 1
  have d2 := K1d.out.cell 2
  have d3 := K1d.out.cell 3
  have df := fun i => K1d.out.frozen i
  simp at d0 d1 d2 d3
  go_wp2
  have kk := Lib.hid (show Keep (fun i => i = w.heap.size + 1) w4 ((((w4.setCell ⟨w.heap.size + 1, 0, none⟩ (.int .i64 M.now)).setCell ⟨w.heap.size + 1, 1, none⟩ (.slice x.ca M.cpus.length x.cc)).setCell ⟨w.heap.size + 1, 2, none⟩ (.slice x.ta M.tasks.length x.tc)).setCell ⟨w.heap.size + 1, 3, none⟩ (.slice x.ga M.groups.length x.gc)) from ((((Keep.set _ _ _ (by rfl)).trans (Keep.set _ _ _ (by rfl))).trans (Keep.set _ _ _ (by rfl))).trans (Keep.set _ _ _ (by rfl))))
  refine bodyPost_ret (v := .tuple #[.agg #[.int .i64 M.now, .slice x.ca M.cpus.length x.cc, .slice x.ta M.tasks.length x.tc, .slice x.ga M.groups.length x.gc], .int .i64 10]) (by simp [results, Tryz.results92, go_sem, *]) rfl ⟨x, rfl, B4.out.trans (kk.out.below B4.out.size fun i h => by omega), ?_⟩
  exact OW4.out.fin kk.out (fun i h => by have := S1.out; omega) (by have := S1.out; omega)
end Go.Proofs.YtknfpigaognklaaGreatDoor
namespace Go.Proofs.YtknfpigaognklaaGreatDoor
open Go.RowKit Go.Sort
def nilH : GH := ⟨none, 0, none, 0, none, 0⟩
def zl : List (Nat × Value) := [(0, .bool false), (1, .int .i64 0), (2, .string .empty), (3, .int .i64 0), (4, .int .i64 0), (5, .int .i64 0), (6, .int .i64 0), (7, .int .i64 0), (8, .int .i64 0), (9, .int .i64 0), (10, .int .i64 0), (11, .slice none 0 0), (12, .slice none 0 0), (13, .slice none 0 0)]
theorem zl_cells (v : Nat → Value) : ∀ i, i < 14 → zl.foldl (fun v p => if p.1 = i then p.2 else v) (v i) = groupF group0 nilH i
  | 0, _ => rfl
  | 1, _ => rfl
  | 2, _ => rfl
  | 3, _ => rfl
  | 4, _ => rfl
  | 5, _ => rfl
  | 6, _ => rfl
  | 7, _ => rfl
  | 8, _ => rfl
  | 9, _ => rfl
  | 10, _ => rfl
  | 11, _ => rfl
  | 12, _ => rfl
  | 13, _ => rfl
  | i + 14, h => absurd h (by omega)
/-- a group is struck -/
theorem Own.strike {w : World} {B : Nat} {ca ta : Option Addr} {b : Nat} {gh : Nat → GH} {M : WorldM} (h : Own w B ca ta (some ⟨b, 0, none⟩) gh M) {g : Nat} (hg : g < M.groups.length) :
    Own (zl.foldl (fun w p => w.setCell ⟨b, g * 14 + p.1, none⟩ p.2) w) B ca ta (some ⟨b, 0, none⟩) (hset gh g nilH) (setG M g group0) :=
  h.setGroup (Keep.sets (by rfl) zl w) ((RowR.sets rfl hg zl h.grps (by simp [zl])).congr fun j i hj hi => by
    by_cases e : j = g
    · subst e; rw [if_pos rfl, if_pos rfl]; exact zl_cells (fun i => groupF (M.groups.getD j group0) (gh j) i) i hi
    · rw [if_neg e, if_neg e]; rfl) RowR.nil RowR.nil RowR.nil (fun _ _ _ _ h => by cases h) (fun _ _ _ _ h => by cases h) (fun _ _ _ _ h => by cases h)
set_option maxRecDepth 100000 in
set_option maxHeartbeats 4000000 in
theorem sDrop_root_yes (ca : Option Addr) (cc : Nat) (ta : Option Addr) (tc : Nat) (ga : Option Addr) (gc : Nat) (gh : Nat → GH) (M : WorldM) (w : World) (hs : WA w ca ta ga gh M) (hf : WFit M) (hB : worldB M = true) (g : Nat) (hg8 : g < 8) (hu : usedI M g = true) (hg : g = 0) (hR : roomM M = true) :
    Calls Tryz.prog 47 #[.agg #[.int .i64 M.now, .slice ca M.cpus.length cc, .slice ta M.tasks.length tc, .slice ga M.groups.length gc], .int .i64 g] w (WPost M 1 w) := by
  have HWB := Lib.hid hB
  have HU := Lib.hid hu
  have BG := Lib.hid (show ∀ W (hs : WA W ca ta ga gh M), Calls _ _ _ W (WPost M 1 W) from fun W hs => sBegin11_yes0 ca cc ta tc ga gc gh M W hs hf hB hR g hg hu)
  clear hg hR
  have hgi : (0 : Int) ≤ (g : Int) := by omega
  have hlen : M.groups.length = 8 := (facts_of hB).tree.len
  have HLN := Lib.hid hlen
  have hgl : (g : Int) < (M.groups.length : Int) := by omega
  clear hB hu hlen
  go_enter Tryz.func47, Tryz.ntmps47
  go_upto_region 1 with (fail)
  refine gen2 (p := fun W => Code.wp _ _ _ _ W) ?_
  intro W b1 s1 k0 k1
  have B1 := Lib.hid b1
  have K0 := Lib.hid k0
  have K1 := Lib.hid k1
  have S1 := Lib.hid s1
  have hs1 := hs.keep b1
  clear b1 k0 k1 hs s1
  have c0 := K0.out.cell 0
  have c1 := K0.out.cell 1
  have c2 := K0.out.cell 2
  have c3 := K0.out.cell 3
  have cf := fun i => K0.out.frozen i
  simp at c0 c1 c2 c3
  go_wp2_with fail
  refine (BG.out W hs1).mono ?_
  rintro e w3 ⟨x, rfl, hb3, ow⟩
  have K0c := Lib.hid (K0.out.below hb3 K0.out.lt)
  have K1c := Lib.hid (K1.out.below hb3 K1.out.lt)
  have B3 := Lib.hid (B1.out.andThen hb3)
  have OW := Lib.hid ow
  clear c0 c1 c2 c3 cf
  clear hs1 hb3 ow K0 K1 B1
  have c0 := K0c.out.cell 0
  have c1 := K0c.out.cell 1
  have c2 := K0c.out.cell 2
  have c3 := K0c.out.cell 3
  have cf := fun i => K0c.out.frozen i
  simp at c0 c1 c2 c3
  go_upto_region 2 with (fail)
  refine genW (p := fun W => Code.wp _ _ _ _ W) ?_
  intro w4 hw4
  have KE := Lib.hid (show Keep (fun j => j = w.heap.size) w3 w4 by rw [← hw4]; exact ((((Keep.set _ _ _ (by rfl)).trans (Keep.set _ _ _ (by rfl))).trans (Keep.set _ _ _ (by rfl))).trans (Keep.set _ _ _ (by rfl))))
  have K0d := Lib.hid (show Blk w4 w.heap.size 33 #[.int .i64 M.now, .slice x.ca M.cpus.length x.cc, .slice x.ta M.tasks.length x.tc, .slice x.ga M.groups.length x.gc] by rw [← hw4]; exact ((((K0c.out.set_ 0 _).set_ 1 _).set_ 2 _).set_ 3 _))
  have K1d := Lib.hid (KE.out.blk K1c.out (by omega))
  have OW4 := Lib.hid (OW.out.fin (B := W.heap.size) KE.out (fun i h => by have := S1.out; omega) (Nat.le_refl _))
  have B4 := Lib.hid (B3.out.trans (KE.out.below B3.out.size fun i h => by omega))
  clear hw4 KE K0c K1c OW B3
  clear c0 c1 c2 c3 cf
  have c0 := K0d.out.cell 0
  have c1 := K0d.out.cell 1
  have c2 := K0d.out.cell 2
  have c3 := K0d.out.cell 3
  have cf := fun i => K0d.out.frozen i
  simp at c0 c1 c2 c3
  have d0 := K1d.out.cell 0
  have d1 := K1d.out.cell 1
  have d2 := K1d.out.cell 2
  have d3 := K1d.out.cell 3
  have df := fun i => K1d.out.frozen i
  simp at d0 d1 d2 d3
  go_wp2
  have kk := Lib.hid (show Keep (fun i => i = w.heap.size + 1) w4 ((((w4.setCell ⟨w.heap.size + 1, 0, none⟩ (.int .i64 M.now)).setCell ⟨w.heap.size + 1, 1, none⟩ (.slice x.ca M.cpus.length x.cc)).setCell ⟨w.heap.size + 1, 2, none⟩ (.slice x.ta M.tasks.length x.tc)).setCell ⟨w.heap.size + 1, 3, none⟩ (.slice x.ga M.groups.length x.gc)) from ((((Keep.set _ _ _ (by rfl)).trans (Keep.set _ _ _ (by rfl))).trans (Keep.set _ _ _ (by rfl))).trans (Keep.set _ _ _ (by rfl))))
  refine bodyPost_ret (v := .tuple #[.agg #[.int .i64 M.now, .slice x.ca M.cpus.length x.cc, .slice x.ta M.tasks.length x.tc, .slice x.ga M.groups.length x.gc], .int .i64 1]) (by simp [results, Tryz.results47, go_sem, *]) rfl ⟨x, rfl, B4.out.trans (kk.out.below B4.out.size fun i h => by omega), ?_⟩
  exact OW4.out.fin kk.out (fun i h => by have := S1.out; omega) (by have := S1.out; omega)
set_option maxRecDepth 100000 in
set_option maxHeartbeats 4000000 in
theorem sDrop_busy_yes (ca : Option Addr) (cc : Nat) (ta : Option Addr) (tc : Nat) (ga : Option Addr) (gc : Nat) (gh : Nat → GH) (M : WorldM) (w : World) (hs : WA w ca ta ga gh M) (hf : WFit M) (hB : worldB M = true) (g : Nat) (hg8 : g < 8) (hu : usedI M g = true) (hg : g ≠ 0) (hR : roomM M = true) (hh : (kidsB M g || memsB M g) = true) :
    Calls Tryz.prog 47 #[.agg #[.int .i64 M.now, .slice ca M.cpus.length cc, .slice ta M.tasks.length tc, .slice ga M.groups.length gc], .int .i64 g] w (WPost M 4 w) := by
  have HWB := Lib.hid hB
  have HU := Lib.hid hu
  have BG := Lib.hid (show ∀ W (hs : WA W ca ta ga gh M), Calls _ _ _ W (WPost M 0 W) from fun W hs => sBegin11_yes1 ca cc ta tc ga gc gh M W hs hf hB hR g hg hu)
  clear hg hR
  have HH := Lib.hid hh
  clear hh
  have hgi : (0 : Int) ≤ (g : Int) := by omega
  have hlen : M.groups.length = 8 := (facts_of hB).tree.len
  have HLN := Lib.hid hlen
  have hgl : (g : Int) < (M.groups.length : Int) := by omega
  clear hB hu hlen
  go_enter Tryz.func47, Tryz.ntmps47
  go_upto_region 1 with (fail)
  refine gen2 (p := fun W => Code.wp _ _ _ _ W) ?_
  intro W b1 s1 k0 k1
  have B1 := Lib.hid b1
  have K0 := Lib.hid k0
  have K1 := Lib.hid k1
  have S1 := Lib.hid s1
  have hs1 := hs.keep b1
  clear b1 k0 k1 hs s1
  have c0 := K0.out.cell 0
  have c1 := K0.out.cell 1
  have c2 := K0.out.cell 2
  have c3 := K0.out.cell 3
  have cf := fun i => K0.out.frozen i
  simp at c0 c1 c2 c3
  go_wp2_with fail
  refine (BG.out W hs1).mono ?_
  rintro e w3 ⟨x, rfl, hb3, ow⟩
  have K0c := Lib.hid (K0.out.below hb3 K0.out.lt)
  have K1c := Lib.hid (K1.out.below hb3 K1.out.lt)
  have B3 := Lib.hid (B1.out.andThen hb3)
  have OW := Lib.hid ow
  clear c0 c1 c2 c3 cf
  clear hs1 hb3 ow K0 K1 B1
  have c0 := K0c.out.cell 0
  have c1 := K0c.out.cell 1
  have c2 := K0c.out.cell 2
  have c3 := K0c.out.cell 3
  have cf := fun i => K0c.out.frozen i
  simp at c0 c1 c2 c3
  go_upto_region 2 with (fail)
  refine genW (p := fun W => Code.wp _ _ _ _ W) ?_
  intro w4 hw4
  have KE := Lib.hid (show Keep (fun j => j = w.heap.size) w3 w4 by rw [← hw4]; exact ((((Keep.set _ _ _ (by rfl)).trans (Keep.set _ _ _ (by rfl))).trans (Keep.set _ _ _ (by rfl))).trans (Keep.set _ _ _ (by rfl))))
  have K0d := Lib.hid (show Blk w4 w.heap.size 33 #[.int .i64 M.now, .slice x.ca M.cpus.length x.cc, .slice x.ta M.tasks.length x.tc, .slice x.ga M.groups.length x.gc] by rw [← hw4]; exact ((((K0c.out.set_ 0 _).set_ 1 _).set_ 2 _).set_ 3 _))
  have K1d := Lib.hid (KE.out.blk K1c.out (by omega))
  have OW4 := Lib.hid (OW.out.fin (B := W.heap.size) KE.out (fun i h => by have := S1.out; omega) (Nat.le_refl _))
  have B4 := Lib.hid (B3.out.trans (KE.out.below B3.out.size fun i h => by omega))
  clear hw4 KE K0c K1c OW B3
  clear c0 c1 c2 c3 cf
  have c0 := K0d.out.cell 0
  have c1 := K0d.out.cell 1
  have c2 := K0d.out.cell 2
  have c3 := K0d.out.cell 3
  have cf := fun i => K0d.out.frozen i
  simp at c0 c1 c2 c3
  go_wp2_with fail
  refine (sHolds_any x.ca x.cc x.ta x.tc x.ga x.gc x.gh M w4 OW4.out.wa (fitG_of hf) HLN.out g hg8).mono ?_
  rintro e w5 ⟨rfl, hb5⟩
  rw [HH.out]
  have K0e := Lib.hid (K0d.out.below hb5 K0d.out.lt)
  have K1e := Lib.hid (K1d.out.below hb5 K1d.out.lt)
  have OW5 := Lib.hid (OW4.out.below hb5)
  have B5 := Lib.hid (B4.out.andThen hb5)
  clear c0 c1 c2 c3 cf
  clear hb5 K0d K1d OW4 B4
  have c0 := K0e.out.cell 0
  have c1 := K0e.out.cell 1
  have c2 := K0e.out.cell 2
  have c3 := K0e.out.cell 3
  have cf := fun i => K0e.out.frozen i
  simp at c0 c1 c2 c3
  have d0 := K1e.out.cell 0
  have d1 := K1e.out.cell 1
  have d2 := K1e.out.cell 2
  have d3 := K1e.out.cell 3
  have df := fun i => K1e.out.frozen i
  simp at d0 d1 d2 d3
  go_wp2
  have kk := Lib.hid (show Keep (fun i => i = w.heap.size + 1) w5 ((((w5.setCell ⟨w.heap.size + 1, 0, none⟩ (.int .i64 M.now)).setCell ⟨w.heap.size + 1, 1, none⟩ (.slice x.ca M.cpus.length x.cc)).setCell ⟨w.heap.size + 1, 2, none⟩ (.slice x.ta M.tasks.length x.tc)).setCell ⟨w.heap.size + 1, 3, none⟩ (.slice x.ga M.groups.length x.gc)) from ((((Keep.set _ _ _ (by rfl)).trans (Keep.set _ _ _ (by rfl))).trans (Keep.set _ _ _ (by rfl))).trans (Keep.set _ _ _ (by rfl))))
  refine bodyPost_ret (v := .tuple #[.agg #[.int .i64 M.now, .slice x.ca M.cpus.length x.cc, .slice x.ta M.tasks.length x.tc, .slice x.ga M.groups.length x.gc], .int .i64 4]) (by simp [results, Tryz.results47, go_sem, *]) rfl ⟨x, rfl, B5.out.trans (kk.out.below B5.out.size fun i h => by omega), ?_⟩
  exact OW5.out.fin kk.out (fun i h => by have := S1.out; omega) (by have := S1.out; omega)
set_option maxRecDepth 100000 in
set_option maxHeartbeats 4000000 in
theorem sDrop_root_end (ca : Option Addr) (cc : Nat) (ta : Option Addr) (tc : Nat) (ga : Option Addr) (gc : Nat) (gh : Nat → GH) (M : WorldM) (w : World) (hs : WA w ca ta ga gh M) (hf : WFit M) (hB : worldB M = true) (g : Nat) (hg8 : g < 8) (hu : usedI M g = true) (hg : g = 0) (hR : roomM M = false) :
    Calls Tryz.prog 47 #[.agg #[.int .i64 M.now, .slice ca M.cpus.length cc, .slice ta M.tasks.length tc, .slice ga M.groups.length gc], .int .i64 g] w (WPost M 1 w) := by
  have HWB := Lib.hid hB
  have HU := Lib.hid hu
  have BG := Lib.hid (show ∀ W (hs : WA W ca ta ga gh M), Calls _ _ _ W (WPost M 1 W) from fun W hs => sBegin11_end0 ca cc ta tc ga gc gh M W hs hf hB hR g hg hu)
  clear hg hR
  have hgi : (0 : Int) ≤ (g : Int) := by omega
  have hlen : M.groups.length = 8 := (facts_of hB).tree.len
  have HLN := Lib.hid hlen
  have hgl : (g : Int) < (M.groups.length : Int) := by omega
  clear hB hu hlen
  go_enter Tryz.func47, Tryz.ntmps47
  go_upto_region 1 with (fail)
  refine gen2 (p := fun W => Code.wp _ _ _ _ W) ?_
  intro W b1 s1 k0 k1
  have B1 := Lib.hid b1
  have K0 := Lib.hid k0
  have K1 := Lib.hid k1
  have S1 := Lib.hid s1
  have hs1 := hs.keep b1
  clear b1 k0 k1 hs s1
  have c0 := K0.out.cell 0
  have c1 := K0.out.cell 1
  have c2 := K0.out.cell 2
  have c3 := K0.out.cell 3
  have cf := fun i => K0.out.frozen i
  simp at c0 c1 c2 c3
  go_wp2_with fail
  refine (BG.out W hs1).mono ?_
  rintro e w3 ⟨x, rfl, hb3, ow⟩
  have K0c := Lib.hid (K0.out.below hb3 K0.out.lt)
  have K1c := Lib.hid (K1.out.below hb3 K1.out.lt)
  have B3 := Lib.hid (B1.out.andThen hb3)
  have OW := Lib.hid ow
  clear c0 c1 c2 c3 cf
  clear hs1 hb3 ow K0 K1 B1
  have c0 := K0c.out.cell 0
  have c1 := K0c.out.cell 1
  have c2 := K0c.out.cell 2
  have c3 := K0c.out.cell 3
  have cf := fun i => K0c.out.frozen i
  simp at c0 c1 c2 c3
  go_upto_region 2 with (fail)
  refine genW (p := fun W => Code.wp _ _ _ _ W) ?_
  intro w4 hw4
  have KE := Lib.hid (show Keep (fun j => j = w.heap.size) w3 w4 by rw [← hw4]; exact ((((Keep.set _ _ _ (by rfl)).trans (Keep.set _ _ _ (by rfl))).trans (Keep.set _ _ _ (by rfl))).trans (Keep.set _ _ _ (by rfl))))
  have K0d := Lib.hid (show Blk w4 w.heap.size 33 #[.int .i64 M.now, .slice x.ca M.cpus.length x.cc, .slice x.ta M.tasks.length x.tc, .slice x.ga M.groups.length x.gc] by rw [← hw4]; exact ((((K0c.out.set_ 0 _).set_ 1 _).set_ 2 _).set_ 3 _))
  have K1d := Lib.hid (KE.out.blk K1c.out (by omega))
  have OW4 := Lib.hid (OW.out.fin (B := W.heap.size) KE.out (fun i h => by have := S1.out; omega) (Nat.le_refl _))
  have B4 := Lib.hid (B3.out.trans (KE.out.below B3.out.size fun i h => by omega))
  clear hw4 KE K0c K1c OW B3
  clear c0 c1 c2 c3 cf
  have c0 := K0d.out.cell 0
  have c1 := K0d.out.cell 1
  have c2 := K0d.out.cell 2
  have c3 := K0d.out.cell 3
  have cf := fun i => K0d.out.frozen i
  simp at c0 c1 c2 c3
  have d0 := K1d.out.cell 0
  have d1 := K1d.out.cell 1
  have d2 := K1d.out.cell 2
  have d3 := K1d.out.cell 3
  have df := fun i => K1d.out.frozen i
  simp at d0 d1 d2 d3
  go_wp2
  have kk := Lib.hid (show Keep (fun i => i = w.heap.size + 1) w4 ((((w4.setCell ⟨w.heap.size + 1, 0, none⟩ (.int .i64 M.now)).setCell ⟨w.heap.size + 1, 1, none⟩ (.slice x.ca M.cpus.length x.cc)).setCell ⟨w.heap.size + 1, 2, none⟩ (.slice x.ta M.tasks.length x.tc)).setCell ⟨w.heap.size + 1, 3, none⟩ (.slice x.ga M.groups.length x.gc)) from ((((Keep.set _ _ _ (by rfl)).trans (Keep.set _ _ _ (by rfl))).trans (Keep.set _ _ _ (by rfl))).trans (Keep.set _ _ _ (by rfl))))
  refine bodyPost_ret (v := .tuple #[.agg #[.int .i64 M.now, .slice x.ca M.cpus.length x.cc, .slice x.ta M.tasks.length x.tc, .slice x.ga M.groups.length x.gc], .int .i64 1]) (by simp [results, Tryz.results47, go_sem, *]) rfl ⟨x, rfl, B4.out.trans (kk.out.below B4.out.size fun i h => by omega), ?_⟩
  exact OW4.out.fin kk.out (fun i h => by have := S1.out; omega) (by have := S1.out; omega)
set_option maxRecDepth 100000 in
set_option maxHeartbeats 4000000 in
theorem sDrop_busy_end (ca : Option Addr) (cc : Nat) (ta : Option Addr) (tc : Nat) (ga : Option Addr) (gc : Nat) (gh : Nat → GH) (M : WorldM) (w : World) (hs : WA w ca ta ga gh M) (hf : WFit M) (hB : worldB M = true) (g : Nat) (hg8 : g < 8) (hu : usedI M g = true) (hg : g ≠ 0) (hR : roomM M = false) (hh : (kidsB M g || memsB M g) = true) :
    Calls Tryz.prog 47 #[.agg #[.int .i64 M.now, .slice ca M.cpus.length cc, .slice ta M.tasks.length tc, .slice ga M.groups.length gc], .int .i64 g] w (WPost M 4 w) := by
  have HWB := Lib.hid hB
  have HU := Lib.hid hu
  have BG := Lib.hid (show ∀ W (hs : WA W ca ta ga gh M), Calls _ _ _ W (WPost M 10 W) from fun W hs => sBegin11_end1 ca cc ta tc ga gc gh M W hs hf hB hR g hg hu)
  clear hg hR
  have HH := Lib.hid hh
  clear hh
  have hgi : (0 : Int) ≤ (g : Int) := by omega
  have hlen : M.groups.length = 8 := (facts_of hB).tree.len
  have HLN := Lib.hid hlen
  have hgl : (g : Int) < (M.groups.length : Int) := by omega
  clear hB hu hlen
  go_enter Tryz.func47, Tryz.ntmps47
  go_upto_region 1 with (fail)
  refine gen2 (p := fun W => Code.wp _ _ _ _ W) ?_
  intro W b1 s1 k0 k1
  have B1 := Lib.hid b1
  have K0 := Lib.hid k0
  have K1 := Lib.hid k1
  have S1 := Lib.hid s1
  have hs1 := hs.keep b1
  clear b1 k0 k1 hs s1
  have c0 := K0.out.cell 0
  have c1 := K0.out.cell 1
  have c2 := K0.out.cell 2
  have c3 := K0.out.cell 3
  have cf := fun i => K0.out.frozen i
  simp at c0 c1 c2 c3
  go_wp2_with fail
  refine (BG.out W hs1).mono ?_
  rintro e w3 ⟨x, rfl, hb3, ow⟩
  have K0c := Lib.hid (K0.out.below hb3 K0.out.lt)
  have K1c := Lib.hid (K1.out.below hb3 K1.out.lt)
  have B3 := Lib.hid (B1.out.andThen hb3)
  have OW := Lib.hid ow
  clear c0 c1 c2 c3 cf
  clear hs1 hb3 ow K0 K1 B1
  have c0 := K0c.out.cell 0
  have c1 := K0c.out.cell 1
  have c2 := K0c.out.cell 2
  have c3 := K0c.out.cell 3
  have cf := fun i => K0c.out.frozen i
  simp at c0 c1 c2 c3
  go_upto_region 2 with (fail)
  refine genW (p := fun W => Code.wp _ _ _ _ W) ?_
  intro w4 hw4
  have KE := Lib.hid (show Keep (fun j => j = w.heap.size) w3 w4 by rw [← hw4]; exact ((((Keep.set _ _ _ (by rfl)).trans (Keep.set _ _ _ (by rfl))).trans (Keep.set _ _ _ (by rfl))).trans (Keep.set _ _ _ (by rfl))))
  have K0d := Lib.hid (show Blk w4 w.heap.size 33 #[.int .i64 M.now, .slice x.ca M.cpus.length x.cc, .slice x.ta M.tasks.length x.tc, .slice x.ga M.groups.length x.gc] by rw [← hw4]; exact ((((K0c.out.set_ 0 _).set_ 1 _).set_ 2 _).set_ 3 _))
  have K1d := Lib.hid (KE.out.blk K1c.out (by omega))
  have OW4 := Lib.hid (OW.out.fin (B := W.heap.size) KE.out (fun i h => by have := S1.out; omega) (Nat.le_refl _))
  have B4 := Lib.hid (B3.out.trans (KE.out.below B3.out.size fun i h => by omega))
  clear hw4 KE K0c K1c OW B3
  clear c0 c1 c2 c3 cf
  have c0 := K0d.out.cell 0
  have c1 := K0d.out.cell 1
  have c2 := K0d.out.cell 2
  have c3 := K0d.out.cell 3
  have cf := fun i => K0d.out.frozen i
  simp at c0 c1 c2 c3
  go_wp2_with fail
  refine (sHolds_any x.ca x.cc x.ta x.tc x.ga x.gc x.gh M w4 OW4.out.wa (fitG_of hf) HLN.out g hg8).mono ?_
  rintro e w5 ⟨rfl, hb5⟩
  rw [HH.out]
  have K0e := Lib.hid (K0d.out.below hb5 K0d.out.lt)
  have K1e := Lib.hid (K1d.out.below hb5 K1d.out.lt)
  have OW5 := Lib.hid (OW4.out.below hb5)
  have B5 := Lib.hid (B4.out.andThen hb5)
  clear c0 c1 c2 c3 cf
  clear hb5 K0d K1d OW4 B4
  have c0 := K0e.out.cell 0
  have c1 := K0e.out.cell 1
  have c2 := K0e.out.cell 2
  have c3 := K0e.out.cell 3
  have cf := fun i => K0e.out.frozen i
  simp at c0 c1 c2 c3
  have d0 := K1e.out.cell 0
  have d1 := K1e.out.cell 1
  have d2 := K1e.out.cell 2
  have d3 := K1e.out.cell 3
  have df := fun i => K1e.out.frozen i
  simp at d0 d1 d2 d3
  go_wp2
  have kk := Lib.hid (show Keep (fun i => i = w.heap.size + 1) w5 ((((w5.setCell ⟨w.heap.size + 1, 0, none⟩ (.int .i64 M.now)).setCell ⟨w.heap.size + 1, 1, none⟩ (.slice x.ca M.cpus.length x.cc)).setCell ⟨w.heap.size + 1, 2, none⟩ (.slice x.ta M.tasks.length x.tc)).setCell ⟨w.heap.size + 1, 3, none⟩ (.slice x.ga M.groups.length x.gc)) from ((((Keep.set _ _ _ (by rfl)).trans (Keep.set _ _ _ (by rfl))).trans (Keep.set _ _ _ (by rfl))).trans (Keep.set _ _ _ (by rfl))))
  refine bodyPost_ret (v := .tuple #[.agg #[.int .i64 M.now, .slice x.ca M.cpus.length x.cc, .slice x.ta M.tasks.length x.tc, .slice x.ga M.groups.length x.gc], .int .i64 4]) (by simp [results, Tryz.results47, go_sem, *]) rfl ⟨x, rfl, B5.out.trans (kk.out.below B5.out.size fun i h => by omega), ?_⟩
  exact OW5.out.fin kk.out (fun i h => by have := S1.out; omega) (by have := S1.out; omega)
set_option maxRecDepth 100000 in
set_option maxHeartbeats 4000000 in
theorem sDrop_end (ca : Option Addr) (cc : Nat) (ta : Option Addr) (tc : Nat) (ga : Option Addr) (gc : Nat) (gh : Nat → GH) (M : WorldM) (w : World) (hs : WA w ca ta ga gh M) (hf : WFit M) (hB : worldB M = true) (g : Nat) (hg8 : g < 8) (hu : usedI M g = true) (hg : g ≠ 0) (hR : roomM M = false) (hh : (kidsB M g || memsB M g) = false) :
    Calls Tryz.prog 47 #[.agg #[.int .i64 M.now, .slice ca M.cpus.length cc, .slice ta M.tasks.length tc, .slice ga M.groups.length gc], .int .i64 g] w (WPost M 10 w) := by
  have HWB := Lib.hid hB
  have HU := Lib.hid hu
  have BG := Lib.hid (show ∀ W (hs : WA W ca ta ga gh M), Calls _ _ _ W (WPost M 10 W) from fun W hs => sBegin11_end1 ca cc ta tc ga gc gh M W hs hf hB hR g hg hu)
  clear hg hR
  have HH := Lib.hid hh
  clear hh
  have hgi : (0 : Int) ≤ (g : Int) := by omega
  have hlen : M.groups.length = 8 := (facts_of hB).tree.len
  have HLN := Lib.hid hlen
  have hgl : (g : Int) < (M.groups.length : Int) := by omega
  clear hB hu hlen
  go_enter Tryz.func47, Tryz.ntmps47
  go_upto_region 1 with (fail)
  refine gen2 (p := fun W => Code.wp _ _ _ _ W) ?_
  intro W b1 s1 k0 k1
  have B1 := Lib.hid b1
  have K0 := Lib.hid k0
  have K1 := Lib.hid k1
  have S1 := Lib.hid s1
  have hs1 := hs.keep b1
  clear b1 k0 k1 hs s1
  have c0 := K0.out.cell 0
  have c1 := K0.out.cell 1
  have c2 := K0.out.cell 2
  have c3 := K0.out.cell 3
  have cf := fun i => K0.out.frozen i
  simp at c0 c1 c2 c3
  go_wp2_with fail
  refine (BG.out W hs1).mono ?_
  rintro e w3 ⟨x, rfl, hb3, ow⟩
  have K0c := Lib.hid (K0.out.below hb3 K0.out.lt)
  have K1c := Lib.hid (K1.out.below hb3 K1.out.lt)
  have B3 := Lib.hid (B1.out.andThen hb3)
  have OW := Lib.hid ow
  clear c0 c1 c2 c3 cf
  clear hs1 hb3 ow K0 K1 B1
  have c0 := K0c.out.cell 0
  have c1 := K0c.out.cell 1
  have c2 := K0c.out.cell 2
  have c3 := K0c.out.cell 3
  have cf := fun i => K0c.out.frozen i
  simp at c0 c1 c2 c3
  go_upto_region 2 with (fail)
  refine genW (p := fun W => Code.wp _ _ _ _ W) ?_
  intro w4 hw4
  have KE := Lib.hid (show Keep (fun j => j = w.heap.size) w3 w4 by rw [← hw4]; exact ((((Keep.set _ _ _ (by rfl)).trans (Keep.set _ _ _ (by rfl))).trans (Keep.set _ _ _ (by rfl))).trans (Keep.set _ _ _ (by rfl))))
  have K0d := Lib.hid (show Blk w4 w.heap.size 33 #[.int .i64 M.now, .slice x.ca M.cpus.length x.cc, .slice x.ta M.tasks.length x.tc, .slice x.ga M.groups.length x.gc] by rw [← hw4]; exact ((((K0c.out.set_ 0 _).set_ 1 _).set_ 2 _).set_ 3 _))
  have K1d := Lib.hid (KE.out.blk K1c.out (by omega))
  have OW4 := Lib.hid (OW.out.fin (B := W.heap.size) KE.out (fun i h => by have := S1.out; omega) (Nat.le_refl _))
  have B4 := Lib.hid (B3.out.trans (KE.out.below B3.out.size fun i h => by omega))
  clear hw4 KE K0c K1c OW B3
  clear c0 c1 c2 c3 cf
  have c0 := K0d.out.cell 0
  have c1 := K0d.out.cell 1
  have c2 := K0d.out.cell 2
  have c3 := K0d.out.cell 3
  have cf := fun i => K0d.out.frozen i
  simp at c0 c1 c2 c3
  go_wp2_with fail
  refine (sHolds_any x.ca x.cc x.ta x.tc x.ga x.gc x.gh M w4 OW4.out.wa (fitG_of hf) HLN.out g hg8).mono ?_
  rintro e w5 ⟨rfl, hb5⟩
  rw [HH.out]
  have K0e := Lib.hid (K0d.out.below hb5 K0d.out.lt)
  have K1e := Lib.hid (K1d.out.below hb5 K1d.out.lt)
  have OW5 := Lib.hid (OW4.out.below hb5)
  have B5 := Lib.hid (B4.out.andThen hb5)
  clear c0 c1 c2 c3 cf
  clear hb5 K0d K1d OW4 B4
  have c0 := K0e.out.cell 0
  have c1 := K0e.out.cell 1
  have c2 := K0e.out.cell 2
  have c3 := K0e.out.cell 3
  have cf := fun i => K0e.out.frozen i
  simp at c0 c1 c2 c3
  have d0 := K1e.out.cell 0
  have d1 := K1e.out.cell 1
  have d2 := K1e.out.cell 2
  have d3 := K1e.out.cell 3
  have df := fun i => K1e.out.frozen i
  simp at d0 d1 d2 d3
  go_wp2
  have kk := Lib.hid (show Keep (fun i => i = w.heap.size + 1) w5 ((((w5.setCell ⟨w.heap.size + 1, 0, none⟩ (.int .i64 M.now)).setCell ⟨w.heap.size + 1, 1, none⟩ (.slice x.ca M.cpus.length x.cc)).setCell ⟨w.heap.size + 1, 2, none⟩ (.slice x.ta M.tasks.length x.tc)).setCell ⟨w.heap.size + 1, 3, none⟩ (.slice x.ga M.groups.length x.gc)) from ((((Keep.set _ _ _ (by rfl)).trans (Keep.set _ _ _ (by rfl))).trans (Keep.set _ _ _ (by rfl))).trans (Keep.set _ _ _ (by rfl))))
  refine bodyPost_ret (v := .tuple #[.agg #[.int .i64 M.now, .slice x.ca M.cpus.length x.cc, .slice x.ta M.tasks.length x.tc, .slice x.ga M.groups.length x.gc], .int .i64 10]) (by simp [results, Tryz.results47, go_sem, *]) rfl ⟨x, rfl, B5.out.trans (kk.out.below B5.out.size fun i h => by omega), ?_⟩
  exact OW5.out.fin kk.out (fun i h => by have := S1.out; omega) (by have := S1.out; omega)
set_option maxRecDepth 100000 in
set_option maxHeartbeats 4000000 in
theorem sDrop_done (ca : Option Addr) (cc : Nat) (ta : Option Addr) (tc : Nat) (ga : Option Addr) (gc : Nat) (gh : Nat → GH) (M : WorldM) (w : World) (hs : WA w ca ta ga gh M) (hf : WFit M) (hB : worldB M = true) (g : Nat) (hg8 : g < 8) (hu : usedI M g = true) (hg : g ≠ 0) (hR : roomM M = true) (hh : (kidsB M g || memsB M g) = false) :
    Calls Tryz.prog 47 #[.agg #[.int .i64 M.now, .slice ca M.cpus.length cc, .slice ta M.tasks.length tc, .slice ga M.groups.length gc], .int .i64 g] w (WPost (setG M g group0) 0 w) := by
  have HWB := Lib.hid hB
  have HU := Lib.hid hu
  have BG := Lib.hid (show ∀ W (hs : WA W ca ta ga gh M), Calls _ _ _ W (WPost M 0 W) from fun W hs => sBegin11_yes1 ca cc ta tc ga gc gh M W hs hf hB hR g hg hu)
  clear hg hR
  have HH := Lib.hid hh
  clear hh
  have hgi : (0 : Int) ≤ (g : Int) := by omega
  have hlen : M.groups.length = 8 := (facts_of hB).tree.len
  have HLN := Lib.hid hlen
  have hgl : (g : Int) < (M.groups.length : Int) := by omega
  clear hB hu hlen
  go_enter Tryz.func47, Tryz.ntmps47
  go_upto_region 1 with (fail)
  refine gen2 (p := fun W => Code.wp _ _ _ _ W) ?_
  intro W b1 s1 k0 k1
  have B1 := Lib.hid b1
  have K0 := Lib.hid k0
  have K1 := Lib.hid k1
  have S1 := Lib.hid s1
  have hs1 := hs.keep b1
  clear b1 k0 k1 hs s1
  have c0 := K0.out.cell 0
  have c1 := K0.out.cell 1
  have c2 := K0.out.cell 2
  have c3 := K0.out.cell 3
  have cf := fun i => K0.out.frozen i
  simp at c0 c1 c2 c3
  go_wp2_with fail
  refine (BG.out W hs1).mono ?_
  rintro e w3 ⟨x, rfl, hb3, ow⟩
  have K0c := Lib.hid (K0.out.below hb3 K0.out.lt)
  have K1c := Lib.hid (K1.out.below hb3 K1.out.lt)
  have B3 := Lib.hid (B1.out.andThen hb3)
  have OW := Lib.hid ow
  clear c0 c1 c2 c3 cf
  clear hs1 hb3 ow K0 K1 B1
  have c0 := K0c.out.cell 0
  have c1 := K0c.out.cell 1
  have c2 := K0c.out.cell 2
  have c3 := K0c.out.cell 3
  have cf := fun i => K0c.out.frozen i
  simp at c0 c1 c2 c3
  go_upto_region 2 with (fail)
  refine genW (p := fun W => Code.wp _ _ _ _ W) ?_
  intro w4 hw4
  have KE := Lib.hid (show Keep (fun j => j = w.heap.size) w3 w4 by rw [← hw4]; exact ((((Keep.set _ _ _ (by rfl)).trans (Keep.set _ _ _ (by rfl))).trans (Keep.set _ _ _ (by rfl))).trans (Keep.set _ _ _ (by rfl))))
  have K0d := Lib.hid (show Blk w4 w.heap.size 33 #[.int .i64 M.now, .slice x.ca M.cpus.length x.cc, .slice x.ta M.tasks.length x.tc, .slice x.ga M.groups.length x.gc] by rw [← hw4]; exact ((((K0c.out.set_ 0 _).set_ 1 _).set_ 2 _).set_ 3 _))
  have K1d := Lib.hid (KE.out.blk K1c.out (by omega))
  have OW4 := Lib.hid (OW.out.fin (B := W.heap.size) KE.out (fun i h => by have := S1.out; omega) (Nat.le_refl _))
  have B4 := Lib.hid (B3.out.trans (KE.out.below B3.out.size fun i h => by omega))
  clear hw4 KE K0c K1c OW B3
  clear c0 c1 c2 c3 cf
  have c0 := K0d.out.cell 0
  have c1 := K0d.out.cell 1
  have c2 := K0d.out.cell 2
  have c3 := K0d.out.cell 3
  have cf := fun i => K0d.out.frozen i
  simp at c0 c1 c2 c3
  go_wp2_with fail
  refine (sHolds_any x.ca x.cc x.ta x.tc x.ga x.gc x.gh M w4 OW4.out.wa (fitG_of hf) HLN.out g hg8).mono ?_
  rintro e w5 ⟨rfl, hb5⟩
  rw [HH.out]
  have K0e := Lib.hid (K0d.out.below hb5 K0d.out.lt)
  have K1e := Lib.hid (K1d.out.below hb5 K1d.out.lt)
  have OW5 := Lib.hid (OW4.out.below hb5)
  have B5 := Lib.hid (B4.out.andThen hb5)
  clear c0 c1 c2 c3 cf
  clear hb5 K0d K1d OW4 B4
  have c0 := K0e.out.cell 0
  have c1 := K0e.out.cell 1
  have c2 := K0e.out.cell 2
  have c3 := K0e.out.cell 3
  have cf := fun i => K0e.out.frozen i
  simp at c0 c1 c2 c3
  obtain ⟨b, hxa, hbl, hbB, v0, f0⟩ := OW5.out.grps.cell (k := g) (i := 0) (by have := HLN.out; omega) (by omega)
  obtain ⟨_, e, _, _, v1, f1⟩ := OW5.out.grps.cell (k := g) (i := 1) (by have := HLN.out; omega) (by omega); cases hxa.symm.trans e; clear e
  obtain ⟨_, e, _, _, v2, f2⟩ := OW5.out.grps.cell (k := g) (i := 2) (by have := HLN.out; omega) (by omega); cases hxa.symm.trans e; clear e
  obtain ⟨_, e, _, _, v3, f3⟩ := OW5.out.grps.cell (k := g) (i := 3) (by have := HLN.out; omega) (by omega); cases hxa.symm.trans e; clear e
  obtain ⟨_, e, _, _, v4, f4⟩ := OW5.out.grps.cell (k := g) (i := 4) (by have := HLN.out; omega) (by omega); cases hxa.symm.trans e; clear e
  obtain ⟨_, e, _, _, v5, f5⟩ := OW5.out.grps.cell (k := g) (i := 5) (by have := HLN.out; omega) (by omega); cases hxa.symm.trans e; clear e
  obtain ⟨_, e, _, _, v6, f6⟩ := OW5.out.grps.cell (k := g) (i := 6) (by have := HLN.out; omega) (by omega); cases hxa.symm.trans e; clear e
  obtain ⟨_, e, _, _, v7, f7⟩ := OW5.out.grps.cell (k := g) (i := 7) (by have := HLN.out; omega) (by omega); cases hxa.symm.trans e; clear e
  obtain ⟨_, e, _, _, v8, f8⟩ := OW5.out.grps.cell (k := g) (i := 8) (by have := HLN.out; omega) (by omega); cases hxa.symm.trans e; clear e
  obtain ⟨_, e, _, _, v9, f9⟩ := OW5.out.grps.cell (k := g) (i := 9) (by have := HLN.out; omega) (by omega); cases hxa.symm.trans e; clear e
  obtain ⟨_, e, _, _, v10, f10⟩ := OW5.out.grps.cell (k := g) (i := 10) (by have := HLN.out; omega) (by omega); cases hxa.symm.trans e; clear e
  obtain ⟨_, e, _, _, v11, f11⟩ := OW5.out.grps.cell (k := g) (i := 11) (by have := HLN.out; omega) (by omega); cases hxa.symm.trans e; clear e
  obtain ⟨_, e, _, _, v12, f12⟩ := OW5.out.grps.cell (k := g) (i := 12) (by have := HLN.out; omega) (by omega); cases hxa.symm.trans e; clear e
  obtain ⟨_, e, _, _, v13, f13⟩ := OW5.out.grps.cell (k := g) (i := 13) (by have := HLN.out; omega) (by omega); cases hxa.symm.trans e; clear e
  simp only [Nat.add_zero] at v0 f0
  have HXA := Lib.hid hxa
  rw [hxa] at c3
  clear hxa
  go_upto_region 9 with (fail)
  refine genW (p := fun W => Code.wp _ _ _ _ W) ?_
  intro w6 hw6
  have e6 : zl.foldl (fun w p => w.setCell ⟨b, g * 14 + p.1, none⟩ p.2) w5 = w6 := hw6
  have OW6 := Lib.hid (show Own w6 W.heap.size x.ca x.ta x.ga (hset x.gh g nilH) (setG M g group0) by have o := OW5.out; rw [HXA.out] at o ⊢; have := o.strike (g := g) (by have := HLN.out; omega); rw [e6] at this; exact this)
  have KK := Lib.hid (show Keep (fun j => j = b) w5 w6 by have := Keep.sets (S := fun j => j = b) (n := 14) (k := g) (by rfl) zl w5; rw [e6] at this; exact this)
  have hbw : W.heap.size ≤ b := hbB
  have K0f := Lib.hid (KK.out.blk K0e.out (by have := S1.out; omega))
  have K1f := Lib.hid (KK.out.blk K1e.out (by have := S1.out; omega))
  have B6 := Lib.hid (B5.out.trans (KK.out.below (B := w.heap.size) B5.out.size fun i h => by have := S1.out; omega))
  clear hw6 e6 KK K0e K1e OW5 B5 v0 f0 v1 f1 v2 f2 v3 f3 v4 f4 v5 f5 v6 f6 v7 f7 v8 f8 v9 f9 v10 f10 v11 f11 v12 f12 v13 f13
  clear c0 c1 c2 c3 cf
  have c0 := K0f.out.cell 0
  have c1 := K0f.out.cell 1
  have c2 := K0f.out.cell 2
  have c3 := K0f.out.cell 3
  have cf := fun i => K0f.out.frozen i
  simp at c0 c1 c2 c3
  have d0 := K1f.out.cell 0
  have d1 := K1f.out.cell 1
  have d2 := K1f.out.cell 2
  have d3 := K1f.out.cell 3
  have df := fun i => K1f.out.frozen i
  simp at d0 d1 d2 d3
  go_wp2
  have kk := Lib.hid (show Keep (fun i => i = w.heap.size + 1) w6 ((((w6.setCell ⟨w.heap.size + 1, 0, none⟩ (.int .i64 M.now)).setCell ⟨w.heap.size + 1, 1, none⟩ (.slice x.ca M.cpus.length x.cc)).setCell ⟨w.heap.size + 1, 2, none⟩ (.slice x.ta M.tasks.length x.tc)).setCell ⟨w.heap.size + 1, 3, none⟩ (.slice x.ga M.groups.length x.gc)) from ((((Keep.set _ _ _ (by rfl)).trans (Keep.set _ _ _ (by rfl))).trans (Keep.set _ _ _ (by rfl))).trans (Keep.set _ _ _ (by rfl))))
  refine bodyPost_ret (v := .tuple #[.agg #[.int .i64 M.now, .slice x.ca M.cpus.length x.cc, .slice x.ta M.tasks.length x.tc, .slice x.ga M.groups.length x.gc], .int .i64 0]) (by simp [results, Tryz.results47, go_sem, *]) rfl ⟨⟨x.ca, x.cc, x.ta, x.tc, x.ga, x.gc, hset x.gh g nilH⟩, by simp [setG], B6.out.trans (kk.out.below B6.out.size fun i h => by omega), ?_⟩
  exact OW6.out.fin kk.out (fun i h => by have := S1.out; omega) (by have := S1.out; omega)
theorem sDrop_any (ca : Option Addr) (cc : Nat) (ta : Option Addr) (tc : Nat) (ga : Option Addr) (gc : Nat) (gh : Nat → GH) (M : WorldM) (w : World) (hs : WA w ca ta ga gh M) (hf : WFit M) (hB : worldB M = true) (g : Nat) (hg8 : g < 8) (hu : usedI M g = true) :
    Calls Tryz.prog 47 #[.agg #[.int .i64 M.now, .slice ca M.cpus.length cc, .slice ta M.tasks.length tc, .slice ga M.groups.length gc], .int .i64 g] w (WPost (dropW M g) (dropC M g) w) := by
  by_cases hg : g = 0
  · have e : dropC M g = 1 := by rw [dropC, if_pos hg]
    rw [dropW, e, if_neg (by omega)]
    by_cases hR : roomM M = true
    · exact sDrop_root_yes ca cc ta tc ga gc gh M w hs hf hB g hg8 hu hg hR
    · exact sDrop_root_end ca cc ta tc ga gc gh M w hs hf hB g hg8 hu hg (by simpa using hR)
  · by_cases hh : (kidsB M g || memsB M g) = true
    · have e : dropC M g = 4 := by rw [dropC, if_neg hg, if_pos hh]
      rw [dropW, e, if_neg (by omega)]
      by_cases hR : roomM M = true
      · exact sDrop_busy_yes ca cc ta tc ga gc gh M w hs hf hB g hg8 hu hg hR hh
      · exact sDrop_busy_end ca cc ta tc ga gc gh M w hs hf hB g hg8 hu hg (by simpa using hR) hh
    · have hh' : (kidsB M g || memsB M g) = false := by simpa only [Bool.not_eq_true] using hh
      by_cases hR : roomM M = true
      · have e : dropC M g = 0 := by rw [dropC, if_neg hg, if_neg hh, if_pos hR]
        rw [dropW, e, if_pos rfl]
        exact sDrop_done ca cc ta tc ga gc gh M w hs hf hB g hg8 hu hg hR hh'
      · have e : dropC M g = 10 := by rw [dropC, if_neg hg, if_neg hh, if_neg hR]
        rw [dropW, e, if_neg (by omega)]
        exact sDrop_end ca cc ta tc ga gc gh M w hs hf hB g hg8 hu hg (by simpa using hR) hh'
end Go.Proofs.YtknfpigaognklaaGreatDoor
namespace Go.Proofs.YtknfpigaognklaaGreatDoor
open Go.RowKit Go.Sort
/-- where the last stroke is, among the first ones -/
def lastK (p : ByteArray) : Nat → Nat
  | 0 => 0
  | k + 1 => if (p.data.toList.getD k 0).toNat = 47 then k else lastK p k
def splitD (p : ByteArray) : ByteArray := if lastK p p.size = 0 then ⟨#[47]⟩ else p.extract 0 (lastK p p.size)
def splitF (p : ByteArray) : ByteArray := p.extract (lastK p p.size + 1) p.size
theorem byte_at {p : ByteArray} {k : Nat} (h : k < p.size) : p.data.toList.getD k 0 = p[k] := by
  rw [List.getD_eq_getElem?_getD, List.getElem?_eq_getElem (by simpa using h)]; simp [ByteArray.getElem_eq_getElem_data]
theorem pathOk_parts {p : ByteArray} (h : pathOk p = true) : ∃ h1 : 0 < p.size, p.size ≤ 60 ∧ (p[0].toNat : Int) = 47 := by
  simp only [pathOk, Bool.and_eq_true, inR_iff, beq_iff_eq] at h
  have h1 : 0 < p.size := by omega
  refine ⟨h1, by omega, ?_⟩
  have h2 := h.2
  rw [List.head?_eq_getElem?, List.getElem?_eq_getElem (by simpa using h1)] at h2
  have e : p.data.toList[0] = p[0] := by simp [ByteArray.getElem_eq_getElem_data]
  simp only [Option.some.injEq] at h2
  rw [← e, h2]
  rfl
set_option maxRecDepth 100000 in
set_option maxHeartbeats 4000000 in
theorem sSplit_yes (p : ByteArray) (w : World) (h : pathOk p = true) :
    Calls Tryz.prog 44 #[.string p] w fun e w' => e = .returned (.tuple #[.string (splitD p), .string (splitF p), .bool true]) ∧ Below w.heap.size w w' := by
  obtain ⟨h1, h2, h3⟩ := pathOk_parts h
  have i1 : (1 : Int) ≤ (p.size : Int) := by omega
  have i2 : (p.size : Int) ≤ 60 := by omega
  have H1 := Lib.hid h1
  clear h h2
  go_enter Tryz.func44, Tryz.ntmps44
  go_wp2
  go_loopw [5] (fun i wr => ∃ k : Nat, k < p.size ∧ i = .int .i64 k ∧ lastK p (k + 1) = lastK p p.size ∧ w = wr) (fun i _ => (intOf i).toNat)
  case atStart => exact ⟨p.size - 1, by omega, by first | rfl | go_num, by rw [show p.size - 1 + 1 = p.size by omega], rfl⟩
  case round =>
    obtain ⟨k, hk, rfl, hl, rfl⟩ := hrel
    have HL := Lib.hid hl
    have k0 : (0 : Int) ≤ (k : Int) := by omega
    have k1 : (k : Int) < (p.size : Int) := by omega
    clear hl
    by_cases hb : (p[k].toNat : Int) = 47
    · have HK := Lib.hid (show lastK p p.size = k by rw [← HL.out, lastK, if_pos (by rw [byte_at hk]; omega)])
      by_cases hz : k = 0
      · subst hz
        go_wp2
        refine region_by [false, false, false, false, false] (by kernel_rfl) (by kernel_rfl) (by kernel_rfl) ?_
        repeat (first | (refine wpR_skip (by rfl) ?_; simp only [Act.put, List.setIfInBounds_toArray, List.set_cons_zero, List.set_cons_succ]) | (refine wpR_det (by rfl) (fun K hK => ?_); go_big_quiet_op; refine hK _ ?_; clear hK K))
        refine wpR_nil ?_
        go_wp2
        exact bodyPost_ret (v := .tuple #[.string ⟨#[47]⟩, .string (p.extract 1 p.size), .bool true]) (by simp [results, Tryz.results44, go_sem]; try rfl) rfl ⟨by rw [splitD, splitF, HK.out]; rfl, (Below.refl _ _).drew⟩
      · have hz1 : (1 : Int) ≤ (k : Int) := by omega
        have hz2 : ((k : Int) == 0) = false := by simpa using hz
        go_wp2
        refine region_by [false, false, false, false, false, false, false, false, false, false] (by kernel_rfl) (by kernel_rfl) (by kernel_rfl) ?_
        repeat (first | (refine wpR_skip (by rfl) ?_; simp only [Act.put, List.setIfInBounds_toArray, List.set_cons_zero, List.set_cons_succ]) | (refine wpR_det (by rfl) (fun K hK => ?_); go_big_quiet_op; refine hK _ ?_; clear hK K))
        refine wpR_nil ?_
        go_wp2
        exact bodyPost_ret (v := .tuple #[.string (p.extract 0 k), .string (p.extract (k + 1) p.size), .bool true]) (by simp [results, Tryz.results44, go_sem]; try rfl) rfl ⟨by rw [splitD, splitF, HK.out, if_neg hz], (Below.refl _ _).drew⟩
    · have hb2 : ((p[k].toNat : Int) == 47) = false := by simpa using hb
      have hz : k ≠ 0 := fun e => by subst e; exact hb h3
      have k2 : (1 : Int) ≤ (k : Int) := by omega
      have HN := Lib.hid (show lastK p (k - 1 + 1) = lastK p p.size by rw [← HL.out, show k - 1 + 1 = k by omega, lastK, if_neg (by rw [byte_at hk]; omega)])
      clear hb
      go_wp2
      go_roundw
      case rel => exact ⟨k - 1, by omega, by first | (rw [show ((k - 1 : Nat) : Int) = (k : Int) - 1 by omega]) | go_num, HN.out, by first | rfl | trivial⟩
      case measure => simp [intOf]; omega
set_option maxRecDepth 100000 in
set_option maxHeartbeats 4000000 in
theorem sSplit_no (p : ByteArray) (w : World) (h : pathOk p = false) :
    Calls Tryz.prog 44 #[.string p] w fun e w' => e = .returned (.tuple #[.string .empty, .string .empty, .bool false]) ∧ Below w.heap.size w w' := by
  by_cases h1 : p.size < 1
  · have i1 : (p.size : Int) < 1 := by omega
    clear h
    go_enter Tryz.func44, Tryz.ntmps44
    go_wp2
    exact bodyPost_ret (v := .tuple #[.string .empty, .string .empty, .bool false]) (by simp [results, Tryz.results44, go_sem]; try rfl) rfl ⟨rfl, Below.refl _ _⟩
  · by_cases h2 : 60 < p.size
    · have i1 : (1 : Int) ≤ (p.size : Int) := by omega
      have i2 : 60 < (p.size : Int) := by omega
      clear h
      go_enter Tryz.func44, Tryz.ntmps44
      go_wp2
      exact bodyPost_ret (v := .tuple #[.string .empty, .string .empty, .bool false]) (by simp [results, Tryz.results44, go_sem]; try rfl) rfl ⟨rfl, Below.refl _ _⟩
    · have i1 : (1 : Int) ≤ (p.size : Int) := by omega
      have i2 : (p.size : Int) ≤ 60 := by omega
      have h0 : 0 < p.size := by omega
      have i3 : ((p[0].toNat : Int) == 47) = false := by
        have e : p.data.toList[0]'(by simpa using h0) = p[0] := by simp [ByteArray.getElem_eq_getElem_data]
        simp only [pathOk, inR, Bool.and_eq_false_iff, decide_eq_false_iff_not, beq_eq_false_iff_ne] at h
        have h5 : p.data.toList.head? ≠ some 47 := by rcases h with (h | h) | h <;> first | omega | exact h
        rw [List.head?_eq_getElem?, List.getElem?_eq_getElem (by simpa using h0)] at h5
        rw [beq_eq_false_iff_ne]
        intro e2
        apply h5
        have e3 : p[0].toNat = 47 := by omega
        rw [e, Option.some.injEq]
        exact UInt8.toNat_inj.1 e3
      have i4 : ((p[0].toNat : Int) != 47) = true := by simpa using i3
      clear h h1 h2
      go_enter Tryz.func44, Tryz.ntmps44
      go_wp2
      exact bodyPost_ret (v := .tuple #[.string .empty, .string .empty, .bool false]) (by simp [results, Tryz.results44, go_sem]; try rfl) rfl ⟨rfl, Below.refl _ _⟩
set_option maxRecDepth 100000 in
set_option maxHeartbeats 4000000 in
theorem sFind_any (ca ta ga : Option Addr) (gc : Nat) (gh : Nat → GH) (M : WorldM) (w : World) (hs : WA w ca ta ga gh M) (hF : FitG M) (hB : worldB M = true) (hx : NextOk M) (p : ByteArray) :
    Calls Tryz.prog 46 #[.slice ga M.groups.length gc, .string p] w fun e w' => e = .returned (.int .i64 (findI M p)) ∧ Below w.heap.size w w' := by
  have HTB := Lib.hid (treeB_of hB)
  have HT := Lib.hid (tree_of HTB.out)
  have NO := Lib.hid (numOk_of hB hx)
  have HF := Lib.hid hF
  have HL := Lib.hid HT.out.len
  have HS := Lib.hid hs
  have hgm := hF.group
  clear hB hx hF
  go_enter Tryz.func46, Tryz.ntmps46
  go_wp2_with (go_at_call 65; refine (sTreeOk_any ca ta ga gc gh M _ hs HF.out.group HF.out.name).mono ?_; rintro e w2 ⟨rfl, hb2⟩; rw [HTB.out])
  have B2 := Lib.hid hb2
  have hs2 := hs.keep hb2
  clear hb2
  go_loopw [5] (fun i wr => ∃ k : Nat, k ≤ M.groups.length ∧ i = .int .i64 k ∧ findN M p k = none ∧ Below w2.heap.size w2 wr) (fun i _ => M.groups.length - (intOf i).toNat)
  case atStart => exact ⟨0, Nat.zero_le _, rfl, rfl, Below.refl _ _⟩
  case round =>
    obtain ⟨k, hk, rfl, hn, hb⟩ := hrel
    have HN := Lib.hid hn
    have HB := Lib.hid hb
    have hs3 := hs2.keep hb
    have HS3 := Lib.hid hs3
    clear hn hb
    by_cases hlt : k < M.groups.length
    · obtain ⟨b, o, rfl, hB, c0, _⟩ := hs3.group_ hlt
      have i0 : (0 : Int) ≤ (k : Int) := by omega
      have i1 : (k : Int) < (M.groups.length : Int) := by omega
      have hk8 : k < 8 := by have := HL.out; omega
      by_cases hu : (grp M k).used = true
      · rw [hu] at c0
        have HU := Lib.hid hu
        clear hu
        by_cases he : ((strB (pathB M k)).toList == p.toList) = true
        · have HI := Lib.hid (show findI M p = (k : Int) by
            have : isAt M p k = true := by rw [isAt, HU.out, he]; rfl
            rw [findI, findM, findN_here HN.out this hk8])
          go_wp2_with (go_at_call 83; refine (sTreePath_any ca ta _ gc gh M _ HS3.out HT.out HTB.out NO.out HF.out.group HF.out.name k hk8 HU.out).mono ?_; rintro e w4 ⟨rfl, hb4⟩)
          go_ret
          exact ⟨ret_int HI.out.symm, (B2.out.andThen HB.out).andThen hb4⟩
        · have HI := Lib.hid (show findN M p (k + 1) = none from findN_next HN.out (by rw [isAt, HU.out, Bool.true_and]; simpa only [Bool.not_eq_true] using he))
          have he2 : ((strB (pathB M k)).toList == p.toList) = false := by simpa only [Bool.not_eq_true] using he
          clear he
          go_wp2_with (go_at_call 83; refine (sTreePath_any ca ta _ gc gh M _ HS3.out HT.out HTB.out NO.out HF.out.group HF.out.name k hk8 HU.out).mono ?_; rintro e w4 ⟨rfl, hb4⟩)
          go_roundw
          case rel => exact ⟨k + 1, by omega, by go_num, HI.out, HB.out.andThen hb4⟩
          case measure => simp [intOf]; omega
      · have hu' : (grp M k).used = false := by simpa using hu
        rw [hu'] at c0
        have HI := Lib.hid (show findN M p (k + 1) = none from findN_next HN.out (by rw [isAt, hu']; rfl))
        clear hu hu'
        go_wp2
        go_roundw
        case rel => exact ⟨k + 1, by omega, by go_num, HI.out, HB.out⟩
        case measure => simp [intOf]; omega
    · have HI := Lib.hid (show findI M p = -1 by
        have e : k = 8 := by have := HL.out; omega
        have := HN.out
        rw [e] at this
        rw [findI, findM, this])
      go_wp2
      go_ret
      exact ⟨ret_int HI.out.symm, B2.out.andThen HB.out⟩
end Go.Proofs.YtknfpigaognklaaGreatDoor
namespace Go.Proofs.YtknfpigaognklaaGreatDoor
open Go.RowKit Go.Sort
set_option maxRecDepth 100000 in
set_option maxHeartbeats 4000000 in
theorem sFileDrop_bad (ca : Option Addr) (cc : Nat) (ta : Option Addr) (tc : Nat) (ga : Option Addr) (gc : Nat) (gh : Nat → GH) (M : WorldM) (w : World) (hs : WA w ca ta ga gh M) (hf : WFit M) (p : ByteArray) (hB : worldB M = false) :
    Calls Tryz.prog 14 #[.agg #[.int .i64 M.now, .slice ca M.cpus.length cc, .slice ta M.tasks.length tc, .slice ga M.groups.length gc], .string p] w (WPost world0 1 w) := by
  have HWB := Lib.hid hB
  clear hB
  go_enter Tryz.func14, Tryz.ntmps14
  go_upto_region 1 with (fail)
  refine gen2 (p := fun W => Code.wp _ _ _ _ W) ?_
  intro W b1 s1 k0 k1
  have B1 := Lib.hid b1
  have K0 := Lib.hid k0
  have K1 := Lib.hid k1
  have S1 := Lib.hid s1
  have hs1 := hs.keep b1
  clear b1 k0 k1 hs s1
  have c0 := K0.out.cell 0
  have c1 := K0.out.cell 1
  have c2 := K0.out.cell 2
  have c3 := K0.out.cell 3
  have cf := fun i => K0.out.frozen i
  simp at c0 c1 c2 c3
  go_wp2_with fail
  refine (sWorldOk_any ca cc ta tc ga gc gh M _ hs1 (fitG_of hf)).mono ?_
  rintro e w2 ⟨rfl, hb2⟩
  rw [HWB.out]
  have K1b := Lib.hid (K1.out.below hb2 K1.out.lt)
  clear c0 c1 c2 c3 cf
  have d0 := K1b.out.cell 0
  have d1 := K1b.out.cell 1
  have d2 := K1b.out.cell 2
  have d3 := K1b.out.cell 3
  have df := fun i => K1b.out.frozen i
  simp at d0 d1 d2 d3
  go_wp2
  refine bodyPost_ret (v := .tuple #[.agg #[.int .i64 0, .slice none 0 0, .slice none 0 0, .slice none 0 0], .int .i64 1]) (by simp [results, Tryz.results14, go_sem, *]) rfl ⟨⟨none, 0, none, 0, none, 0, gh⟩, rfl, ?_, own0 _ _ _⟩
  exact ((((B1.out.andThen hb2).setCell (by simp) _).setCell (by simp) _).setCell (by simp) _).setCell (by simp) _
set_option maxRecDepth 100000 in
set_option maxHeartbeats 4000000 in
theorem sFileDrop_path (ca : Option Addr) (cc : Nat) (ta : Option Addr) (tc : Nat) (ga : Option Addr) (gc : Nat) (gh : Nat → GH) (M : WorldM) (w : World) (hs : WA w ca ta ga gh M) (hf : WFit M) (p : ByteArray) (hB : worldB M = true) (hp : pathOk p = false) :
    Calls Tryz.prog 14 #[.agg #[.int .i64 M.now, .slice ca M.cpus.length cc, .slice ta M.tasks.length tc, .slice ga M.groups.length gc], .string p] w (WPost M 1 w) := by
  have HWB := Lib.hid hB
  have HP := Lib.hid hp
  clear hB hp
  go_enter Tryz.func14, Tryz.ntmps14
  go_upto_region 1 with (fail)
  refine gen2 (p := fun W => Code.wp _ _ _ _ W) ?_
  intro W b1 s1 k0 k1
  have B1 := Lib.hid b1
  have K0 := Lib.hid k0
  have K1 := Lib.hid k1
  have S1 := Lib.hid s1
  have hs1 := hs.keep b1
  clear b1 k0 k1 hs s1
  have c0 := K0.out.cell 0
  have c1 := K0.out.cell 1
  have c2 := K0.out.cell 2
  have c3 := K0.out.cell 3
  have cf := fun i => K0.out.frozen i
  simp at c0 c1 c2 c3
  go_wp2_with fail
  refine (sWorldOk_any ca cc ta tc ga gc gh M _ hs1 (fitG_of hf)).mono ?_
  rintro e w2 ⟨rfl, hb2⟩
  rw [HWB.out]
  have K0b := Lib.hid (K0.out.below hb2 K0.out.lt)
  have K1b := Lib.hid (K1.out.below hb2 K1.out.lt)
  have HS2 := Lib.hid (hs1.keep hb2)
  have B2 := Lib.hid (B1.out.andThen hb2)
  have Z2 := Lib.hid hb2.size
  clear c0 c1 c2 c3 cf
  clear hs1 hb2 K0 K1 B1
  have c0 := K0b.out.cell 0
  have c1 := K0b.out.cell 1
  have c2 := K0b.out.cell 2
  have c3 := K0b.out.cell 3
  have cf := fun i => K0b.out.frozen i
  simp at c0 c1 c2 c3
  go_wp2_with fail
  refine (sSplit_no p _ HP.out).mono ?_
  rintro e w3 ⟨rfl, hb3⟩
  have K0c := Lib.hid (K0b.out.below hb3 K0b.out.lt)
  have K1c := Lib.hid (K1b.out.below hb3 K1b.out.lt)
  have HS3 := Lib.hid (HS2.out.keep hb3)
  have B3 := Lib.hid (B2.out.andThen hb3)
  have Z3 := Lib.hid (Nat.le_trans Z2.out hb3.size)
  clear c0 c1 c2 c3 cf
  clear hb3 K0b K1b HS2 B2 Z2
  have c0 := K0c.out.cell 0
  have c1 := K0c.out.cell 1
  have c2 := K0c.out.cell 2
  have c3 := K0c.out.cell 3
  have cf := fun i => K0c.out.frozen i
  simp at c0 c1 c2 c3
  go_wp2_with fail
  refine (sL8Own_any ⟨ca, cc, ta, tc, ga, gc, gh⟩ M _ (watOf HS3.out) hf (band_len HWB.out)).mono ?_
  rintro e w9 ⟨x, rfl, hb9, ow⟩
  have K1z := Lib.hid (K1c.out.below hb9 K1c.out.lt)
  have BZ := Lib.hid (B3.out.andThen hb9)
  have OW := Lib.hid ow
  clear c0 c1 c2 c3 cf
  clear hb9 ow
  have d0 := K1z.out.cell 0
  have d1 := K1z.out.cell 1
  have d2 := K1z.out.cell 2
  have d3 := K1z.out.cell 3
  have df := fun i => K1z.out.frozen i
  simp at d0 d1 d2 d3
  go_wp2
  have kk := Lib.hid (show Keep (fun i => i = w.heap.size + 1) w9 ((((w9.setCell ⟨w.heap.size + 1, 0, none⟩ (.int .i64 M.now)).setCell ⟨w.heap.size + 1, 1, none⟩ (.slice x.ca M.cpus.length x.cc)).setCell ⟨w.heap.size + 1, 2, none⟩ (.slice x.ta M.tasks.length x.tc)).setCell ⟨w.heap.size + 1, 3, none⟩ (.slice x.ga M.groups.length x.gc)) from ((((Keep.set _ _ _ (by rfl)).trans (Keep.set _ _ _ (by rfl))).trans (Keep.set _ _ _ (by rfl))).trans (Keep.set _ _ _ (by rfl))))
  refine bodyPost_ret (v := .tuple #[.agg #[.int .i64 M.now, .slice x.ca M.cpus.length x.cc, .slice x.ta M.tasks.length x.tc, .slice x.ga M.groups.length x.gc], .int .i64 1]) (by simp [results, Tryz.results14, go_sem, *]) rfl ⟨x, rfl, BZ.out.trans (kk.out.below BZ.out.size fun i h => by omega), ?_⟩
  exact OW.out.fin kk.out (fun i h => by have := S1.out; have := Z3.out; omega) (by have := S1.out; have := Z3.out; omega)
set_option maxRecDepth 100000 in
set_option maxHeartbeats 4000000 in
theorem sFileDrop_none (ca : Option Addr) (cc : Nat) (ta : Option Addr) (tc : Nat) (ga : Option Addr) (gc : Nat) (gh : Nat → GH) (M : WorldM) (w : World) (hs : WA w ca ta ga gh M) (hf : WFit M) (p : ByteArray) (hB : worldB M = true) (hx : NextOk M) (hp : pathOk p = true) (hn : findM M p = none) :
    Calls Tryz.prog 14 #[.agg #[.int .i64 M.now, .slice ca M.cpus.length cc, .slice ta M.tasks.length tc, .slice ga M.groups.length gc], .string p] w (WPost M 2 w) := by
  have HWB := Lib.hid hB
  have HX := Lib.hid hx
  have HP := Lib.hid hp
  have HFI := Lib.hid (show findI M p = -1 by rw [findI, hn])
  clear hB hp hn hx
  go_enter Tryz.func14, Tryz.ntmps14
  go_upto_region 1 with (fail)
  refine gen2 (p := fun W => Code.wp _ _ _ _ W) ?_
  intro W b1 s1 k0 k1
  have B1 := Lib.hid b1
  have K0 := Lib.hid k0
  have K1 := Lib.hid k1
  have S1 := Lib.hid s1
  have hs1 := hs.keep b1
  clear b1 k0 k1 hs s1
  have c0 := K0.out.cell 0
  have c1 := K0.out.cell 1
  have c2 := K0.out.cell 2
  have c3 := K0.out.cell 3
  have cf := fun i => K0.out.frozen i
  simp at c0 c1 c2 c3
  go_wp2_with fail
  refine (sWorldOk_any ca cc ta tc ga gc gh M _ hs1 (fitG_of hf)).mono ?_
  rintro e w2 ⟨rfl, hb2⟩
  rw [HWB.out]
  have K0b := Lib.hid (K0.out.below hb2 K0.out.lt)
  have K1b := Lib.hid (K1.out.below hb2 K1.out.lt)
  have HS2 := Lib.hid (hs1.keep hb2)
  have B2 := Lib.hid (B1.out.andThen hb2)
  have Z2 := Lib.hid hb2.size
  clear c0 c1 c2 c3 cf
  clear hs1 hb2 K0 K1 B1
  have c0 := K0b.out.cell 0
  have c1 := K0b.out.cell 1
  have c2 := K0b.out.cell 2
  have c3 := K0b.out.cell 3
  have cf := fun i => K0b.out.frozen i
  simp at c0 c1 c2 c3
  go_wp2_with fail
  refine (sSplit_yes p _ HP.out).mono ?_
  rintro e w3 ⟨rfl, hb3⟩
  have K0c := Lib.hid (K0b.out.below hb3 K0b.out.lt)
  have K1c := Lib.hid (K1b.out.below hb3 K1b.out.lt)
  have HS3 := Lib.hid (HS2.out.keep hb3)
  have B3 := Lib.hid (B2.out.andThen hb3)
  have Z3 := Lib.hid (Nat.le_trans Z2.out hb3.size)
  clear c0 c1 c2 c3 cf
  clear hb3 K0b K1b HS2 B2 Z2
  have c0 := K0c.out.cell 0
  have c1 := K0c.out.cell 1
  have c2 := K0c.out.cell 2
  have c3 := K0c.out.cell 3
  have cf := fun i => K0c.out.frozen i
  simp at c0 c1 c2 c3
  go_wp2_with fail
  refine (sFind_any ca ta ga gc gh M _ HS3.out (fitG_of hf) HWB.out HX.out p).mono ?_
  rintro e w4 ⟨rfl, hb4⟩
  rw [HFI.out]
  have K0d := Lib.hid (K0c.out.below hb4 K0c.out.lt)
  have K1d := Lib.hid (K1c.out.below hb4 K1c.out.lt)
  have HS4 := Lib.hid (HS3.out.keep hb4)
  have B4 := Lib.hid (B3.out.andThen hb4)
  have Z4 := Lib.hid (Nat.le_trans Z3.out hb4.size)
  clear c0 c1 c2 c3 cf
  clear hb4 K0c K1c HS3 B3 Z3
  have c0 := K0d.out.cell 0
  have c1 := K0d.out.cell 1
  have c2 := K0d.out.cell 2
  have c3 := K0d.out.cell 3
  have cf := fun i => K0d.out.frozen i
  simp at c0 c1 c2 c3
  go_wp2_with fail
  refine (sL8Own_any ⟨ca, cc, ta, tc, ga, gc, gh⟩ M _ (watOf HS4.out) hf (band_len HWB.out)).mono ?_
  rintro e w9 ⟨x, rfl, hb9, ow⟩
  have K1z := Lib.hid (K1d.out.below hb9 K1d.out.lt)
  have BZ := Lib.hid (B4.out.andThen hb9)
  have OW := Lib.hid ow
  clear c0 c1 c2 c3 cf
  clear hb9 ow
  have d0 := K1z.out.cell 0
  have d1 := K1z.out.cell 1
  have d2 := K1z.out.cell 2
  have d3 := K1z.out.cell 3
  have df := fun i => K1z.out.frozen i
  simp at d0 d1 d2 d3
  go_wp2
  have kk := Lib.hid (show Keep (fun i => i = w.heap.size + 1) w9 ((((w9.setCell ⟨w.heap.size + 1, 0, none⟩ (.int .i64 M.now)).setCell ⟨w.heap.size + 1, 1, none⟩ (.slice x.ca M.cpus.length x.cc)).setCell ⟨w.heap.size + 1, 2, none⟩ (.slice x.ta M.tasks.length x.tc)).setCell ⟨w.heap.size + 1, 3, none⟩ (.slice x.ga M.groups.length x.gc)) from ((((Keep.set _ _ _ (by rfl)).trans (Keep.set _ _ _ (by rfl))).trans (Keep.set _ _ _ (by rfl))).trans (Keep.set _ _ _ (by rfl))))
  refine bodyPost_ret (v := .tuple #[.agg #[.int .i64 M.now, .slice x.ca M.cpus.length x.cc, .slice x.ta M.tasks.length x.tc, .slice x.ga M.groups.length x.gc], .int .i64 2]) (by simp [results, Tryz.results14, go_sem, *]) rfl ⟨x, rfl, BZ.out.trans (kk.out.below BZ.out.size fun i h => by omega), ?_⟩
  exact OW.out.fin kk.out (fun i h => by have := S1.out; have := Z4.out; omega) (by have := S1.out; have := Z4.out; omega)
set_option maxRecDepth 100000 in
set_option maxHeartbeats 4000000 in
theorem sFileDrop_some (ca : Option Addr) (cc : Nat) (ta : Option Addr) (tc : Nat) (ga : Option Addr) (gc : Nat) (gh : Nat → GH) (M : WorldM) (w : World) (hs : WA w ca ta ga gh M) (hf : WFit M) (p : ByteArray) (hB : worldB M = true) (hx : NextOk M) (hp : pathOk p = true) (g : Nat) (hn : findM M p = some g) :
    Calls Tryz.prog 14 #[.agg #[.int .i64 M.now, .slice ca M.cpus.length cc, .slice ta M.tasks.length tc, .slice ga M.groups.length gc], .string p] w (WPost (dropW M g) (dropC M g) w) := by
  have hgu := findN_some hn
  have hg8 : g < 8 := hgu.1
  have hus : (grp M g).used = true := by have := hgu.2; rw [isAt, Bool.and_eq_true] at this; exact this.1
  have HU := Lib.hid (show usedI M g = true by have := (facts_of hB).tree.len; simp only [usedI, Int.toNat_natCast, hus, Bool.and_true, Bool.and_eq_true, decide_eq_true_eq]; omega)
  have HWB := Lib.hid hB
  have HX := Lib.hid hx
  have HP := Lib.hid hp
  have HFI := Lib.hid (show findI M p = (g : Int) by rw [findI, hn])
  have hg0 : (0 : Int) ≤ (g : Int) := by omega
  clear hB hp hn hx hgu hus
  go_enter Tryz.func14, Tryz.ntmps14
  go_upto_region 1 with (fail)
  refine gen2 (p := fun W => Code.wp _ _ _ _ W) ?_
  intro W b1 s1 k0 k1
  have B1 := Lib.hid b1
  have K0 := Lib.hid k0
  have K1 := Lib.hid k1
  have S1 := Lib.hid s1
  have hs1 := hs.keep b1
  clear b1 k0 k1 hs s1
  have c0 := K0.out.cell 0
  have c1 := K0.out.cell 1
  have c2 := K0.out.cell 2
  have c3 := K0.out.cell 3
  have cf := fun i => K0.out.frozen i
  simp at c0 c1 c2 c3
  go_wp2_with fail
  refine (sWorldOk_any ca cc ta tc ga gc gh M _ hs1 (fitG_of hf)).mono ?_
  rintro e w2 ⟨rfl, hb2⟩
  rw [HWB.out]
  have K0b := Lib.hid (K0.out.below hb2 K0.out.lt)
  have K1b := Lib.hid (K1.out.below hb2 K1.out.lt)
  have HS2 := Lib.hid (hs1.keep hb2)
  have B2 := Lib.hid (B1.out.andThen hb2)
  have Z2 := Lib.hid hb2.size
  clear c0 c1 c2 c3 cf
  clear hs1 hb2 K0 K1 B1
  have c0 := K0b.out.cell 0
  have c1 := K0b.out.cell 1
  have c2 := K0b.out.cell 2
  have c3 := K0b.out.cell 3
  have cf := fun i => K0b.out.frozen i
  simp at c0 c1 c2 c3
  go_wp2_with fail
  refine (sSplit_yes p _ HP.out).mono ?_
  rintro e w3 ⟨rfl, hb3⟩
  have K0c := Lib.hid (K0b.out.below hb3 K0b.out.lt)
  have K1c := Lib.hid (K1b.out.below hb3 K1b.out.lt)
  have HS3 := Lib.hid (HS2.out.keep hb3)
  have B3 := Lib.hid (B2.out.andThen hb3)
  have Z3 := Lib.hid (Nat.le_trans Z2.out hb3.size)
  clear c0 c1 c2 c3 cf
  clear hb3 K0b K1b HS2 B2 Z2
  have c0 := K0c.out.cell 0
  have c1 := K0c.out.cell 1
  have c2 := K0c.out.cell 2
  have c3 := K0c.out.cell 3
  have cf := fun i => K0c.out.frozen i
  simp at c0 c1 c2 c3
  go_wp2_with fail
  refine (sFind_any ca ta ga gc gh M _ HS3.out (fitG_of hf) HWB.out HX.out p).mono ?_
  rintro e w4 ⟨rfl, hb4⟩
  rw [HFI.out]
  have K0d := Lib.hid (K0c.out.below hb4 K0c.out.lt)
  have K1d := Lib.hid (K1c.out.below hb4 K1c.out.lt)
  have HS4 := Lib.hid (HS3.out.keep hb4)
  have B4 := Lib.hid (B3.out.andThen hb4)
  have Z4 := Lib.hid (Nat.le_trans Z3.out hb4.size)
  clear c0 c1 c2 c3 cf
  clear hb4 K0c K1c HS3 B3 Z3
  have c0 := K0d.out.cell 0
  have c1 := K0d.out.cell 1
  have c2 := K0d.out.cell 2
  have c3 := K0d.out.cell 3
  have cf := fun i => K0d.out.frozen i
  simp at c0 c1 c2 c3
  go_wp2_with fail
  refine (sDrop_any ca cc ta tc ga gc gh M _ HS4.out hf HWB.out g hg8 HU.out).mono ?_
  rintro e w9 ⟨x, rfl, hb9, ow⟩
  have K1z := Lib.hid (K1d.out.below hb9 K1d.out.lt)
  have BZ := Lib.hid (B4.out.andThen hb9)
  have OW := Lib.hid ow
  clear c0 c1 c2 c3 cf
  clear hb9 ow
  generalize dropW M g = M' at *
  generalize dropC M g = c at *
  have d0 := K1z.out.cell 0
  have d1 := K1z.out.cell 1
  have d2 := K1z.out.cell 2
  have d3 := K1z.out.cell 3
  have df := fun i => K1z.out.frozen i
  simp at d0 d1 d2 d3
  go_wp2
  have kk := Lib.hid (show Keep (fun i => i = w.heap.size + 1) w9 ((((w9.setCell ⟨w.heap.size + 1, 0, none⟩ (.int .i64 M'.now)).setCell ⟨w.heap.size + 1, 1, none⟩ (.slice x.ca M'.cpus.length x.cc)).setCell ⟨w.heap.size + 1, 2, none⟩ (.slice x.ta M'.tasks.length x.tc)).setCell ⟨w.heap.size + 1, 3, none⟩ (.slice x.ga M'.groups.length x.gc)) from ((((Keep.set _ _ _ (by rfl)).trans (Keep.set _ _ _ (by rfl))).trans (Keep.set _ _ _ (by rfl))).trans (Keep.set _ _ _ (by rfl))))
  refine bodyPost_ret (v := .tuple #[.agg #[.int .i64 M'.now, .slice x.ca M'.cpus.length x.cc, .slice x.ta M'.tasks.length x.tc, .slice x.ga M'.groups.length x.gc], .int .i64 c]) (by simp [results, Tryz.results14, go_sem, *]) rfl ⟨x, rfl, BZ.out.trans (kk.out.below BZ.out.size fun i h => by omega), ?_⟩
  exact OW.out.fin kk.out (fun i h => by have := S1.out; have := Z4.out; omega) (by have := S1.out; have := Z4.out; omega)
theorem sFileDrop_any (ca : Option Addr) (cc : Nat) (ta : Option Addr) (tc : Nat) (ga : Option Addr) (gc : Nat) (gh : Nat → GH) (M : WorldM) (w : World) (hs : WA w ca ta ga gh M) (hf : WFit M) (p : ByteArray) (hx : NextOk M) :
    Calls Tryz.prog 14 #[.agg #[.int .i64 M.now, .slice ca M.cpus.length cc, .slice ta M.tasks.length tc, .slice ga M.groups.length gc], .string p] w (WPost (fdropW M p) (fdropC M p) w) := by
  by_cases hB : worldB M = true
  · by_cases hp : pathOk p = true
    · rw [fdropW, fdropC, if_pos hB, if_pos hB, if_pos hp, if_pos hp]
      cases hn : findM M p with
      | none => exact sFileDrop_none ca cc ta tc ga gc gh M w hs hf p hB hx hp hn
      | some g => exact sFileDrop_some ca cc ta tc ga gc gh M w hs hf p hB hx hp g hn
    · rw [fdropW, fdropC, if_pos hB, if_pos hB, if_neg hp, if_neg hp]
      exact sFileDrop_path ca cc ta tc ga gc gh M w hs hf p hB (by simpa using hp)
  · rw [fdropW, fdropC, if_neg hB, if_neg hB]
    exact sFileDrop_bad ca cc ta tc ga gc gh M w hs hf p (by simpa using hB)
end Go.Proofs.YtknfpigaognklaaGreatDoor
