/- Plain functions on worlds: online processors, pins, allowed ones, active, dry, in line. No program in sight. -/
import Derived.Test.YtknfpigaognklaaGreatDoorMd
import Derived.Test.YtknfpigaognklaaGreatDoorWa
namespace Go.Proofs.YtknfpigaognklaaGreatDoor
open Go.RowKit
theorem any_succ (p : Nat → Bool) (k : Nat) : (List.range (k + 1)).any p = ((List.range k).any p || p k) := by
  rw [List.range_succ, List.any_append]; simp
theorem all_succ (p : Nat → Bool) (k : Nat) : (List.range (k + 1)).all p = ((List.range k).all p && p k) := by
  rw [List.range_succ, List.all_append]; simp
theorem any_of {p : Nat → Bool} {k n : Nat} (h : k < n) (hp : p k = true) : (List.range n).any p = true := by
  rw [List.any_eq_true]; exact ⟨k, by simpa using h, hp⟩
theorem all_of {p : Nat → Bool} {k n : Nat} (h : k < n) (hp : p k = false) : (List.range n).all p = false := by
  rw [List.all_eq_false]; exact ⟨k, by simpa using h, by simp [hp]⟩
def upsTo (M : WorldM) : Nat → Int
  | 0 => 0
  | k + 1 => upsTo M k + if (cpo M k).up then 2 ^ k else 0
def ups (M : WorldM) : Int := upsTo M M.cpus.length
theorem upsTo_bd (M : WorldM) : ∀ k : Nat, k ≤ 4 → 0 ≤ upsTo M k ∧ upsTo M k < 2 ^ k
  | 0, _ => by simp [upsTo]
  | k + 1, h => by
    have ih := upsTo_bd M k (by omega)
    have e : (2 : Int) ^ (k + 1) = 2 ^ k * 2 := Int.pow_succ 2 k
    have hp : (0 : Int) ≤ 2 ^ k := Int.pow_nonneg (by omega)
    simp only [upsTo]
    split <;> omega
theorem ups_bd (M : WorldM) (h : M.cpus.length ≤ 4) : 0 ≤ ups M ∧ ups M ≤ 15 := by
  have h1 := upsTo_bd M M.cpus.length h
  have h2 : (2 : Int) ^ M.cpus.length ≤ 2 ^ 4 := by
    have : M.cpus.length = 0 ∨ M.cpus.length = 1 ∨ M.cpus.length = 2 ∨ M.cpus.length = 3 ∨ M.cpus.length = 4 := by omega
    rcases this with e | e | e | e | e <;> rw [e] <;> decide
  unfold ups
  omega
/-- the parent's place -/
def par (M : WorldM) (g : Nat) : Nat := (grp M g).parent.toNat
def dpF (M : WorldM) : Nat → Nat → Nat
  | 0, _ => 0
  | f + 1, g => if g = 0 then 0 else dpF M f (par M g) + 1
/-- how deep a group is -/
def dp (M : WorldM) (g : Nat) : Nat := dpF M 8 g
/-- what holds of the groups of a world whose tree is one -/
structure Tree (M : WorldM) : Prop where
  len : M.groups.length = 8
  root : (grp M 0).used = true
  rpar : (grp M 0).parent = -1
  rname : (grp M 0).name.toList = []
  up : ∀ g, g < 8 → (grp M g).used = true → g ≠ 0 → (grp M g).parent = (par M g : Int) ∧ par M g < 8 ∧ (grp M (par M g)).used = true ∧ dp M g = dp M (par M g) + 1
  dp3 : ∀ g, g < 8 → (grp M g).used = true → dp M g ≤ 3
theorem dp_zero (M : WorldM) : dp M 0 = 0 := rfl
def chF (M : WorldM) : Nat → Nat → List Nat
  | 0, g => [g]
  | d + 1, g => g :: chF M d (par M g)
/-- a group, its parent, and so on to the root -/
def ch (M : WorldM) (g : Nat) : List Nat := chF M (dp M g) g
theorem ch_zero (M : WorldM) : ch M 0 = [0] := rfl
theorem Tree.ch_step {M : WorldM} (h : Tree M) {g : Nat} (hg : g < 8) (hu : (grp M g).used = true) (h0 : g ≠ 0) : ch M g = g :: ch M (par M g) := by
  unfold ch
  rw [(h.up g hg hu h0).2.2.2]
  rfl
theorem ch_cons (M : WorldM) (g : Nat) : ch M g = g :: (ch M g).tail := by
  unfold ch
  cases dp M g <;> rfl
def pinsL (M : WorldM) (m : Int) (l : List Nat) : Int := l.foldl (fun m p => mand m (grp M p).cpus) m
/-- the pins of a group, but for who is online -/
def pins (M : WorldM) (g : Nat) : Int := pinsL M (grp M g).cpus (ch M g).tail
/-- the allowed processors -/
def whereM (M : WorldM) (g : Nat) (mask : Int) : Int :=
  if mand mask (mand (pins M g) (ups M)) ≠ 0 then mand mask (mand (pins M g) (ups M)) else if mand (pins M g) (ups M) ≠ 0 then mand (pins M g) (ups M) else ups M
/-- is a task an entry of a queue -/
def tq (M : WorldM) (t : Nat) (g c : Int) : Bool := (tsk M t).st == 1 && (tsk M t).gr == g && (tsk M t).cpu == c
/-- is a group an entry of a queue -/
def gq (M : WorldM) (h : Nat) (g : Int) (c : Nat) : Bool := (h != 0) && ((grp M h).used && ((grp M h).parent == g) && (she M h c).on)
def act (M : WorldM) (g : Int) (c : Nat) : Bool := (List.range M.tasks.length).any (fun t => tq M t g c) || (List.range M.groups.length).any (fun h => gq M h g c)
def dryM (M : WorldM) (g c : Nat) : Bool := decide (0 < (grp M g).band.quota) && (grp M g).band.dry.getD c false
def onL (M : WorldM) (c : Nat) (l : List Nat) : Bool := l.all fun p => p == 0 || (she M p c).on
/-- is a task in line -/
def lineM (M : WorldM) (t : Nat) : Bool := (tsk M t).st == 1 && onL M (tsk M t).cpu.toNat (ch M (tsk M t).gr.toNat)
/-- is one placed properly; the difference as the machine has it -/
def standW (v floor w : Int) : Bool := decide (floor ≤ v) && decide (wrap64 (v - floor) ≤ lagM w)
/-- shapes of what hangs on groups -/
structure GOk (M : WorldM) : Prop where
  she : ∀ g, g < 8 → (grp M g).used = true → (grp M g).shelves.length = M.cpus.length
  dry : ∀ g, g < 8 → (grp M g).used = true → 0 < (grp M g).band.quota → (grp M g).band.dry.length = M.cpus.length ∧ (grp M g).band.locals.length = M.cpus.length
def noBand (x : BandM) : Bool := (x.quota == 0) && (x.pool == 0) && (x.spent == 0) && ((x.locals.length : Int) == 0) && ((x.dry.length : Int) == 0)
def lcB (x : BandM) (c : Nat) : Bool := inR (x.locals.getD c 0) 0 x.quota && !(x.dry.getD c false && (decide (0 < x.locals.getD c 0) || decide (0 < x.pool)))
def lsum (x : BandM) : Nat → Int
  | 0 => 0
  | k + 1 => lsum x k + x.locals.getD k 0
def bandHead (x : BandM) : Bool := inR x.quota 1 10000 && inR x.locals.length 1 4 && (x.dry.length == x.locals.length) && inR x.pool 0 x.quota && inR x.spent 0 x.quota
/-- a valid band -/
def bandB (x : BandM) : Bool := bandHead x && (List.range x.locals.length).all (lcB x) && (x.pool + x.spent + lsum x x.locals.length == x.quota)
theorem lcB_bd {x : BandM} {c : Nat} (h : lcB x c = true) : 0 ≤ x.locals.getD c 0 ∧ x.locals.getD c 0 ≤ x.quota := by
  simp only [lcB, Bool.and_eq_true, inR_iff] at h
  exact h.1
theorem lsum_bd {x : BandM} (hq : x.quota ≤ 10000) : ∀ k : Nat, (List.range k).all (lcB x) = true → 0 ≤ lsum x k ∧ lsum x k ≤ k * 10000
  | 0, _ => by simp [lsum]
  | k + 1, h => by
    rw [all_succ, Bool.and_eq_true] at h
    have ih := lsum_bd hq k h.1
    have := lcB_bd h.2
    simp only [lsum]
    omega
def usedI (M : WorldM) (g : Int) : Bool := decide (0 ≤ g) && decide (g < M.groups.length) && (grp M g.toNat).used
def zeroT (x : TaskM) : Bool := (x.st == 0) && (x.gr == 0) && (x.cpu == 0) && (x.nice == 0) && (x.mask == 0) && (x.v == 0) && (x.sum == 0) && (x.used == 0) && (x.load == 0)
def taskB1 (M : WorldM) (x : TaskM) : Bool := ((x.st == 1) || (x.st == 2)) && usedI M x.gr && !(wof x.nice == 0) && inR x.mask 0 15 && !(x.mask == 0)
def taskB2 (M : WorldM) (x : TaskM) : Bool := timeB x.v && timeB x.sum && timeB x.used && inR x.load 0 8000000 && mhas (whereM M x.gr.toNat x.mask) x.cpu
def taskB3 (M : WorldM) (x : TaskM) : Bool := (x.st == 2) || standW x.v (she M x.gr.toNat x.cpu.toNat).floor (wof x.nice)
/-- a valid task -/
def taskB (M : WorldM) (t : Nat) : Bool := if (tsk M t).st = 0 then zeroT (tsk M t) else taskB1 M (tsk M t) && taskB2 M (tsk M t) && taskB3 M (tsk M t)
def shelfB1 (x : ShelfM) : Bool := timeB x.floor && timeB x.v && timeB x.sum && inR x.w 1 20
def onB (M : WorldM) (k c : Nat) : Bool := act M k c && !dryM M k c
/-- a valid shelf -/
def shelfB (M : WorldM) (k c : Nat) : Bool := shelfB1 (she M k c) &&
  (if k = 0 then !(she M k c).on && ((she M k c).v == 0) && ((she M k c).w == 10)
   else ((she M k c).on == onB M k c) && (!(she M k c).on || standW (she M k c).v (she M (par M k) c).floor (she M k c).w))
def grpZ (x : GroupM) : Bool := (x.parent == 0) && x.name.toList.isEmpty && (x.weight == 0) && (x.cpus == 0) && (x.period == 0) && (x.next == 0) && (x.sum == 0) && ((x.shelves.length : Int) == 0) && noBand x.band
def grpU (M : WorldM) (x : GroupM) : Bool := inR x.weight 1 20 && inR x.cpus 0 15 && !(x.cpus == 0) && timeB x.sum && ((x.shelves.length : Int) == M.cpus.length)
def grpR (x : GroupM) : Bool := (x.weight == 10) && (x.cpus == 15) && (x.band.quota == 0)
def grpQ (M : WorldM) (x : GroupM) : Bool := if x.band.quota = 0 then noBand x.band && (x.period == 0) && (x.next == 0)
  else bandB x.band && ((x.band.locals.length : Int) == M.cpus.length) && inR x.period 1 1000 && decide (M.now < x.next) && decide (wrap64 (x.next - M.now) ≤ x.period)
/-- a valid group -/
def groupB (M : WorldM) (k : Nat) : Bool := if (grp M k).used then grpU M (grp M k) && (decide (k ≠ 0) || grpR (grp M k)) && grpQ M (grp M k) else grpZ (grp M k)
def stayT (M : WorldM) (c : Nat) (t : TaskM) : Bool := decide (t.v - (she M t.gr.toNat c).floor ≤ vstep (cpo M c).ran (wof t.nice))
def stayG (M : WorldM) (c : Nat) (g : Nat) : Bool := (g == 0) || decide ((she M g c).v - (she M (par M g) c).floor ≤ vstep (cpo M c).ran (she M g c).w)
def stayB (M : WorldM) (c : Nat) : Bool := stayT M c (tsk M (cpo M c).cur.toNat) && (ch M (tsk M (cpo M c).cur.toNat).gr.toNat).all (stayG M c)
def cpuHead (M : WorldM) (x : CpuM) : Bool := timeB x.busy && timeB x.idle && inR x.cur (-1) (M.tasks.length - 1)
/-- a valid processor -/
def cpuB (M : WorldM) (c : Nat) : Bool := cpuHead M (cpo M c) &&
  (if (cpo M c).cur < 0 then (cpo M c).ran == 0 else (cpo M c).up && inR (cpo M c).ran 1 149 && ((tsk M (cpo M c).cur.toNat).cpu == c) && lineM M (cpo M c).cur.toNat && stayB M c)
def charB (b : UInt8) : Bool := inR b.toNat 97 122 || inR b.toNat 48 57
def fileB (s : ByteArray) : Bool := (s.toList == [119, 101, 105, 103, 104, 116]) || (s.toList == [109, 97, 120]) || (s.toList == [99, 112, 117, 115]) || (s.toList == [112, 114, 111, 99, 115]) || (s.toList == [115, 116, 97, 116])
/-- a valid name of a group -/
def nameB (s : ByteArray) : Bool := inR s.size 1 8 && !fileB s && s.data.toList.all charB
def depL (M : WorldM) : Nat → Int → Int → Int
  | 0, _, _ => -1
  | r + 1, n, g => if usedI M g then (if g = 0 then n else depL M r (n + 1) (grp M g.toNat).parent) else -1
/-- is a group's name and parent another's -/
def sameB (M : WorldM) (g h : Nat) : Bool := (grp M h).used && ((grp M h).parent == (grp M g).parent) && ((grp M h).name.toList == (grp M g).name.toList)
def nodeB (M : WorldM) (g : Nat) : Bool := !(grp M g).used || (nameB (grp M g).name && inR (depL M 9 0 g) 1 3 && !(List.range g).any (fun h => h != 0 && sameB M g h))
/-- are the groups a tree -/
def treeB (M : WorldM) : Bool := (M.groups.length == 8) && (grp M 0).used && ((grp M 0).parent == -1) && (grp M 0).name.toList.isEmpty && (List.range 8).all (fun g => g == 0 || nodeB M g)
theorem mhas_bit {m c : Int} : mhas m c = true ↔ (0 ≤ m ∧ m ≤ 15 ∧ 0 ≤ c ∧ c ≤ 3 ∧ m.toNat.testBit c.toNat = true) := by
  unfold mhas
  simp only [Bool.and_eq_true, inR_iff, beq_iff_eq]
  constructor
  · rintro ⟨⟨⟨h1, h2⟩, h3, h4⟩, h5⟩
    refine ⟨h1, h2, h3, h4, ?_⟩
    obtain ⟨n, rfl⟩ := Int.eq_ofNat_of_zero_le h1
    have e : ((n : Int) / 2 ^ c.toNat % 2) = ((n / 2 ^ c.toNat % 2 : Nat) : Int) := by simp
    rw [e] at h5
    rw [Nat.testBit_eq_decide_div_mod_eq]
    simp only [Int.toNat_natCast, decide_eq_true_eq]
    omega
  · rintro ⟨h1, h2, h3, h4, h5⟩
    refine ⟨⟨⟨h1, h2⟩, h3, h4⟩, ?_⟩
    obtain ⟨n, rfl⟩ := Int.eq_ofNat_of_zero_le h1
    have e : ((n : Int) / 2 ^ c.toNat % 2) = ((n / 2 ^ c.toNat % 2 : Nat) : Int) := by simp
    rw [e]
    rw [Nat.testBit_eq_decide_div_mod_eq] at h5
    simp only [Int.toNat_natCast, decide_eq_true_eq] at h5
    omega
theorem mand_has {a b c : Int} (h : mhas (mand a b) c = true) : mhas a c = true ∧ mhas b c = true := by
  unfold mand at h
  split at h
  · rename_i hb
    simp only [Bool.and_eq_true, inR_iff] at hb
    rw [mhas_bit] at h
    obtain ⟨_, _, h3, h4, h5⟩ := h
    simp only [Int.toNat_natCast, Nat.testBit_and, Bool.and_eq_true] at h5
    exact ⟨mhas_bit.2 ⟨hb.1.1, hb.1.2, h3, h4, h5.1⟩, mhas_bit.2 ⟨hb.2.1, hb.2.2, h3, h4, h5.2⟩⟩
  · rw [mhas_bit] at h
    simp at h
theorem ups_has {M : WorldM} (hl : M.cpus.length ≤ 4) {c : Int} (h : mhas (ups M) c = true) : 0 ≤ c ∧ c < M.cpus.length := by
  rw [mhas_bit] at h
  obtain ⟨h1, _, h3, _, h5⟩ := h
  refine ⟨h3, ?_⟩
  have hb := (upsTo_bd M M.cpus.length hl).2
  have hlt : (ups M).toNat < 2 ^ M.cpus.length := by
    have e : ((2 ^ M.cpus.length : Nat) : Int) = 2 ^ M.cpus.length := by simp
    unfold ups at *
    omega
  rcases Nat.lt_or_ge c.toNat M.cpus.length with hc | hc
  · omega
  · have hle : (2 : Nat) ^ M.cpus.length ≤ 2 ^ c.toNat := Nat.pow_le_pow_right (by omega) hc
    rw [Nat.testBit_lt_two_pow (by omega)] at h5
    cases h5
theorem where_has {M : WorldM} (hl : M.cpus.length ≤ 4) {g : Nat} {mask c : Int} (h : mhas (whereM M g mask) c = true) : 0 ≤ c ∧ c < M.cpus.length := by
  unfold whereM at h
  split at h
  · exact ups_has hl (mand_has (mand_has h).2).2
  · split at h
    · exact ups_has hl (mand_has h).2
    · exact ups_has hl h
end Go.Proofs.YtknfpigaognklaaGreatDoor
