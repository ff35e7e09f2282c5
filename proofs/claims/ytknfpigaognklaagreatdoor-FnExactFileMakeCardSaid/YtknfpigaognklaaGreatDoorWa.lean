/- A world in memory, asked by index. -/
import Derived.Test.YtknfpigaognklaaGreatDoorWm
namespace Go.Proofs.YtknfpigaognklaaGreatDoor
open Go.RowKit
def cpu0 : CpuM := ⟨false, 0, 0, 0, 0⟩
def task0 : TaskM := ⟨0, 0, 0, 0, 0, 0, 0, 0, 0⟩
def shelf0 : ShelfM := ⟨0, false, 0, 0, 0⟩
def band0 : BandM := ⟨0, 0, 0, [], []⟩
def group0 : GroupM := ⟨false, 0, .empty, 0, 0, 0, 0, 0, band0, []⟩
def tsk (M : WorldM) (k : Nat) : TaskM := M.tasks.getD k task0
def cpo (M : WorldM) (k : Nat) : CpuM := M.cpus.getD k cpu0
def grp (M : WorldM) (k : Nat) : GroupM := M.groups.getD k group0
def she (M : WorldM) (g c : Nat) : ShelfM := (grp M g).shelves.getD c shelf0
theorem tsk_eq {M : WorldM} {k : Nat} (h : k < M.tasks.length) : M.tasks[k] = tsk M k := by simp [tsk, h]
theorem cpo_eq {M : WorldM} {k : Nat} (h : k < M.cpus.length) : M.cpus[k] = cpo M k := by simp [cpo, h]
theorem grp_eq {M : WorldM} {k : Nat} (h : k < M.groups.length) : M.groups[k] = grp M k := by simp [grp, h]
theorem she_eq {M : WorldM} {g c : Nat} (h : c < (grp M g).shelves.length) : (grp M g).shelves[c] = she M g c := by simp [she, h]
/-- where a world's slices lie: an address, as a value of its own for each -/
structure WA (w : World) (ca ta ga : Option Addr) (gh : Nat → GH) (M : WorldM) : Prop where
  cpu : CpuS w ca M.cpus
  task : TaskS w ta M.tasks
  group : GroupS w ga gh M.groups
theorem WA.of {w : World} {h : WH} {M : WorldM} (hw : WAt w h M) : WA w h.ca h.ta h.ga h.gh M := ⟨hw.cpu, hw.task, hw.group⟩
section
variable {w w1 : World} {ca ta ga : Option Addr} {cc tc gc p : Nat} {gh : Nat → GH} {M : WorldM}
theorem WA.keep (hw : WA w ca ta ga gh M) (hb : Below w.heap.size w w1) : WA w1 ca ta ga gh M := ⟨hw.cpu.keep hb, hw.task.keep hb, hw.group.keep hb⟩
theorem WA.cpu_ (hw : WA w ca ta ga gh M) {k : Nat} (hk : k < M.cpus.length) : ∃ b o, ca = some ⟨b, o, none⟩ ∧ b < w.heap.size ∧ w.cell? ⟨b, o + k * 5, none⟩ = some (.bool (cpo M k).up) ∧ w.cell? ⟨b, o + k * 5 + 1, none⟩ = some (.int .i64 (cpo M k).cur) ∧ w.cell? ⟨b, o + k * 5 + 2, none⟩ = some (.int .i64 (cpo M k).ran) ∧ w.cell? ⟨b, o + k * 5 + 3, none⟩ = some (.int .i64 (cpo M k).busy) ∧ w.cell? ⟨b, o + k * 5 + 4, none⟩ = some (.int .i64 (cpo M k).idle) := by
  have := hw.cpu.at_ k hk
  rwa [cpo_eq hk] at this
theorem WA.task_ (hw : WA w ca ta ga gh M) {k : Nat} (hk : k < M.tasks.length) : ∃ b o, ta = some ⟨b, o, none⟩ ∧ b < w.heap.size ∧ w.cell? ⟨b, o + k * 9, none⟩ = some (.int .i64 (tsk M k).st) ∧ w.cell? ⟨b, o + k * 9 + 1, none⟩ = some (.int .i64 (tsk M k).gr) ∧ w.cell? ⟨b, o + k * 9 + 2, none⟩ = some (.int .i64 (tsk M k).cpu) ∧ w.cell? ⟨b, o + k * 9 + 3, none⟩ = some (.int .i64 (tsk M k).nice) ∧ w.cell? ⟨b, o + k * 9 + 4, none⟩ = some (.int .i64 (tsk M k).mask) ∧ w.cell? ⟨b, o + k * 9 + 5, none⟩ = some (.int .i64 (tsk M k).v) ∧ w.cell? ⟨b, o + k * 9 + 6, none⟩ = some (.int .i64 (tsk M k).sum) ∧ w.cell? ⟨b, o + k * 9 + 7, none⟩ = some (.int .i64 (tsk M k).used) ∧ w.cell? ⟨b, o + k * 9 + 8, none⟩ = some (.int .i64 (tsk M k).load) := by
  have := hw.task.at_ k hk
  rwa [tsk_eq hk] at this
theorem WA.group_ (hw : WA w ca ta ga gh M) {k : Nat} (hk : k < M.groups.length) : ∃ b o, ga = some ⟨b, o, none⟩ ∧ b < w.heap.size ∧ w.cell? ⟨b, o + k * 14, none⟩ = some (.bool (grp M k).used) ∧ w.cell? ⟨b, o + k * 14 + 1, none⟩ = some (.int .i64 (grp M k).parent) ∧ w.cell? ⟨b, o + k * 14 + 2, none⟩ = some (.string (grp M k).name) ∧ w.cell? ⟨b, o + k * 14 + 3, none⟩ = some (.int .i64 (grp M k).weight) ∧ w.cell? ⟨b, o + k * 14 + 4, none⟩ = some (.int .i64 (grp M k).cpus) ∧ w.cell? ⟨b, o + k * 14 + 5, none⟩ = some (.int .i64 (grp M k).period) ∧ w.cell? ⟨b, o + k * 14 + 6, none⟩ = some (.int .i64 (grp M k).next) ∧ w.cell? ⟨b, o + k * 14 + 7, none⟩ = some (.int .i64 (grp M k).sum) ∧ w.cell? ⟨b, o + k * 14 + 8, none⟩ = some (.int .i64 (grp M k).band.quota) ∧ w.cell? ⟨b, o + k * 14 + 9, none⟩ = some (.int .i64 (grp M k).band.pool) ∧ w.cell? ⟨b, o + k * 14 + 10, none⟩ = some (.int .i64 (grp M k).band.spent) ∧ w.cell? ⟨b, o + k * 14 + 11, none⟩ = some (.slice (gh k).la (grp M k).band.locals.length (gh k).lc) ∧ w.cell? ⟨b, o + k * 14 + 12, none⟩ = some (.slice (gh k).da (grp M k).band.dry.length (gh k).dc) ∧ w.cell? ⟨b, o + k * 14 + 13, none⟩ = some (.slice (gh k).sa (grp M k).shelves.length (gh k).sc) := by
  have := hw.group.at_ k hk
  rwa [grp_eq hk] at this
theorem WA.shelf_ (hw : WA w ca ta ga gh M) {g k : Nat} (hg : g < M.groups.length) (hk : k < (grp M g).shelves.length) : ∃ b o, (gh g).sa = some ⟨b, o, none⟩ ∧ b < w.heap.size ∧ w.cell? ⟨b, o + k * 5, none⟩ = some (.int .i64 (she M g k).floor) ∧ w.cell? ⟨b, o + k * 5 + 1, none⟩ = some (.bool (she M g k).on) ∧ w.cell? ⟨b, o + k * 5 + 2, none⟩ = some (.int .i64 (she M g k).v) ∧ w.cell? ⟨b, o + k * 5 + 3, none⟩ = some (.int .i64 (she M g k).w) ∧ w.cell? ⟨b, o + k * 5 + 4, none⟩ = some (.int .i64 (she M g k).sum) := by
  have h := hw.group.she g hg
  rw [grp_eq hg] at h
  have := h.at_ k hk
  rwa [she_eq hk] at this
theorem WA.local_ (hw : WA w ca ta ga gh M) {g k : Nat} (hg : g < M.groups.length) (hk : k < (grp M g).band.locals.length) : ∃ b o, (gh g).la = some ⟨b, o, none⟩ ∧ b < w.heap.size ∧ w.cell? ⟨b, o + k, none⟩ = some (.int .i64 ((grp M g).band.locals.getD k 0)) := by
  have h := hw.group.loc g hg
  rw [grp_eq hg] at h
  have := h.at_ k hk
  rwa [show (grp M g).band.locals[k] = (grp M g).band.locals.getD k 0 by simp [hk]] at this
theorem WA.dry_ (hw : WA w ca ta ga gh M) {g k : Nat} (hg : g < M.groups.length) (hk : k < (grp M g).band.dry.length) : ∃ b o, (gh g).da = some ⟨b, o, none⟩ ∧ b < w.heap.size ∧ w.cell? ⟨b, o + k, none⟩ = some (.bool ((grp M g).band.dry.getD k false)) := by
  have h := hw.group.dry g hg
  rw [grp_eq hg] at h
  have := h.at_ k hk
  rwa [show (grp M g).band.dry[k] = (grp M g).band.dry.getD k false by simp [hk]] at this
/-- a world behind a pointer -/
structure PA (w : World) (p : Nat) (ca : Option Addr) (cc : Nat) (ta : Option Addr) (tc : Nat) (ga : Option Addr) (gc : Nat) (gh : Nat → GH) (M : WorldM) : Prop where
  lt : p < w.heap.size
  now : w.cell? ⟨p, 0, none⟩ = some (.int .i64 M.now)
  cpus : w.cell? ⟨p, 1, none⟩ = some (.slice ca M.cpus.length cc)
  tasks : w.cell? ⟨p, 2, none⟩ = some (.slice ta M.tasks.length tc)
  groups : w.cell? ⟨p, 3, none⟩ = some (.slice ga M.groups.length gc)
  wa : WA w ca ta ga gh M
theorem PA.keep (hw : PA w p ca cc ta tc ga gc gh M) (hb : Below w.heap.size w w1) : PA w1 p ca cc ta tc ga gc gh M :=
  ⟨Nat.lt_of_lt_of_le hw.lt hb.size, (hb.cell hw.lt).trans hw.now, (hb.cell hw.lt).trans hw.cpus, (hb.cell hw.lt).trans hw.tasks, (hb.cell hw.lt).trans hw.groups, hw.wa.keep hb⟩
theorem PA.box (hw : WA w ca ta ga gh M) (t : TypeId) : PA (w.alloc (.cells #[.int .i64 M.now, .slice ca M.cpus.length cc, .slice ta M.tasks.length tc, .slice ga M.groups.length gc] t)) w.heap.size ca cc ta tc ga gc gh M :=
  ⟨by simp, by simp [World.cell?_alloc_at], by simp [World.cell?_alloc_at], by simp [World.cell?_alloc_at], by simp [World.cell?_alloc_at], hw.keep ((Below.refl _ _).alloc (Nat.le_refl _) _)⟩
/-- one name for a world with a boxed world -/
theorem PA.gen (hw : WA w ca ta ga gh M) {t : TypeId} {P : World → Prop}
    (h : ∀ W, Below w.heap.size w W → W.heap.size = w.heap.size + 1 → PA W w.heap.size ca cc ta tc ga gc gh M → P W) :
    P (w.alloc (.cells #[.int .i64 M.now, .slice ca M.cpus.length cc, .slice ta M.tasks.length tc, .slice ga M.groups.length gc] t)) :=
  h _ ((Below.refl _ _).alloc (Nat.le_refl _) _) (by simp) (PA.box hw t)
end
end Go.Proofs.YtknfpigaognklaaGreatDoor
