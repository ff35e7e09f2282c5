/- The reference's walks over tasks, shelves, groups and processors of a world. -/
import Derived.Test.YtknfpigaognklaaGreatDoorS3
import Derived.Deep.Cut
namespace Go.Proofs.YtknfpigaognklaaGreatDoor
open Go.RowKit Go.Sort
theorem regrown_left {P : Program} {f : FuncId} {args : Array Value} {w : World} {d : Nat} {os : Array Obj} {v : Value}
    (h : Calls P f args (grow (redrawn w d) os) fun e w' => e = .returned v ∧ grow (redrawn w d) os = w') : Calls P f args (grow (redrawn w d) os) fun e w'' => e = .returned v ∧ ∃ p : Regrown, w'' = grow (redrawn w p.d) p.os :=
  h.mono fun _ _ ⟨he, hb⟩ => ⟨he, ⟨d, os⟩, hb.symm⟩
set_option maxHeartbeats 400000 in
theorem sl6Used_any (ca ta ga : Option Addr) (gc : Nat) (gh : Nat → GH) (M : WorldM) (w : World) (hs : WA w ca ta ga gh M) (g : Int) :
    Calls Tryz.prog 108 #[.slice ga M.groups.length gc, .int .i64 g] w fun e w' => e = .returned (.bool (usedI M g)) ∧ w = w' := by
  by_cases h1 : 0 ≤ g
  · by_cases h2 : g < M.groups.length
    · obtain ⟨b, o, rfl, hB, c0, c1⟩ := hs.group_ (show g.toNat < M.groups.length by omega)
      have UN := Lib.hid (show usedI M g = (grp M g.toNat).used by rw [usedI, decide_eq_true h1, decide_eq_true h2]; rfl)
      clear c1
      go_enter Tryz.func108, Tryz.ntmps108
      go_wp2
      go_ret
      exact ⟨ret_bool UN.out.symm, rfl⟩
    · have UN := Lib.hid (show usedI M g = false by rw [usedI, decide_eq_true h1, decide_eq_false h2]; rfl)
      go_enter Tryz.func108, Tryz.ntmps108
      go_wp2
      go_ret
      exact ⟨ret_bool UN.out.symm, rfl⟩
  · have UN := Lib.hid (show usedI M g = false by rw [usedI, decide_eq_false h1]; rfl)
    go_enter Tryz.func108, Tryz.ntmps108
    go_wp2
    go_ret
    exact ⟨ret_bool UN.out.symm, rfl⟩
end Go.Proofs.YtknfpigaognklaaGreatDoor
