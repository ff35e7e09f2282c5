/- The reference's walks over a task of a world. -/
import Derived.Test.YtknfpigaognklaaGreatDoorS4a
import Derived.Test.YtknfpigaognklaaGreatDoorS4b
namespace Go.Proofs.YtknfpigaognklaaGreatDoor
open Go.RowKit Go.Sort
set_option maxRecDepth 100000 in
set_option maxHeartbeats 1000000 in
theorem sl8TaskOk_any (ca : Option Addr) (cc : Nat) (ta : Option Addr) (tc : Nat) (ga : Option Addr) (gc : Nat) (gh : Nat → GH) (M : WorldM) (w : World) (hs : WA w ca ta ga gh M) (hT : Tree M) (hG : GOk M) (hc : M.cpus.length ≤ 4) (t : Nat) (ht : t < M.tasks.length) :
    Calls Tryz.prog 68 #[.agg #[.int .i64 M.now, .slice ca M.cpus.length cc, .slice ta M.tasks.length tc, .slice ga M.groups.length gc], .int .i64 t] w fun e w' => e = .returned (.bool (taskB M t)) ∧ Below w.heap.size w w' := by
  by_cases h1 : (tsk M t).st = 1
  · exact sl8TaskOk_1 ca cc ta tc ga gc gh M w hs hT hG hc t ht h1
  by_cases h2 : (tsk M t).st = 2
  · exact sl8TaskOk_2 ca cc ta tc ga gc gh M w hs hT hc t ht h2
  obtain ⟨b, o, rfl, hB, c0, c1, c2, c3, c4, c5, c6, c7, c8⟩ := hs.task_ ht
  generalize hX : tsk M t = x at *
  have HX := Lib.hid hX
  clear hX
  by_cases h0 : x.st = 0
  · have TN := Lib.hid (show taskB M t = zeroT x by rw [taskB, HX.out, if_pos h0])
    go_enter Tryz.func68, Tryz.ntmps68
    go_wp2
    all_goals go_ret
    all_goals exact ⟨ret_bool (by rw [TN.out]; simp [zeroT, *]), ((Below.refl _ _).alloc (Nat.le_refl _) _).alloc (by simp) _⟩
  · have TN := Lib.hid (show taskB M t = false by rw [taskB, HX.out, if_neg h0, show taskB1 M x = false by simp [taskB1, h1, h2]]; rfl)
    have h0' : (x.st == 0) = false := by simpa using h0
    have h1' : (x.st != 1) = true := by simpa using h1
    have h2' : (x.st != 2) = true := by simpa using h2
    clear h0 h1 h2
    go_enter Tryz.func68, Tryz.ntmps68
    go_wp2
    go_ret
    exact ⟨ret_bool TN.out.symm, ((Below.refl _ _).alloc (Nat.le_refl _) _).alloc (by simp) _⟩
end Go.Proofs.YtknfpigaognklaaGreatDoor
