/- Plain functions on weights, sets of processors and worlds: what the program and the reference compute. No program in sight. -/
import Derived.Test.YtknfpigaognklaaGreatDoorWm
namespace Go.Proofs.YtknfpigaognklaaGreatDoor
/-- a time -/
def timeB (n : Int) : Bool := inR n 0 100000000000000000
/-- the weight of a niceness -/
def wof (nice : Int) : Int := if inR nice (-10) 9 then 10 - nice else 0
/-- VirtualStep -/
def vstep (u w : Int) : Int := if inR w 1 20 && inR u 0 100000000 then u * (232792560 / w) else 0
/-- LagMost -/
def lagM (w : Int) : Int := vstep 149 w
theorem step_bd (w : Int) (h1 : 1 ≤ w) (h2 : w ≤ 20) : 11639628 ≤ 232792560 / w ∧ 232792560 / w ≤ 232792560 := by
  have h : w = 1 ∨ w = 2 ∨ w = 3 ∨ w = 4 ∨ w = 5 ∨ w = 6 ∨ w = 7 ∨ w = 8 ∨ w = 9 ∨ w = 10 ∨ w = 11 ∨ w = 12 ∨ w = 13 ∨ w = 14 ∨ w = 15 ∨ w = 16 ∨ w = 17 ∨ w = 18 ∨ w = 19 ∨ w = 20 := by omega
  rcases h with rfl | rfl | rfl | rfl | rfl | rfl | rfl | rfl | rfl | rfl | rfl | rfl | rfl | rfl | rfl | rfl | rfl | rfl | rfl | rfl <;> decide
theorem prod_bd {u q : Int} (h1 : 0 ≤ u) (h2 : u ≤ 100000000) (h3 : 0 ≤ q) (h4 : q ≤ 232792560) : 0 ≤ u * q ∧ u * q ≤ 23279256000000000 := by
  refine ⟨Int.mul_nonneg h1 h3, ?_⟩
  have := Int.mul_le_mul h2 h4 h3 (by omega)
  omega
theorem vstep_bd (u w : Int) : 0 ≤ vstep u w ∧ vstep u w ≤ 23279256000000000 := by
  unfold vstep
  split
  · rename_i h
    simp only [Bool.and_eq_true, inR_iff] at h
    have hs := step_bd w h.1.1 h.1.2
    exact prod_bd h.2.1 h.2.2 (by omega) hs.2
  · omega
/-- is a processor in a set -/
def mhas (m c : Int) : Bool := inR m 0 15 && inR c 0 3 && (m / 2 ^ c.toNat % 2 == 1)
/-- what two sets have in common -/
def mand (a b : Int) : Int := if inR a 0 15 && inR b 0 15 then ((a.toNat &&& b.toNat : Nat) : Int) else 0
def mandTo (a b : Int) : Nat → Int
  | 0 => 0
  | k + 1 => mandTo a b k + if mhas a k && mhas b k then 2 ^ k else 0
theorem mand_to (a b : Int) (ha : inR a 0 15 = true) (hb : inR b 0 15 = true) : mandTo a b 4 = mand a b := by
  rw [inR_iff] at ha hb
  have h1 : a = 0 ∨ a = 1 ∨ a = 2 ∨ a = 3 ∨ a = 4 ∨ a = 5 ∨ a = 6 ∨ a = 7 ∨ a = 8 ∨ a = 9 ∨ a = 10 ∨ a = 11 ∨ a = 12 ∨ a = 13 ∨ a = 14 ∨ a = 15 := by omega
  have h2 : b = 0 ∨ b = 1 ∨ b = 2 ∨ b = 3 ∨ b = 4 ∨ b = 5 ∨ b = 6 ∨ b = 7 ∨ b = 8 ∨ b = 9 ∨ b = 10 ∨ b = 11 ∨ b = 12 ∨ b = 13 ∨ b = 14 ∨ b = 15 := by omega
  rcases h1 with rfl | rfl | rfl | rfl | rfl | rfl | rfl | rfl | rfl | rfl | rfl | rfl | rfl | rfl | rfl | rfl <;>
  rcases h2 with rfl | rfl | rfl | rfl | rfl | rfl | rfl | rfl | rfl | rfl | rfl | rfl | rfl | rfl | rfl | rfl <;> decide
theorem pow_bd {k : Nat} (h : k < 4) : 1 ≤ (2 : Int) ^ k ∧ (2 : Int) ^ k ≤ 8 := by
  have : k = 0 ∨ k = 1 ∨ k = 2 ∨ k = 3 := by omega
  rcases this with rfl | rfl | rfl | rfl <;> decide
theorem mandTo_bd (a b : Int) (k : Nat) (hk : k ≤ 4) : 0 ≤ mandTo a b k ∧ mandTo a b k ≤ 15 := by
  have h : ∀ j : Nat, (0 : Int) ≤ (if mhas a j && mhas b j then (2 : Int) ^ j else 0) := by intro j; split <;> simp [Int.pow_nonneg]
  have e : ∀ j : Nat, (if mhas a j && mhas b j then (2 : Int) ^ j else 0) ≤ 2 ^ j := by intro j; have : (0 : Int) ≤ 2 ^ j := Int.pow_nonneg (by omega); split <;> omega
  have h0 := h 0; have h1 := h 1; have h2 := h 2; have h3 := h 3
  have e0 := e 0; have e1 := e 1; have e2 := e 2; have e3 := e 3
  simp only [show (2 : Int) ^ 0 = 1 from rfl, show (2 : Int) ^ 1 = 2 from rfl, show (2 : Int) ^ 2 = 4 from rfl, show (2 : Int) ^ 3 = 8 from rfl] at e0 e1 e2 e3 h0 h1 h2 h3
  rcases k with _ | _ | _ | _ | _ | k
  · simp [mandTo]
  all_goals first | omega | (simp only [mandTo, show (2 : Int) ^ 0 = 1 from rfl, show (2 : Int) ^ 1 = 2 from rfl, show (2 : Int) ^ 2 = 4 from rfl, show (2 : Int) ^ 3 = 8 from rfl, show (0 : Nat) + 1 = 1 from rfl, show (1 : Nat) + 1 = 2 from rfl, show (2 : Nat) + 1 = 3 from rfl] at *; omega)
theorem mand_bd (a b : Int) : 0 ≤ mand a b ∧ mand a b ≤ 15 := by
  unfold mand
  split
  · rename_i h
    simp only [Bool.and_eq_true, inR_iff] at h
    have : a.toNat &&& b.toNat ≤ a.toNat := Nat.and_le_left
    omega
  · omega
end Go.Proofs.YtknfpigaognklaaGreatDoor
