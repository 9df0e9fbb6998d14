/- The plain law of the product by five thirds: five products of values tell the product's five parts. -/
import Derived.Test.YtopbfgmpilnghaaDoorPoints
set_option linter.unusedVariables false
namespace Go.Proofs.YtopbfgmpilnghaaDoor
open Go.RowKit

theorem dist_mul (p q r s : Nat) : ((p < q) ↔ (r < s)) ∧ p * r + q * s = p * s + q * r + dist p q * dist r s ∨ ¬ ((p < q) ↔ (r < s)) ∧ p * r + q * s + dist p q * dist r s = p * s + q * r := by
  unfold dist
  by_cases h1 : q ≤ p <;> by_cases h2 : s ≤ r
  · obtain ⟨x, rfl⟩ : ∃ x, p = q + x := ⟨p - q, by omega⟩
    obtain ⟨y, rfl⟩ : ∃ y, r = s + y := ⟨r - s, by omega⟩
    left
    rw [if_pos h1, if_pos h2, show q + x - q = x from by omega, show s + y - s = y from by omega]
    exact ⟨by omega, by grind⟩
  · obtain ⟨x, rfl⟩ : ∃ x, p = q + x := ⟨p - q, by omega⟩
    obtain ⟨y, rfl⟩ : ∃ y, s = r + y := ⟨s - r, by omega⟩
    right
    rw [if_pos h1, if_neg h2, show q + x - q = x from by omega, show r + y - r = y from by omega]
    exact ⟨by omega, by grind⟩
  · obtain ⟨x, rfl⟩ : ∃ x, q = p + x := ⟨q - p, by omega⟩
    obtain ⟨y, rfl⟩ : ∃ y, r = s + y := ⟨r - s, by omega⟩
    right
    rw [if_neg h1, if_pos h2, show p + x - p = x from by omega, show s + y - s = y from by omega]
    exact ⟨by omega, by grind⟩
  · obtain ⟨x, rfl⟩ : ∃ x, q = p + x := ⟨q - p, by omega⟩
    obtain ⟨y, rfl⟩ : ∃ y, s = r + y := ⟨s - r, by omega⟩
    left
    rw [if_neg h1, if_neg h2, show p + x - p = x from by omega, show r + y - r = y from by omega]
    exact ⟨by omega, by grind⟩

/-- The sum and the difference of the values at 1 and -1: twice the even and twice the odd parts, or the other way round. -/
theorem toom_signs (x0 x1 x2 y0 y1 y2 : Nat) :
    dist (x0 + x2) x1 * dist (y0 + y2) y1 ≤ (x0 + x2 + x1) * (y0 + y2 + y1) ∧
    ((decide (x0 + x2 < x1) = decide (y0 + y2 < y1) ∧ (x0 + x2 + x1) * (y0 + y2 + y1) + dist (x0 + x2) x1 * dist (y0 + y2) y1 = 2 * (x0 * y0 + x2 * y2 + (x0 * y2 + x1 * y1 + x2 * y0)) ∧
        (x0 + x2 + x1) * (y0 + y2 + y1) - dist (x0 + x2) x1 * dist (y0 + y2) y1 = 2 * (x0 * y1 + x1 * y0 + (x1 * y2 + x2 * y1))) ∨
     (decide (x0 + x2 < x1) ≠ decide (y0 + y2 < y1) ∧ (x0 + x2 + x1) * (y0 + y2 + y1) + dist (x0 + x2) x1 * dist (y0 + y2) y1 = 2 * (x0 * y1 + x1 * y0 + (x1 * y2 + x2 * y1)) ∧
        (x0 + x2 + x1) * (y0 + y2 + y1) - dist (x0 + x2) x1 * dist (y0 + y2) y1 = 2 * (x0 * y0 + x2 * y2 + (x0 * y2 + x1 * y1 + x2 * y0)))) := by
  have e1 : (x0 + x2 + x1) * (y0 + y2 + y1) = (x0 + x2) * (y0 + y2) + x1 * y1 + ((x0 + x2) * y1 + x1 * (y0 + y2)) := by grind
  have e2 : (x0 + x2) * (y0 + y2) + x1 * y1 = x0 * y0 + x2 * y2 + (x0 * y2 + x1 * y1 + x2 * y0) := by grind
  have e3 : (x0 + x2) * y1 + x1 * (y0 + y2) = x0 * y1 + x1 * y0 + (x1 * y2 + x2 * y1) := by grind
  have hd := dist_mul (x0 + x2) x1 (y0 + y2) y1
  rw [e1]
  rw [e2, e3] at *
  generalize dist (x0 + x2) x1 * dist (y0 + y2) y1 = D at *
  generalize x0 * y0 + x2 * y2 + (x0 * y2 + x1 * y1 + x2 * y0) = E at *
  generalize x0 * y1 + x1 * y0 + (x1 * y2 + x2 * y1) = O at *
  rcases hd with ⟨hs, h⟩ | ⟨hs, h⟩
  · refine ⟨by omega, .inl ⟨?_, by omega, by omega⟩⟩
    exact decide_eq_decide.2 hs
  · refine ⟨by omega, .inr ⟨fun hc => hs (decide_eq_decide.1 hc), by omega, by omega⟩⟩

theorem toom_two (x0 x1 x2 y0 y1 y2 : Nat) : (x0 + (x1 * 2 ^ 1 + x2 * 2 ^ 2)) * (y0 + (y1 * 2 ^ 1 + y2 * 2 ^ 2)) =
    x0 * y0 + 2 * (x0 * y1 + x1 * y0) + 4 * (x0 * y2 + x1 * y1 + x2 * y0) + 8 * (x1 * y2 + x2 * y1) + 16 * (x2 * y2) := by
  simp only [Nat.reducePow]; grind

theorem toom_sum (x0 x1 x2 y0 y1 y2 P : Nat) : x0 * y0 + (x0 * y1 + x1 * y0) * P + (x0 * y2 + x1 * y1 + x2 * y0) * (P * P) + (x1 * y2 + x2 * y1) * (P * P * P) + x2 * y2 * (P * P * P * P) = (x0 + x1 * P + x2 * (P * P)) * (y0 + y1 * P + y2 * (P * P)) := by
  grind

/-- A natural is its thirds. -/
theorem thirds (a k : Nat) : a % 4294967296 ^ k + a / 4294967296 ^ k % 4294967296 ^ k * 4294967296 ^ k + a / 4294967296 ^ (2 * k) * (4294967296 ^ k * 4294967296 ^ k) = a := by
  have h1 := Nat.mod_add_div a (4294967296 ^ k)
  have h2 := Nat.mod_add_div (a / 4294967296 ^ k) (4294967296 ^ k)
  rw [Nat.div_div_eq_div_mul, ← Nat.pow_add, show k + k = 2 * k from by omega] at h2
  generalize a / 4294967296 ^ (2 * k) = u at *
  generalize a / 4294967296 ^ k = v at *
  generalize 4294967296 ^ k = P at *
  generalize v % P = z at *
  grind
end Go.Proofs.YtopbfgmpilnghaaDoor
