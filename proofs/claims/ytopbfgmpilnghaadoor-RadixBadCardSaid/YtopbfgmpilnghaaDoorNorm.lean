/- div.DivMod's shifts: the divisor's first bit is made 1. The guess as a number. -/
import Derived.Test.YtopbfgmpilnghaaDoorKnuth
import Derived.Lib.ItoaNum
set_option linter.unusedVariables false
set_option linter.unusedSimpArgs false
namespace Go.Proofs.YtopbfgmpilnghaaDoor
open Go.RowKit

/-- the guess as a number -/
def cap32 (q : Nat) : Nat := if q < 4294967296 then q else 4294967295
theorem cap32_spec (q : Nat) : cap32 q < 4294967296 ∧ cap32 q ≤ q ∧ ∀ Q, Q < 4294967296 → Q ≤ q → Q ≤ cap32 q := by
  unfold cap32
  split
  · exact ⟨by omega, by omega, fun Q _ h => h⟩
  · exact ⟨by omega, by omega, fun Q h _ => by omega⟩
def gd (t x0 y1 y0 : Nat) : Nat := cap32 ((t * 4294967296 + x0) / (y1 * 4294967296 + y0))
theorem gd_guessed {t x0 y1 y0 : Nat} (hy : 0 < y1) : Guessed t x0 y1 y0 (gd t x0 y1 y0) := by
  have hY : 0 < y1 * 4294967296 + y0 := by omega
  obtain ⟨h1, h2, h3⟩ := cap32_spec ((t * 4294967296 + x0) / (y1 * 4294967296 + y0))
  exact ⟨h1, (Nat.le_div_iff_mul_le hY).1 h2, fun Q hQ h => h3 Q hQ ((Nat.le_div_iff_mul_le hY).2 h)⟩
theorem Guessed.same {t x0 y1 y0 p q : Nat} (hp : Guessed t x0 y1 y0 p) (hq : Guessed t x0 y1 y0 q) : p = q := Nat.le_antisymm (hq.low p hp.lt hp.fits) (hp.low q hq.lt hq.fits)

theorem guess_gd {x2 x1 x0 y1 y0 : Nat} (h1 : x1 < 4294967296) (h0 : x0 < 4294967296) (hy : 2147483648 ≤ y1) (hy1 : y1 < 4294967296) (hx : x2 ≤ y1) (hy0 : y0 < 4294967296) (w : World) :
    Calls Tryd.prog 95 #[.int .u32 x2, .int .u32 x1, .int .u32 x0, .int .u32 y1, .int .u32 y0] w fun e w' =>
      e = .returned (.int .u64 (gd (x2 * 4294967296 + x1) x0 y1 y0)) ∧ ∃ m, w' = w.drewN m :=
  (guess_any h1 h0 hy hy1 hx hy0 w).mono fun e w' ⟨q, he, hg, hd⟩ => by
    rw [Guessed.same hg (gd_guessed (by omega))] at he
    exact ⟨he, hd⟩

/-- how far the divisor is shifted -/
theorem norm_shift {n : Nat} {f : Nat → Nat} (hn : 2 ≤ n) (hf : Fits n f) (h0 : Norm n f) : ∃ s : Nat, s ≤ 31 ∧ (s : Int) = 32 - (Lib.bitLen (f (n - 1)) : Int) ∧ limbs (nv f n * 2 ^ s) = n ∧ 2147483648 * 4294967296 ^ (n - 1) ≤ nv f n * 2 ^ s := by
  obtain ⟨m, rfl⟩ : ∃ m, n = m + 1 := ⟨n - 1, by omega⟩
  have ht := h0 (by omega)
  have hl := hf m (by omega)
  rw [Nat.add_sub_cancel] at ht ⊢
  obtain ⟨b1, b2, b3⟩ := Lib.bitLenAux_bounds 64 (f m) (Nat.lt_of_lt_of_le hl (by decide)) ht
  have b4 := Lib.bitLen_le (f m) 32 (by omega) hl
  change 1 ≤ Lib.bitLen (f m) at b1
  change 2 ^ (Lib.bitLen (f m) - 1) ≤ f m at b2
  change f m < 2 ^ Lib.bitLen (f m) at b3
  generalize Lib.bitLen (f m) = k at *
  have e1 : 2 ^ (k - 1) * 2 ^ (32 - k) = 2147483648 := by rw [← Nat.pow_add, show k - 1 + (32 - k) = 31 by omega]
  have e2 : 2 ^ k * 2 ^ (32 - k) = 4294967296 := by rw [← Nat.pow_add, show k + (32 - k) = 32 by omega]
  have hlo := nv_lt (hf.mono (Nat.le_succ m))
  have hlow : 2147483648 * 4294967296 ^ m ≤ nv f (m + 1) * 2 ^ (32 - k) := by
    simp only [nv]
    rw [← e1]
    have h1 : 2 ^ (k - 1) * 4294967296 ^ m ≤ f m * 4294967296 ^ m := Nat.mul_le_mul_right _ b2
    have h2 : 2 ^ (k - 1) * 4294967296 ^ m * 2 ^ (32 - k) ≤ (nv f m + f m * 4294967296 ^ m) * 2 ^ (32 - k) := Nat.mul_le_mul_right _ (by omega)
    calc 2 ^ (k - 1) * 2 ^ (32 - k) * 4294967296 ^ m = 2 ^ (k - 1) * 4294967296 ^ m * 2 ^ (32 - k) := by rw [Nat.mul_right_comm]
      _ ≤ _ := h2
  have hhi : nv f (m + 1) * 2 ^ (32 - k) < 4294967296 ^ (m + 1) := by
    simp only [nv]
    have h1 : (f m + 1) * 4294967296 ^ m ≤ 2 ^ k * 4294967296 ^ m := Nat.mul_le_mul_right _ b3
    rw [Nat.add_mul, Nat.one_mul] at h1
    have h2 : nv f m + f m * 4294967296 ^ m < 2 ^ k * 4294967296 ^ m := by omega
    have h3 := (Nat.mul_lt_mul_right (show 0 < 2 ^ (32 - k) from Nat.pow_pos (by omega))).2 h2
    calc _ < _ := h3
      _ = 4294967296 ^ (m + 1) := by rw [Nat.mul_right_comm, e2, Nat.pow_succ, Nat.mul_comm]
  refine ⟨32 - k, by omega, by omega, ?_, hlow⟩
  refine Nat.le_antisymm (limbs_le hhi) ?_
  apply Classical.byContradiction
  intro hne
  have h1 := lt_limbs (nv f (m + 1) * 2 ^ (32 - k))
  have h2 : 4294967296 ^ limbs (nv f (m + 1) * 2 ^ (32 - k)) ≤ 4294967296 ^ m := Nat.pow_le_pow_right (by omega) (by omega)
  have h3 : 1 * 4294967296 ^ m ≤ 2147483648 * 4294967296 ^ m := Nat.mul_le_mul_right _ (by omega)
  omega

/-- the first limb of the shifted divisor -/
theorem norm_top {n V : Nat} {y : Nat → Nat} (hn : 2 ≤ n) (hy : Fits n y) (hV : nv y n = V) (h : 2147483648 * 4294967296 ^ (n - 1) ≤ V) : 2147483648 ≤ y (n - 1) := by
  obtain ⟨m, rfl⟩ : ∃ m, n = m + 1 := ⟨n - 1, by omega⟩
  rw [Nat.add_sub_cancel] at *
  simp only [nv] at hV
  have hlo := nv_lt (hy.mono (Nat.le_succ m))
  apply Classical.byContradiction
  intro hne
  have h1 : (y m + 1) * 4294967296 ^ m ≤ 2147483648 * 4294967296 ^ m := Nat.mul_le_mul_right _ (by omega)
  rw [Nat.add_mul, Nat.one_mul] at h1
  omega

/-- the shifted number has at most one limb more -/
theorem norm_limbs {a s : Nat} (hs : s ≤ 31) : a * 2 ^ s < 2147483649 * 4294967296 ^ limbs a ∧ limbs (a * 2 ^ s) ≤ limbs a + 1 ∧ limbs a ≤ limbs (a * 2 ^ s) := by
  have h1 := lt_limbs a
  have h2 : 2 ^ s ≤ 2147483648 := (pow_le_31 (show s < 32 by omega)).2
  have h2' : 1 ≤ 2 ^ s := (pow_le_31 (show s < 32 by omega)).1
  have h3 : a * 2 ^ s ≤ 4294967296 ^ limbs a * 2147483648 := Nat.mul_le_mul (Nat.le_of_lt h1) h2
  have hp : 0 < 4294967296 ^ limbs a := Nat.pow_pos (by omega)
  refine ⟨by omega, limbs_le (by rw [Nat.pow_succ]; omega), limbs_mono ?_⟩
  have := Nat.mul_le_mul_left a h2'
  omega

/-- the first window is below the divisor -/
theorem norm_start {a V n s : Nat} (hs : s ≤ 31) (ha : n ≤ limbs a) (hn : 2 ≤ n) (hV : 2147483648 * 4294967296 ^ (n - 1) ≤ V) : a * 2 ^ s < V * 4294967296 ^ (limbs a + 1 - n) := by
  have h1 := lt_limbs a
  have h2 : 2 ^ s ≤ 2147483648 := (pow_le_31 (show s < 32 by omega)).2
  have h3 : a * 2 ^ s < 4294967296 ^ limbs a * 2147483648 := Nat.lt_of_lt_of_le ((Nat.mul_lt_mul_right (Nat.pow_pos (by omega))).2 h1) (Nat.mul_le_mul_left _ h2)
  refine Nat.lt_of_lt_of_le h3 ?_
  have h4 : 2147483648 * 4294967296 ^ (n - 1) * 4294967296 ^ (limbs a + 1 - n) ≤ V * 4294967296 ^ (limbs a + 1 - n) := Nat.mul_le_mul_right _ hV
  rw [Nat.mul_assoc, ← Nat.pow_add, show n - 1 + (limbs a + 1 - n) = limbs a by omega] at h4
  omega

theorem norm_back {a b s : Nat} : a * 2 ^ s / (b * 2 ^ s) = a / b ∧ a * 2 ^ s % (b * 2 ^ s) / 2 ^ s = a % b := by
  have hp : 0 < 2 ^ s := Nat.pow_pos (by omega)
  exact ⟨Nat.mul_div_mul_right _ _ hp, by rw [Nat.mul_mod_mul_right, Nat.mul_div_cancel _ hp]⟩
end Go.Proofs.YtopbfgmpilnghaaDoor
