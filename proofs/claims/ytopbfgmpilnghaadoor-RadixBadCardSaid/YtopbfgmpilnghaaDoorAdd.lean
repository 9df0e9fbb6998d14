/- nat.Cmp, nat.Add, nat.Sub: of naturals. -/
import Derived.Test.YtopbfgmpilnghaaDoorNatAll
set_option linter.unusedVariables false
set_option linter.unusedSimpArgs false
namespace Go.Proofs.YtopbfgmpilnghaaDoor
open Go.RowKit

/-! ### the plain law -/
theorem nv_lim {n : Nat} {f : Nat → Nat} {k : Nat} (hk : n ≤ k) : nv (lim n f) k = nv f n := by
  rw [nv_high_zero (m := n) hk (fun j h1 _ => by unfold lim; rw [if_neg (by omega)])]
  exact nv_congr (fun j hj => by unfold lim; rw [if_pos hj])

theorem add_law (A B : Nat → Nat) (k : Nat) : nv (og addStep A B) k + cy addStep A B k * 4294967296 ^ k = nv A k + nv B k := by
  induction k with
  | zero => simp [nv, cy]
  | succ k ih =>
    simp only [nv]
    have h1 : og addStep A B k + cy addStep A B (k + 1) * 4294967296 = A k + B k + cy addStep A B k := by
      simp only [og, cy, addStep]; omega
    rw [Nat.pow_succ]
    generalize 4294967296 ^ k = P at *
    generalize cy addStep A B (k + 1) = c' at *
    have h2 := congrArg (· * P) h1
    simp only [Nat.add_mul] at h2
    rw [Nat.mul_comm P 4294967296, ← Nat.mul_assoc]
    omega

theorem og_eq (st : Nat → Nat → Nat → Nat × Nat) (A B : Nat → Nat) (k : Nat) : og st A B k = (st (A k) (B k) (cy st A B k)).1 := rfl
theorem cy_succ (st : Nat → Nat → Nat → Nat × Nat) (A B : Nat → Nat) (k : Nat) : cy st A B (k + 1) = (st (A k) (B k) (cy st A B k)).2 := rfl

theorem sub_one (a b c : Nat) (ha : a < 4294967296) (hb : b < 4294967296) (hc : c ≤ 1) : (subStep a b c).1 + b + c = a + (subStep a b c).2 * 4294967296 := by
  simp only [subStep, borrow]
  split <;> omega

theorem sub_law (A B : Nat → Nat) (hA : ∀ i, A i < 4294967296) (hB : ∀ i, B i < 4294967296) (k : Nat) : nv (og subStep A B) k + nv B k = nv A k + cy subStep A B k * 4294967296 ^ k := by
  induction k with
  | zero => simp [nv, cy]
  | succ k ih =>
    simp only [nv]
    have hc := cy_le sub_ok hA hB k
    have ha := hA k
    have hb := hB k
    have h1 : og subStep A B k + B k + cy subStep A B k = A k + cy subStep A B (k + 1) * 4294967296 := by
      rw [og_eq, cy_succ]
      exact sub_one _ _ _ ha hb hc
    clear ha hb hc hA hB
    rw [Nat.pow_succ]
    generalize 4294967296 ^ k = P at *
    generalize cy subStep A B (k + 1) = c' at *
    have h2 := congrArg (· * P) h1
    simp only [Nat.add_mul] at h2
    rw [Nat.mul_comm P 4294967296, ← Nat.mul_assoc]
    omega

theorem og_fits {st : Nat → Nat → Nat → Nat × Nat} (hst : StepOk st) {A B : Nat → Nat} (hA : ∀ i, A i < 4294967296) (hB : ∀ i, B i < 4294967296) (k : Nat) : Fits k (og st A B) :=
  fun j _ => (hst _ _ _ (hA j) (hB j) (cy_le hst hA hB j)).1

theorem nv_zero (f : Nat → Nat) : nv f 0 = 0 := rfl

theorem add_top {na nb : Nat} {fa fb : Nat → Nat} (hfa : Fits na fa) (hfb : Fits nb fb) : nv (og addStep (lim na fa) (lim nb fb)) (max na nb + 1) = nv fa na + nv fb nb := by
  have h := add_law (lim na fa) (lim nb fb) (max na nb + 1)
  rw [nv_lim (by omega), nv_lim (by omega)] at h
  have hc : cy addStep (lim na fa) (lim nb fb) (max na nb + 1) = 0 := by
    have h0 := cy_le add_ok (lim_lt hfa) (lim_lt hfb) (max na nb)
    simp only [cy, addStep]
    have e1 : lim na fa (max na nb) = 0 := by unfold lim; rw [if_neg (by omega)]
    have e2 : lim nb fb (max na nb) = 0 := by unfold lim; rw [if_neg (by omega)]
    rw [e1, e2]; omega
  rw [hc] at h
  omega

theorem sub_top {na nb : Nat} {fa fb : Nat → Nat} (hfa : Fits na fa) (hfb : Fits nb fb) (hle : nb ≤ na) (h : nv fb nb ≤ nv fa na) : nv (og subStep (lim na fa) (lim nb fb)) na = nv fa na - nv fb nb := by
  have h1 := sub_law (lim na fa) (lim nb fb) (lim_lt hfa) (lim_lt hfb) na
  rw [nv_lim (Nat.le_refl _), nv_lim hle] at h1
  have h2 := nv_lt (og_fits sub_ok (lim_lt hfa) (lim_lt hfb) na)
  have h3 := nv_lt hfa
  have h4 := cy_le sub_ok (lim_lt hfa) (lim_lt hfb) na
  have h5 : cy subStep (lim na fa) (lim nb fb) na = 0 ∨ cy subStep (lim na fa) (lim nb fb) na = 1 := by omega
  rcases h5 with h5 | h5 <;> rw [h5] at h1 <;> omega

/-- which of two naturals is the lesser one -/
def cmpI (a b : Nat) : Int := if a < b then -1 else if a = b then 0 else 1

theorem trim_fits {n : Nat} {f : Nat → Nat} (h : Fits n f) : Fits (trim f n) f := h.mono (trim_le f n)

theorem nt_of_trim {w : World} {v : Value} {n : Nat} {f : Nat → Nat} (h : Rd .u32 w v (trim f n) f) (hf : Fits n f) : Nt w v (nv f n) := ⟨trim f n, f, h, trim_fits hf, trim_norm f n, trim_nv f n⟩

/-- the number of limbs is the value's -/
theorem Nt.open {w : World} {v : Value} {a : Nat} (h : Nt w v a) : ∃ ao cap f, v = .slice ao (limbs a) cap ∧ Rd .u32 w v (limbs a) f ∧ Fits (limbs a) f ∧ Norm (limbs a) f ∧ nv f (limbs a) = a := by
  obtain ⟨n, f, hr, hf, hn, rfl⟩ := h
  rw [limbs_nv hf hn]
  obtain ⟨ao, cap, hv, _⟩ := hr
  exact ⟨ao, cap, f, hv, ⟨ao, cap, hv, ‹_›⟩, hf, hn, rfl⟩

set_option maxHeartbeats 1000000 in
/-- nat.Add: the sum. -/
theorem add_nt {va vb : Value} {a b : Nat} {w : World} (ha : Nt w va a) (hb : Nt w vb b) (la : limbs a ≤ 536870912) (lb : limbs b ≤ 536870912) :
    Calls Tryd.prog 74 #[va, vb] w fun e w' => ∃ v, e = .returned v ∧ Nt w' v (a + b) ∧ Below w.heap.size w w' := by
  obtain ⟨aa, ca, fa, rfl, ra, fta, na, va⟩ := ha.open
  obtain ⟨ab, cb, fb, rfl, rb, ftb, nb, vb⟩ := hb.open
  have HA := Lib.hid va
  have HB := Lib.hid vb
  clear ha hb va vb
  generalize limbs a = n at *
  generalize limbs b = m at *
  by_cases hmn : m ≤ n
  · have hall := all_any do_add add_ok (k := n + 1) (by omega) ra rb fta ftb
    rw [show ((n + 1 : Nat) : Int) = (n : Int) + 1 from by omega] at hall
    have H := Lib.hid hall
    have ht : nv (og addStep (lim n fa) (lim m fb)) (n + 1) = nv fa n + nv fb m := by have := add_top fta ftb; rwa [Nat.max_eq_left hmn] at this
    have HT := Lib.hid ht
    clear ra rb hall ht
    go_enter Tryd.func74, Tryd.ntmps74
    go_wp2_with (go_at_call 98; refine H.out.mono ?_; rintro e w' ⟨v, rfl, hv, hb⟩)
    go_ret
    exact ⟨v, rfl, by rw [← HA.out, ← HB.out, ← HT.out]; exact nt_of_trim hv (og_fits add_ok (lim_lt fta) (lim_lt ftb) _), hb⟩
  · have hall := all_any do_add add_ok (k := m + 1) (by omega) ra rb fta ftb
    rw [show ((m + 1 : Nat) : Int) = (m : Int) + 1 from by omega] at hall
    have H := Lib.hid hall
    have ht : nv (og addStep (lim n fa) (lim m fb)) (m + 1) = nv fa n + nv fb m := by have := add_top fta ftb; rwa [Nat.max_eq_right (by omega)] at this
    have HT := Lib.hid ht
    clear ra rb hall ht
    go_enter Tryd.func74, Tryd.ntmps74
    go_wp2_with (go_at_call 98; refine H.out.mono ?_; rintro e w' ⟨v, rfl, hv, hb⟩)
    go_ret
    exact ⟨v, rfl, by rw [← HA.out, ← HB.out, ← HT.out]; exact nt_of_trim hv (og_fits add_ok (lim_lt fta) (lim_lt ftb) _), hb⟩
end Go.Proofs.YtopbfgmpilnghaaDoor
