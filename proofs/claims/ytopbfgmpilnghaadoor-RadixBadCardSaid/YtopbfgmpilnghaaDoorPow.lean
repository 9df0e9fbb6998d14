/- mul.Pow: a power, where no product of two long numbers is reached. -/
import Derived.Test.YtopbfgmpilnghaaDoorDiv
set_option linter.unusedVariables false
set_option linter.unusedSimpArgs false
namespace Go.Proofs.YtopbfgmpilnghaaDoor
open Go.RowKit

/-- the products that are shown -/
def MulFit (a b : Nat) : Prop := limbs a ≤ 16777216 ∧ limbs b ≤ 16777216 ∧ (limbs a < 48 ∨ limbs b < 48)
theorem mul_fit {va vb : Value} {a b : Nat} {w : World} (na : Nt w va a) (nb : Nt w vb b) (h : MulFit a b) :
    Calls Tryd.prog 67 #[va, vb] w fun e w' => ∃ v, e = .returned v ∧ Nt w' v (a * b) ∧ Below w.heap.size w w' := mul_small na nb h.1 h.2.1 h.2.2
theorem limbs_prod {a b : Nat} (ha : a ≠ 0) (hb : b ≠ 0) : limbs a + limbs b ≤ limbs (a * b) + 1 := by
  have h1 := ge_limbs ha
  have h2 := ge_limbs hb
  have h3 : 4294967296 ^ (limbs a - 1 + (limbs b - 1)) ≤ a * b := by rw [Nat.pow_add]; exact Nat.mul_le_mul h1 h2
  have h4 := lt_limbs (a * b)
  have h5 := limbs_pos ha
  have h6 := limbs_pos hb
  apply Classical.byContradiction
  intro hne
  have : 4294967296 ^ limbs (a * b) ≤ 4294967296 ^ (limbs a - 1 + (limbs b - 1)) := Nat.pow_le_pow_right (by omega) (by omega)
  omega
theorem MulFit.of_prod {a b : Nat} (h : limbs (a * b) ≤ 94) (ha : limbs a ≤ 94) (hb : limbs b ≤ 94) : MulFit a b := by
  refine ⟨by omega, by omega, ?_⟩
  by_cases ha0 : a = 0
  · subst ha0; left; rw [limbs_zero]; omega
  · by_cases hb0 : b = 0
    · subst hb0; right; rw [limbs_zero]; omega
    · have := limbs_prod ha0 hb0
      omega
/-- all products up to Z are shown -/
def PFit (Z : Nat) : Prop := ∀ x y, 0 < x → 0 < y → x * y ≤ Z → MulFit x y
theorem PFit.of {Z : Nat} (h : limbs Z ≤ 94) : PFit Z := fun x y hx hy hxy => by
  have h1 := limbs_mono hxy
  have h2 := limbs_mono (Nat.le_trans (Nat.le_mul_of_pos_right x hy) hxy)
  have h3 := limbs_mono (Nat.le_trans (Nat.le_mul_of_pos_left y hx) hxy)
  exact MulFit.of_prod (by omega) (by omega) (by omega)

theorem and_one {m : Nat} (h : m < 9223372036854775808) : bits .and .i64 (m : Int) 1 = ((m % 2 : Nat) : Int) := by
  have e2 : (BitVec.ofInt 64 (m : Int) &&& BitVec.ofInt 64 (1 : Int)).toNat = m % 2 := by
    rw [BitVec.toNat_and, BitVec.ofInt_natCast, BitVec.toNat_ofNat, Nat.mod_eq_of_lt (by omega)]
    exact Nat.and_one_is_mod m
  show IntKind.i64.wrap (((BitVec.ofInt 64 (m : Int) &&& BitVec.ofInt 64 (1 : Int)).toNat : Nat) : Int) = _
  rw [e2]
  exact IntWalk.i64_in _ (by omega)

/-- what holds between two rounds of mul.Pow -/
structure Powing (A x o m : Nat) : Prop where
  sum : o * x ^ m = A
  x0 : 0 < x
  o0 : 0 < o
theorem Powing.odd {A x o m : Nat} (h : Powing A x o m) (hm : m % 2 = 1) : o * x ≤ A ∧ Powing A (x * x) (o * x) (m / 2) ∧ (m = 1 → Powing A x (o * x) (m / 2)) := by
  obtain ⟨h1, h2, h3⟩ := h
  refine ⟨?_, ⟨?_, Nat.mul_pos h2 h2, Nat.mul_pos h3 h2⟩, fun e => ⟨?_, h2, Nat.mul_pos h3 h2⟩⟩
  · rw [← h1]
    obtain ⟨k, rfl⟩ : ∃ k, m = k + 1 := ⟨m - 1, by omega⟩
    rw [Nat.pow_succ, Nat.mul_comm (x ^ k), ← Nat.mul_assoc]
    exact Nat.le_mul_of_pos_right _ (Nat.pow_pos h2)
  · rw [← h1, ← Nat.pow_two, ← Nat.pow_mul, Nat.mul_assoc, ← Nat.pow_succ', show (2 * (m / 2)).succ = m by omega]
  · subst e
    rw [← h1]
    simp
theorem Powing.even {A x o m : Nat} (h : Powing A x o m) (hm : m % 2 = 0) : Powing A (x * x) o (m / 2) := by
  obtain ⟨h1, h2, h3⟩ := h
  refine ⟨?_, Nat.mul_pos h2 h2, h3⟩
  rw [← h1, ← Nat.pow_two, ← Nat.pow_mul, show 2 * (m / 2) = m by omega]
theorem Powing.sq {A x o m : Nat} (h : Powing A x o m) (hm : 1 < m) : x * x ≤ A := by
  obtain ⟨h1, h2, h3⟩ := h
  rw [← h1]
  obtain ⟨k, rfl⟩ : ∃ k, m = k + 2 := ⟨m - 2, by omega⟩
  rw [Nat.pow_add, Nat.pow_two]
  have h4 : 0 < o * x ^ k := Nat.mul_pos h3 (Nat.pow_pos h2)
  rw [← Nat.mul_assoc]
  exact Nat.le_mul_of_pos_left _ h4

set_option maxRecDepth 100000 in
set_option maxHeartbeats 4000000 in
theorem pow_nt {va : Value} {a : Nat} {w : World} (na : Nt w va a) (ha : 0 < a) (n : Nat) (i : Int) (hi : i = (n : Int)) (hn : n ≤ 1000000000) (hp : PFit (a ^ n)) :
    Calls Tryd.prog 77 #[va, .int .i64 i] w fun e w' => ∃ v, e = .returned v ∧ Nt w' v (a ^ n) ∧ Below w.heap.size w w' := by
  subst hi
  have HP := Lib.hid hp
  have H0 : Hid (Powing (a ^ n) a 1 n) := ⟨by rw [Nat.one_mul], ha, by omega⟩
  generalize a ^ n = A at *
  clear hp
  go_enter Tryd.func77, Tryd.ntmps77
  go_wp2_with fail
  have hone := one_limb (w := w) (e := 46) 1 (by omega) (by omega)
  have T := After.alloc (After.refl w) (.cells #[.int .u32 1] 46)
  replace na := na.below T.out
  have HO := Lib.hid hone
  have HT := Lib.hid T
  have HA := Lib.hid na
  clear hone T na
  generalize w.alloc _ = w1 at *
  go_loopw [0, 1, 5] (fun v0 v1 v5 wr => ∃ (m x o : Nat), m ≤ 1000000000 ∧ v1 = .int .i64 (m : Int) ∧ Hid (Nt wr v0 x) ∧ Hid (Nt wr v5 o) ∧ Hid (Powing A x o m) ∧ Hid (After w wr)) (fun _ v1 _ _ => (intOf v1).toNat)
  case atStart => exact ⟨n, a, 1, hn, rfl, HA, HO, H0, HT⟩
  case round =>
    rename_i v0 v5
    clear HA HO H0 HT
    obtain ⟨m, x, o, hm, rfl, hx, ho, hpw, T⟩ := hrel
    by_cases hm0 : m = 0
    · subst hm0
      go_wp2_with fail
      go_ret
      have e := hpw.out.sum
      rw [Nat.pow_zero, Nat.mul_one] at e
      exact ⟨_, rfl, by rw [← e]; exact ho.out, T.out⟩
    · have hand := and_one (m := m) (by omega)
      have hpos : (0 : Int) < (m : Int) := by omega
      by_cases hodd : m % 2 = 1
      · rw [hodd] at hand
        obtain ⟨p1, p2, p3⟩ := hpw.out.odd hodd
        have f1 := Lib.hid (HP.out o x hpw.out.o0 hpw.out.x0 p1)
        by_cases h1 : m = 1
        · have p4 := Lib.hid (p3 h1)
          clear p1 p2 p3
          subst h1
          go_wp2_with fail
          (with_reducible refine (mul_fit ho.out hx.out f1.out).mono ?_)
          rintro e w2 ⟨vo, rfl, hvo, hb2⟩
          have HX2 := Lib.hid (hx.out.below hb2)
          have HO2 := Lib.hid hvo
          have T2 := Lib.hid (After.t T.out hb2)
          clear hvo hb2 ho hx T
          go_wp2_with fail
          go_roundw
          case rel => exact ⟨0, x, o * x, by omega, by first | rfl | go_num, HX2, HO2, p4, T2⟩
          case measure => simp [intOf]
        · have p5 := hpw.out.sq (by omega)
          have f2 := Lib.hid (HP.out x x hpw.out.x0 hpw.out.x0 p5)
          have p4 := Lib.hid p2
          clear p1 p2 p3 p5
          go_wp2_with fail
          (with_reducible refine (mul_fit ho.out hx.out f1.out).mono ?_)
          rintro e w2 ⟨vo, rfl, hvo, hb2⟩
          have HX2 := Lib.hid (hx.out.below hb2)
          have HO2 := Lib.hid hvo
          have T2 := Lib.hid (After.t T.out hb2)
          clear hvo hb2 ho hx T
          go_wp2_with fail
          (with_reducible refine (mul_fit HX2.out HX2.out f2.out).mono ?_)
          rintro e w3 ⟨vx, rfl, hvx, hb3⟩
          have HO3 := Lib.hid (HO2.out.below hb3)
          have HX3 := Lib.hid hvx
          have T3 := Lib.hid (After.t T2.out hb3)
          clear hvx hb3 HO2 HX2 T2
          go_wp2_with fail
          go_roundw
          case rel => exact ⟨m / 2, x * x, o * x, by omega, by first | rfl | go_num, HX3, HO3, p4, T3⟩
          case measure => simp [intOf]; omega
      · have hev : m % 2 = 0 := by omega
        rw [hev] at hand
        have p5 := hpw.out.sq (by omega)
        have f2 := Lib.hid (HP.out x x hpw.out.x0 hpw.out.x0 p5)
        have p4 := Lib.hid (hpw.out.even hev)
        clear p5
        go_wp2_with fail
        (with_reducible refine (mul_fit hx.out hx.out f2.out).mono ?_)
        rintro e w3 ⟨vx, rfl, hvx, hb3⟩
        have HO3 := Lib.hid (ho.out.below hb3)
        have HX3 := Lib.hid hvx
        have T3 := Lib.hid (After.t T.out hb3)
        clear hvx hb3 ho hx T
        go_wp2_with fail
        go_roundw
        case rel => exact ⟨m / 2, x * x, o, by omega, by first | rfl | go_num, HX3, HO3, p4, T3⟩
        case measure => simp [intOf]; omega
end Go.Proofs.YtopbfgmpilnghaaDoor
