/- mul.Karatsuba: the product by three halves. -/
import Derived.Test.YtopbfgmpilnghaaDoorSchools
set_option linter.unusedVariables false
set_option linter.unusedSimpArgs false
namespace Go.Proofs.YtopbfgmpilnghaaDoor
open Go.RowKit

/-- nothing that lay has turned -/
def After (w w' : World) : Prop := Below w.heap.size w w'
theorem After.refl (w : World) : After w w := Below.refl _ _
theorem After.t {a b c : World} (h : After a b) (k : Below b.heap.size b c) : After a c := Below.trans h (k.mono (Below.size h))
theorem After.alloc {a b : World} (h : After a b) (o : Obj) : After a (b.alloc o) := Below.alloc h (Below.size h) o
theorem After.out {a b : World} (h : After a b) : Below a.heap.size a b := h

theorem part_low {v : Value} {a : Nat} {w : World} (ha : Nt w v a) (la : limbs a ≤ 536870912) (to : Int) (y : Nat) (ht : to = (y : Int)) (hy : y ≤ 4611686018427387904) :
    Calls Tryd.prog 104 #[v, .int .i64 0, .int .i64 to] w fun e w' => ∃ v, e = .returned v ∧ Nt w' v (a % 4294967296 ^ y) ∧ Below w.heap.size w w' := by
  have := part_nt ha la 0 to 0 y (by omega) ht (by omega) hy
  rw [Nat.pow_zero, Nat.div_one, Nat.sub_zero] at this
  exact this

theorem part_high {v : Value} {a : Nat} {w : World} (ha : Nt w v a) (la : limbs a ≤ 536870912) (fr to : Int) (x y : Nat) (hf : fr = (x : Int)) (ht : to = (y : Int)) (hxy : x ≤ y) (hy : y ≤ 4611686018427387904) (hl : limbs a ≤ y) :
    Calls Tryd.prog 104 #[v, .int .i64 fr, .int .i64 to] w fun e w' => ∃ v, e = .returned v ∧ Nt w' v (a / 4294967296 ^ x) ∧ Below w.heap.size w w' := by
  have := part_nt ha la fr to x y hf ht hxy hy
  rw [Nat.mod_eq_of_lt] at this
  · exact this
  · rw [Nat.div_lt_iff_lt_mul (Nat.pow_pos (by omega)), ← Nat.pow_add, show y - x + x = y from by omega]
    have h1 := lt_limbs a
    have h2 : 4294967296 ^ limbs a ≤ 4294967296 ^ y := Nat.pow_le_pow_right (by omega) hl
    omega

theorem shl_int {v : Value} {a : Nat} {w : World} (ha : Nt w v a) (la : limbs a ≤ 536870912) (i : Int) (n : Nat) (hi : i = (n : Int)) (hn : n ≤ 17179869184) :
    Calls Tryd.prog 79 #[v, .int .i64 i] w fun e w' => ∃ v, e = .returned v ∧ Nt w' v (a * 2 ^ n) ∧ Below w.heap.size w w' := by
  subst hi
  exact shl_nt ha la hn

theorem limbs_low (a k : Nat) : limbs (a % 4294967296 ^ k) ≤ k := limbs_le (Nat.mod_lt _ (Nat.pow_pos (by omega)))
theorem limbs_high {a n k : Nat} (h : limbs a ≤ n) (hk : k ≤ n) : limbs (a / 4294967296 ^ k) ≤ n - k := by
  apply limbs_le
  rw [Nat.div_lt_iff_lt_mul (Nat.pow_pos (by omega)), ← Nat.pow_add, show n - k + k = n from by omega]
  have h1 := lt_limbs a
  have h2 : 4294967296 ^ limbs a ≤ 4294967296 ^ n := Nat.pow_le_pow_right (by omega) h
  omega
theorem limbs_shl (a n : Nat) : limbs (a * 2 ^ n) ≤ limbs a + n / 32 + 1 := by
  apply limbs_le
  have h1 := lt_limbs a
  have h2 : 2 ^ n ≤ 4294967296 ^ (n / 32 + 1) := by
    rw [pow32]
    exact Nat.pow_le_pow_right (by omega) (by omega)
  rw [Nat.add_assoc, Nat.pow_add]
  have hp : 0 < 2 ^ n := Nat.pow_pos (by omega)
  calc a * 2 ^ n < 4294967296 ^ limbs a * 2 ^ n := Nat.mul_lt_mul_of_pos_right h1 hp
    _ ≤ _ := Nat.mul_le_mul_left _ h2
theorem limbs_mul_le {a b m n : Nat} (h : limbs a ≤ m) (h' : limbs b ≤ n) : limbs (a * b) ≤ m + n := Nat.le_trans (limbs_mul a b) (by omega)
theorem limbs_add_le {a b n : Nat} (h : limbs a ≤ n) (h' : limbs b ≤ n) : limbs (a + b) ≤ n + 1 := Nat.le_trans (limbs_add a b) (by omega)
theorem limbs_sub_le {a b n : Nat} (h : limbs a ≤ n) : limbs (a - b) ≤ n := Nat.le_trans (limbs_sub a b) h

theorem parts (a k : Nat) : a = a % 4294967296 ^ k + a / 4294967296 ^ k * 4294967296 ^ k := by
  have := Nat.div_add_mod a (4294967296 ^ k)
  rw [Nat.mul_comm] at this
  omega

theorem pow_shift (k : Nat) : (2 : Nat) ^ (32 * k) = 4294967296 ^ k := (pow32 k).symm

/-- Karatsuba's law -/
theorem kara_law (a0 a1 b0 b1 P : Nat) : a0 * b0 + (((a0 + a1) * (b0 + b1) - (a0 * b0 + a1 * b1)) * P + a1 * b1 * (P * P)) = (a0 + a1 * P) * (b0 + b1 * P) := by
  have h : (a0 + a1) * (b0 + b1) - (a0 * b0 + a1 * b1) = a0 * b1 + a1 * b0 := by
    have : (a0 + a1) * (b0 + b1) = (a0 * b0 + a1 * b1) + (a0 * b1 + a1 * b0) := by grind
    omega
  rw [h]
  grind

theorem kara_ge (a0 a1 b0 b1 : Nat) : a0 * b0 + a1 * b1 ≤ (a0 + a1) * (b0 + b1) := by
  have : (a0 + a1) * (b0 + b1) = (a0 * b0 + a1 * b1) + (a0 * b1 + a1 * b0) := by grind
  omega

/-- what a product's contract says up to N limbs -/
def MulOk (fn N : Nat) : Prop := ∀ (va vb : Value) (a b : Nat) (w : World), Nt w va a → Nt w vb b → limbs a ≤ N → limbs b ≤ N →
  Calls Tryd.prog fn #[va, vb] w fun e w' => ∃ v, e = .returned v ∧ Nt w' v (a * b) ∧ Below w.heap.size w w'

set_option maxRecDepth 100000 in
set_option maxHeartbeats 4000000 in
theorem kara_few {va vb : Value} {a b : Nat} {w : World} (ha : Nt w va a) (hb : Nt w vb b) (la : limbs a ≤ 33554432) (lb : limbs b ≤ 33554432) (h : limbs a < 4 ∨ limbs b < 4) :
    Calls Tryd.prog 89 #[va, vb] w fun e w' => ∃ v, e = .returned v ∧ Nt w' v (a * b) ∧ Below w.heap.size w w' := by
  have H := Lib.hid (school_nt ha hb (by omega) (by omega))
  obtain ⟨aa, ca, fa, rfl, _⟩ := ha.open
  obtain ⟨ab, cb, fb, rfl, _⟩ := hb.open
  clear ha hb
  generalize limbs a = n at *
  generalize limbs b = m at *
  by_cases hnm : n ≤ m
  · have h4 : n < 4 := by omega
    go_enter Tryd.func89, Tryd.ntmps89
    go_wp2_with (go_at_call 90; refine H.out.mono ?_; rintro e w1 ⟨v, rfl, hv, hb⟩)
    all_goals
      go_ret
      exact ⟨v, rfl, hv, hb⟩
  · have h4 : m < 4 := by omega
    have hmn : m < n := by omega
    go_enter Tryd.func89, Tryd.ntmps89
    go_wp2_with (go_at_call 90; refine H.out.mono ?_; rintro e w1 ⟨v, rfl, hv, hb⟩)
    all_goals
      go_ret
      exact ⟨v, rfl, hv, hb⟩

set_option maxRecDepth 100000 in
set_option maxHeartbeats 8000000 in
theorem kara_step (N : Nat) (hN : N ≤ 16777216) (h4 : 4 ≤ N) (ih : Hid (∀ M, M < N → MulOk 89 M)) {va vb : Value} {a b : Nat} {w : World} (na : Nt w va a) (nb : Nt w vb b)
    (la : 4 ≤ limbs a) (lb : 4 ≤ limbs b) (hmax : max (limbs a) (limbs b) = N) :
    Calls Tryd.prog 89 #[va, vb] w fun e w' => ∃ v, e = .returned v ∧ Nt w' v (a * b) ∧ Below w.heap.size w w' := by
  obtain ⟨k, hk⟩ : ∃ k, (N + 1) / 2 = k := ⟨_, rfl⟩
  have hkk : 2 * k = N ∨ 2 * k = N + 1 := by omega
  have la' : limbs a ≤ N := by omega
  have lb' : limbs b ≤ N := by omega
  have ih1 : MulOk 89 (k + 1) := ih.out (k + 1) (by omega)
  have l0 := limbs_low a k
  have l1 := limbs_high la' (show k ≤ N by omega)
  have k0 := limbs_low b k
  have k1 := limbs_high lb' (show k ≤ N by omega)
  have hlaw : Hid (a % 4294967296 ^ k * (b % 4294967296 ^ k) + (((a % 4294967296 ^ k + a / 4294967296 ^ k) * (b % 4294967296 ^ k + b / 4294967296 ^ k) - (a % 4294967296 ^ k * (b % 4294967296 ^ k) + a / 4294967296 ^ k * (b / 4294967296 ^ k))) * 2 ^ (32 * k) + a / 4294967296 ^ k * (b / 4294967296 ^ k) * 2 ^ (64 * k)) = a * b) := by
    have e : (2 : Nat) ^ (64 * k) = 4294967296 ^ k * 4294967296 ^ k := by rw [← pow_shift, ← Nat.pow_add]; congr 1; omega
    unfold Hid
    rw [pow_shift, e, kara_law, ← parts, ← parts]
  obtain ⟨aa, ca, fa, rfl, _⟩ := na.open
  obtain ⟨ab, cb, fb, rfl, _⟩ := nb.open
  have T : After w w := After.refl w
  clear ih
  have ih := ih1
  clear ih1 hk
  have l1' : limbs (a / 4294967296 ^ k) ≤ k := by omega
  have k1' : limbs (b / 4294967296 ^ k) ≤ k := by omega
  generalize hx : limbs a = x at *
  generalize hy : limbs b = y at *
  have hx' : limbs a ≤ N := by omega
  have hy' : limbs b ≤ N := by omega
  clear hx hy
  rcases Nat.lt_trichotomy x y with hxy | rfl | hxy
  · obtain rfl : N = y := by omega
    go_enter Tryd.func89, Tryd.ntmps89
    go_wp2_with fail
    refine (part_low na (by omega) _ k (by omega) (by omega)).mono ?_
    rintro e w' ⟨x0, rfl, n0, t⟩
    replace na := na.below t
    replace nb := nb.below t
    replace T := After.t T t
    clear t
    go_wp2_with fail
    refine (part_high na (by omega) _ _ k N (by omega) (by omega) (by omega) (by omega) (by omega)).mono ?_
    rintro e w' ⟨x1, rfl, n1, t⟩
    clear na
    replace nb := nb.below t
    replace n0 := n0.below t
    replace T := After.t T t
    clear t
    go_wp2_with fail
    refine (part_low nb (by omega) _ k (by omega) (by omega)).mono ?_
    rintro e w' ⟨y0, rfl, m0, t⟩
    replace nb := nb.below t
    replace n0 := n0.below t
    replace n1 := n1.below t
    replace T := After.t T t
    clear t
    go_wp2_with fail
    refine (part_high nb (by omega) _ _ k N (by omega) (by omega) (by omega) (by omega) (by omega)).mono ?_
    rintro e w' ⟨y1, rfl, m1, t⟩
    clear nb
    replace n0 := n0.below t
    replace n1 := n1.below t
    replace m0 := m0.below t
    replace T := After.t T t
    clear t
    generalize a % 4294967296 ^ k = a0 at *
    generalize a / 4294967296 ^ k = a1 at *
    generalize b % 4294967296 ^ k = b0 at *
    generalize b / 4294967296 ^ k = b1 at *
    go_wp2_with fail
    refine (ih _ _ a0 b0 _ n0 m0 (by omega) (by omega)).mono ?_
    rintro e w' ⟨lo, rfl, nlo, t⟩
    replace n0 := n0.below t
    replace n1 := n1.below t
    replace m0 := m0.below t
    replace m1 := m1.below t
    replace T := After.t T t
    clear t
    have llo := limbs_mul_le l0 k0
    go_wp2_with fail
    refine (ih _ _ a1 b1 _ n1 m1 (by omega) (by omega)).mono ?_
    rintro e w' ⟨hg, rfl, nhg, t⟩
    replace n0 := n0.below t
    replace n1 := n1.below t
    replace m0 := m0.below t
    replace m1 := m1.below t
    replace nlo := nlo.below t
    replace T := After.t T t
    clear t
    have lhg := limbs_mul_le l1 k1
    go_wp2_with fail
    refine (add_nt n0 n1 (by omega) (by omega)).mono ?_
    rintro e w' ⟨sa, rfl, nsa, t⟩
    clear n0 n1
    replace m0 := m0.below t
    replace m1 := m1.below t
    replace nlo := nlo.below t
    replace nhg := nhg.below t
    replace T := After.t T t
    clear t
    have lsa := limbs_add_le (n := k) l0 l1'
    go_wp2_with fail
    refine (add_nt m0 m1 (by omega) (by omega)).mono ?_
    rintro e w' ⟨sb, rfl, nsb, t⟩
    clear m0 m1
    replace nlo := nlo.below t
    replace nhg := nhg.below t
    replace nsa := nsa.below t
    replace T := After.t T t
    clear t
    have lsb := limbs_add_le (n := k) k0 k1'
    go_wp2_with fail
    refine (ih _ _ _ _ _ nsa nsb (by omega) (by omega)).mono ?_
    rintro e w' ⟨pm, rfl, npm, t⟩
    clear nsa nsb
    replace nlo := nlo.below t
    replace nhg := nhg.below t
    replace T := After.t T t
    clear t
    have lpm := limbs_mul_le lsa lsb
    go_wp2_with fail
    refine (add_nt nlo nhg (by omega) (by omega)).mono ?_
    rintro e w' ⟨sl, rfl, nsl, t⟩
    replace nlo := nlo.below t
    replace nhg := nhg.below t
    replace npm := npm.below t
    replace T := After.t T t
    clear t
    go_wp2_with fail
    refine (less_nt npm nsl (by omega) (kara_ge a0 a1 b0 b1)).mono ?_
    rintro e w' ⟨md, rfl, nmd, t⟩
    clear npm nsl
    replace nlo := nlo.below t
    replace nhg := nhg.below t
    replace T := After.t T t
    clear t
    have lmd : limbs ((a0 + a1) * (b0 + b1) - (a0 * b0 + a1 * b1)) ≤ k + 1 + (k + 1) := limbs_sub_le lpm
    go_wp2_with fail
    refine (shl_int nmd (by omega) _ (32 * k) (by omega) (by omega)).mono ?_
    rintro e w' ⟨s1, rfl, ns1, t⟩
    clear nmd
    replace nlo := nlo.below t
    replace nhg := nhg.below t
    replace T := After.t T t
    clear t
    have ls1 := Nat.le_trans (limbs_shl ((a0 + a1) * (b0 + b1) - (a0 * b0 + a1 * b1)) (32 * k)) (Nat.add_le_add_right (Nat.add_le_add_right lmd _) _)
    go_wp2_with fail
    refine (shl_int nhg (by omega) _ (64 * k) (by omega) (by omega)).mono ?_
    rintro e w' ⟨s2, rfl, ns2, t⟩
    clear nhg
    replace nlo := nlo.below t
    replace ns1 := ns1.below t
    replace T := After.t T t
    clear t
    have ls2 := Nat.le_trans (limbs_shl (a1 * b1) (64 * k)) (Nat.add_le_add_right (Nat.add_le_add_right lhg _) _)
    go_wp2_with fail
    refine (add_nt ns1 ns2 (by omega) (by omega)).mono ?_
    rintro e w' ⟨s3, rfl, ns3, t⟩
    clear ns1 ns2
    replace nlo := nlo.below t
    replace T := After.t T t
    clear t
    have ls3 := limbs_add ((((a0 + a1) * (b0 + b1) - (a0 * b0 + a1 * b1)) * 2 ^ (32 * k))) (a1 * b1 * 2 ^ (64 * k))
    go_wp2_with fail
    refine (add_nt nlo ns3 (by omega) (by omega)).mono ?_
    rintro e w' ⟨s4, rfl, ns4, t⟩
    clear nlo ns3
    replace T := After.t T t
    clear t
    go_wp2_with fail
    go_ret
    exact ⟨s4, rfl, by rw [← hlaw.out]; exact ns4, T⟩
  · obtain rfl : N = x := by omega
    go_enter Tryd.func89, Tryd.ntmps89
    go_wp2_with fail
    refine (part_low na (by omega) _ k (by omega) (by omega)).mono ?_
    rintro e w' ⟨x0, rfl, n0, t⟩
    replace na := na.below t
    replace nb := nb.below t
    replace T := After.t T t
    clear t
    go_wp2_with fail
    refine (part_high na (by omega) _ _ k N (by omega) (by omega) (by omega) (by omega) (by omega)).mono ?_
    rintro e w' ⟨x1, rfl, n1, t⟩
    clear na
    replace nb := nb.below t
    replace n0 := n0.below t
    replace T := After.t T t
    clear t
    go_wp2_with fail
    refine (part_low nb (by omega) _ k (by omega) (by omega)).mono ?_
    rintro e w' ⟨y0, rfl, m0, t⟩
    replace nb := nb.below t
    replace n0 := n0.below t
    replace n1 := n1.below t
    replace T := After.t T t
    clear t
    go_wp2_with fail
    refine (part_high nb (by omega) _ _ k N (by omega) (by omega) (by omega) (by omega) (by omega)).mono ?_
    rintro e w' ⟨y1, rfl, m1, t⟩
    clear nb
    replace n0 := n0.below t
    replace n1 := n1.below t
    replace m0 := m0.below t
    replace T := After.t T t
    clear t
    generalize a % 4294967296 ^ k = a0 at *
    generalize a / 4294967296 ^ k = a1 at *
    generalize b % 4294967296 ^ k = b0 at *
    generalize b / 4294967296 ^ k = b1 at *
    go_wp2_with fail
    refine (ih _ _ a0 b0 _ n0 m0 (by omega) (by omega)).mono ?_
    rintro e w' ⟨lo, rfl, nlo, t⟩
    replace n0 := n0.below t
    replace n1 := n1.below t
    replace m0 := m0.below t
    replace m1 := m1.below t
    replace T := After.t T t
    clear t
    have llo := limbs_mul_le l0 k0
    go_wp2_with fail
    refine (ih _ _ a1 b1 _ n1 m1 (by omega) (by omega)).mono ?_
    rintro e w' ⟨hg, rfl, nhg, t⟩
    replace n0 := n0.below t
    replace n1 := n1.below t
    replace m0 := m0.below t
    replace m1 := m1.below t
    replace nlo := nlo.below t
    replace T := After.t T t
    clear t
    have lhg := limbs_mul_le l1 k1
    go_wp2_with fail
    refine (add_nt n0 n1 (by omega) (by omega)).mono ?_
    rintro e w' ⟨sa, rfl, nsa, t⟩
    clear n0 n1
    replace m0 := m0.below t
    replace m1 := m1.below t
    replace nlo := nlo.below t
    replace nhg := nhg.below t
    replace T := After.t T t
    clear t
    have lsa := limbs_add_le (n := k) l0 l1'
    go_wp2_with fail
    refine (add_nt m0 m1 (by omega) (by omega)).mono ?_
    rintro e w' ⟨sb, rfl, nsb, t⟩
    clear m0 m1
    replace nlo := nlo.below t
    replace nhg := nhg.below t
    replace nsa := nsa.below t
    replace T := After.t T t
    clear t
    have lsb := limbs_add_le (n := k) k0 k1'
    go_wp2_with fail
    refine (ih _ _ _ _ _ nsa nsb (by omega) (by omega)).mono ?_
    rintro e w' ⟨pm, rfl, npm, t⟩
    clear nsa nsb
    replace nlo := nlo.below t
    replace nhg := nhg.below t
    replace T := After.t T t
    clear t
    have lpm := limbs_mul_le lsa lsb
    go_wp2_with fail
    refine (add_nt nlo nhg (by omega) (by omega)).mono ?_
    rintro e w' ⟨sl, rfl, nsl, t⟩
    replace nlo := nlo.below t
    replace nhg := nhg.below t
    replace npm := npm.below t
    replace T := After.t T t
    clear t
    go_wp2_with fail
    refine (less_nt npm nsl (by omega) (kara_ge a0 a1 b0 b1)).mono ?_
    rintro e w' ⟨md, rfl, nmd, t⟩
    clear npm nsl
    replace nlo := nlo.below t
    replace nhg := nhg.below t
    replace T := After.t T t
    clear t
    have lmd : limbs ((a0 + a1) * (b0 + b1) - (a0 * b0 + a1 * b1)) ≤ k + 1 + (k + 1) := limbs_sub_le lpm
    go_wp2_with fail
    refine (shl_int nmd (by omega) _ (32 * k) (by omega) (by omega)).mono ?_
    rintro e w' ⟨s1, rfl, ns1, t⟩
    clear nmd
    replace nlo := nlo.below t
    replace nhg := nhg.below t
    replace T := After.t T t
    clear t
    have ls1 := Nat.le_trans (limbs_shl ((a0 + a1) * (b0 + b1) - (a0 * b0 + a1 * b1)) (32 * k)) (Nat.add_le_add_right (Nat.add_le_add_right lmd _) _)
    go_wp2_with fail
    refine (shl_int nhg (by omega) _ (64 * k) (by omega) (by omega)).mono ?_
    rintro e w' ⟨s2, rfl, ns2, t⟩
    clear nhg
    replace nlo := nlo.below t
    replace ns1 := ns1.below t
    replace T := After.t T t
    clear t
    have ls2 := Nat.le_trans (limbs_shl (a1 * b1) (64 * k)) (Nat.add_le_add_right (Nat.add_le_add_right lhg _) _)
    go_wp2_with fail
    refine (add_nt ns1 ns2 (by omega) (by omega)).mono ?_
    rintro e w' ⟨s3, rfl, ns3, t⟩
    clear ns1 ns2
    replace nlo := nlo.below t
    replace T := After.t T t
    clear t
    have ls3 := limbs_add ((((a0 + a1) * (b0 + b1) - (a0 * b0 + a1 * b1)) * 2 ^ (32 * k))) (a1 * b1 * 2 ^ (64 * k))
    go_wp2_with fail
    refine (add_nt nlo ns3 (by omega) (by omega)).mono ?_
    rintro e w' ⟨s4, rfl, ns4, t⟩
    clear nlo ns3
    replace T := After.t T t
    clear t
    go_wp2_with fail
    go_ret
    exact ⟨s4, rfl, by rw [← hlaw.out]; exact ns4, T⟩
  · obtain rfl : N = x := by omega
    go_enter Tryd.func89, Tryd.ntmps89
    go_wp2_with fail
    refine (part_low na (by omega) _ k (by omega) (by omega)).mono ?_
    rintro e w' ⟨x0, rfl, n0, t⟩
    replace na := na.below t
    replace nb := nb.below t
    replace T := After.t T t
    clear t
    go_wp2_with fail
    refine (part_high na (by omega) _ _ k N (by omega) (by omega) (by omega) (by omega) (by omega)).mono ?_
    rintro e w' ⟨x1, rfl, n1, t⟩
    clear na
    replace nb := nb.below t
    replace n0 := n0.below t
    replace T := After.t T t
    clear t
    go_wp2_with fail
    refine (part_low nb (by omega) _ k (by omega) (by omega)).mono ?_
    rintro e w' ⟨y0, rfl, m0, t⟩
    replace nb := nb.below t
    replace n0 := n0.below t
    replace n1 := n1.below t
    replace T := After.t T t
    clear t
    go_wp2_with fail
    refine (part_high nb (by omega) _ _ k N (by omega) (by omega) (by omega) (by omega) (by omega)).mono ?_
    rintro e w' ⟨y1, rfl, m1, t⟩
    clear nb
    replace n0 := n0.below t
    replace n1 := n1.below t
    replace m0 := m0.below t
    replace T := After.t T t
    clear t
    generalize a % 4294967296 ^ k = a0 at *
    generalize a / 4294967296 ^ k = a1 at *
    generalize b % 4294967296 ^ k = b0 at *
    generalize b / 4294967296 ^ k = b1 at *
    go_wp2_with fail
    refine (ih _ _ a0 b0 _ n0 m0 (by omega) (by omega)).mono ?_
    rintro e w' ⟨lo, rfl, nlo, t⟩
    replace n0 := n0.below t
    replace n1 := n1.below t
    replace m0 := m0.below t
    replace m1 := m1.below t
    replace T := After.t T t
    clear t
    have llo := limbs_mul_le l0 k0
    go_wp2_with fail
    refine (ih _ _ a1 b1 _ n1 m1 (by omega) (by omega)).mono ?_
    rintro e w' ⟨hg, rfl, nhg, t⟩
    replace n0 := n0.below t
    replace n1 := n1.below t
    replace m0 := m0.below t
    replace m1 := m1.below t
    replace nlo := nlo.below t
    replace T := After.t T t
    clear t
    have lhg := limbs_mul_le l1 k1
    go_wp2_with fail
    refine (add_nt n0 n1 (by omega) (by omega)).mono ?_
    rintro e w' ⟨sa, rfl, nsa, t⟩
    clear n0 n1
    replace m0 := m0.below t
    replace m1 := m1.below t
    replace nlo := nlo.below t
    replace nhg := nhg.below t
    replace T := After.t T t
    clear t
    have lsa := limbs_add_le (n := k) l0 l1'
    go_wp2_with fail
    refine (add_nt m0 m1 (by omega) (by omega)).mono ?_
    rintro e w' ⟨sb, rfl, nsb, t⟩
    clear m0 m1
    replace nlo := nlo.below t
    replace nhg := nhg.below t
    replace nsa := nsa.below t
    replace T := After.t T t
    clear t
    have lsb := limbs_add_le (n := k) k0 k1'
    go_wp2_with fail
    refine (ih _ _ _ _ _ nsa nsb (by omega) (by omega)).mono ?_
    rintro e w' ⟨pm, rfl, npm, t⟩
    clear nsa nsb
    replace nlo := nlo.below t
    replace nhg := nhg.below t
    replace T := After.t T t
    clear t
    have lpm := limbs_mul_le lsa lsb
    go_wp2_with fail
    refine (add_nt nlo nhg (by omega) (by omega)).mono ?_
    rintro e w' ⟨sl, rfl, nsl, t⟩
    replace nlo := nlo.below t
    replace nhg := nhg.below t
    replace npm := npm.below t
    replace T := After.t T t
    clear t
    go_wp2_with fail
    refine (less_nt npm nsl (by omega) (kara_ge a0 a1 b0 b1)).mono ?_
    rintro e w' ⟨md, rfl, nmd, t⟩
    clear npm nsl
    replace nlo := nlo.below t
    replace nhg := nhg.below t
    replace T := After.t T t
    clear t
    have lmd : limbs ((a0 + a1) * (b0 + b1) - (a0 * b0 + a1 * b1)) ≤ k + 1 + (k + 1) := limbs_sub_le lpm
    go_wp2_with fail
    refine (shl_int nmd (by omega) _ (32 * k) (by omega) (by omega)).mono ?_
    rintro e w' ⟨s1, rfl, ns1, t⟩
    clear nmd
    replace nlo := nlo.below t
    replace nhg := nhg.below t
    replace T := After.t T t
    clear t
    have ls1 := Nat.le_trans (limbs_shl ((a0 + a1) * (b0 + b1) - (a0 * b0 + a1 * b1)) (32 * k)) (Nat.add_le_add_right (Nat.add_le_add_right lmd _) _)
    go_wp2_with fail
    refine (shl_int nhg (by omega) _ (64 * k) (by omega) (by omega)).mono ?_
    rintro e w' ⟨s2, rfl, ns2, t⟩
    clear nhg
    replace nlo := nlo.below t
    replace ns1 := ns1.below t
    replace T := After.t T t
    clear t
    have ls2 := Nat.le_trans (limbs_shl (a1 * b1) (64 * k)) (Nat.add_le_add_right (Nat.add_le_add_right lhg _) _)
    go_wp2_with fail
    refine (add_nt ns1 ns2 (by omega) (by omega)).mono ?_
    rintro e w' ⟨s3, rfl, ns3, t⟩
    clear ns1 ns2
    replace nlo := nlo.below t
    replace T := After.t T t
    clear t
    have ls3 := limbs_add ((((a0 + a1) * (b0 + b1) - (a0 * b0 + a1 * b1)) * 2 ^ (32 * k))) (a1 * b1 * 2 ^ (64 * k))
    go_wp2_with fail
    refine (add_nt nlo ns3 (by omega) (by omega)).mono ?_
    rintro e w' ⟨s4, rfl, ns4, t⟩
    clear nlo ns3
    replace T := After.t T t
    clear t
    go_wp2_with fail
    go_ret
    exact ⟨s4, rfl, by rw [← hlaw.out]; exact ns4, T⟩

/-- mul.Karatsuba: the product. -/
theorem kara_ok (N : Nat) : N ≤ 16777216 → MulOk 89 N := by
  induction N using Nat.strongRecOn with
  | _ N ih =>
    intro hN va vb a b w na nb la lb
    by_cases h : limbs a < 4 ∨ limbs b < 4
    · exact kara_few na nb (by omega) (by omega) h
    · exact kara_step (max (limbs a) (limbs b)) (by omega) (by omega) (fun M hM => ih M (by omega) (by omega)) na nb (by omega) (by omega) rfl

theorem kara_nt {va vb : Value} {a b : Nat} {w : World} (ha : Nt w va a) (hb : Nt w vb b) (la : limbs a ≤ 16777216) (lb : limbs b ≤ 16777216) :
    Calls Tryd.prog 89 #[va, vb] w fun e w' => ∃ v, e = .returned v ∧ Nt w' v (a * b) ∧ Below w.heap.size w w' := kara_ok 16777216 (by omega) va vb a b w ha hb la lb
end Go.Proofs.YtopbfgmpilnghaaDoor
