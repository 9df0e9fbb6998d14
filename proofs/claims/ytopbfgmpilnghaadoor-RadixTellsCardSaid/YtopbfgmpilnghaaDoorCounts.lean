/- radix.Count: how many digits a natural has. The reference's Same, Digit, Of (layer 5). -/
import Derived.Test.YtopbfgmpilnghaaDoorReads
set_option linter.unusedVariables false
set_option linter.unusedSimpArgs false
namespace Go.Proofs.YtopbfgmpilnghaaDoor
open Go.RowKit

theorem bare_id : ∀ {l : List Nat}, l[0]? ≠ some 48 → bare l = l
  | [], _ => rfl
  | [x], _ => rfl
  | x :: y :: l, h => by
    show (if x = 48 then _ else _) = _
    rw [if_neg (fun e => h (by simp [e]))]
theorem digs_len {base n a : Nat} (hb : 2 ≤ base) (hb2 : base ≤ 36) (h1 : base ^ n ≤ a) (h2 : a < base ^ (n + 1)) : (digs base a).length = n + 1 := by
  rw [← digs_pad hb h2 (by omega), bare_id, pad_len]
  rw [pad_get base (n + 1) a 0 (by omega)]
  intro h
  have h3 := Option.some.inj h
  rw [show n + 1 - 1 - 0 = n by omega] at h3
  have hq : a / base ^ n < base := by rw [Nat.div_lt_iff_lt_mul (Nat.pow_pos (by omega)), Nat.mul_comm, ← Nat.pow_succ]; exact h2
  rw [Nat.mod_eq_of_lt hq] at h3
  have h4 := (dgb_zero (show a / base ^ n < 36 by omega)).1 h3
  have := Nat.div_pos h1 (Nat.pow_pos (by omega))
  omega
theorem digs_zero {base : Nat} : digs base 0 = [48] := by simp [digs, pad, bare, dgb]

/-- all products of what is not above a are shown -/
def AFit (a : Nat) : Prop := ∀ x y, x ≤ a → y ≤ a → MulFit x y
theorem AFit.of {a : Nat} (h : limbs a ≤ 47) : AFit a := fun x y hx hy => by
  have := limbs_mono hx
  have := limbs_mono hy
  exact ⟨by omega, by omega, .inl (by omega)⟩
theorem AFit.pow {a base : Nat} (h : AFit a) : PowFit base a := fun i hi => h _ _ hi hi

theorem pow_len {base a n : Nat} (hb : 2 ≤ base) (h : base ^ n ≤ a) : n < 32 * limbs a := by
  have h1 : 2 ^ n ≤ base ^ n := Nat.pow_le_pow_left hb _
  have h2 := lt_limbs a
  rw [pow32] at h2
  exact (Nat.pow_lt_pow_iff_right (by omega)).1 (Nat.lt_of_le_of_lt (Nat.le_trans h1 h) h2)

theorem wrap_five {k : Nat} (h : 5 * 2 ^ k ≤ 1000000) : IntKind.i64.wrap (5 * 2 ^ k) = ((5 * 2 ^ k : Nat) : Int) := by
  have e : (5 : Int) * 2 ^ k = ((5 * 2 ^ k : Nat) : Int) := by simp
  rw [e]
  exact IntWalk.i64_in _ (by omega)

theorem wrap_sum {m q : Nat} (h : m + 5 * 2 ^ q ≤ 1000000) : wrap64 ((m : Int) + wrap64 (5 * 2 ^ min q 64)) = ((m + 5 * 2 ^ q : Nat) : Int) := by
  have hq : q < 18 := by
    have : 2 ^ q < 2 ^ 18 := by omega
    exact (Nat.pow_lt_pow_iff_right (by omega)).1 this
  rw [Nat.min_eq_left (by omega)]
  have e : (5 : Int) * 2 ^ q = ((5 * 2 ^ q : Nat) : Int) := by simp
  rw [e, IntWalk.wrap64_in ((5 * 2 ^ q : Nat) : Int) ⟨by omega, by omega⟩, IntWalk.wrap64_in _ ⟨by omega, by omega⟩]
  omega

set_option maxRecDepth 100000 in
set_option maxHeartbeats 2000000 in
theorem count_bad {va : Value} {base : Int} (h : ¬ (2 ≤ base ∧ base ≤ 36)) (w : World) :
    Calls Tryd.prog 23 #[va, .int .i64 base] w fun e w' => e = .returned (.tuple #[.int .i64 0, .int .i64 1]) ∧ w = w' := by
  have hd : decide (2 ≤ base ∧ base ≤ 36) = false := decide_eq_false h
  go_enter Tryd.func23, Tryd.ntmps23
  go_wp2_with fail
  (with_reducible refine (may_any base _).mono ?_)
  rintro e w1 ⟨rfl, rfl⟩
  rw [hd]
  go_wp2_with fail
  refine bodyPost_ret (v := .tuple #[.int .i64 0, .int .i64 1]) (by simp [results, Tryd.f23]) rfl ?_
  exact ⟨rfl, rfl⟩

set_option maxRecDepth 100000 in
set_option maxHeartbeats 2000000 in
theorem count_zero {ao : Option Addr} {cap base : Nat} (hb : 2 ≤ base) (hb2 : base ≤ 36) (w : World) :
    Calls Tryd.prog 23 #[.slice ao 0 cap, .int .i64 (base : Int)] w fun e w' => e = .returned (.tuple #[.int .i64 1, .int .i64 0]) ∧ w = w' := by
  have hd : decide (2 ≤ (base : Int) ∧ (base : Int) ≤ 36) = true := decide_eq_true (by omega)
  go_enter Tryd.func23, Tryd.ntmps23
  go_wp2_with fail
  (with_reducible refine (may_any _ _).mono ?_)
  rintro e w1 ⟨rfl, rfl⟩
  rw [hd]
  clear hd
  go_wp2_with fail
  refine bodyPost_ret (v := .tuple #[.int .i64 1, .int .i64 0]) (by simp [results, Tryd.f23]) rfl ?_
  exact ⟨rfl, rfl⟩

set_option maxRecDepth 100000 in
set_option maxHeartbeats 8000000 in
theorem count_pos {va : Value} {base a : Nat} {w : World} (hb : 2 ≤ base) (hb2 : base ≤ 36) (na : Nt w va a) (ha : a ≠ 0) (la : limbs a ≤ 10000) (hp : Hid (AFit a)) :
    Calls Tryd.prog 23 #[va, .int .i64 (base : Int)] w fun e w' => e = .returned (.tuple #[.int .i64 ((digs base a).length : Int), .int .i64 0]) ∧ Below w.heap.size w w' := by
  have hd : decide (2 ≤ (base : Int) ∧ (base : Int) ≤ 36) = true := decide_eq_true (by omega)
  obtain ⟨aa, ca, fa, rfl, -⟩ := na.open
  have hl0 := limbs_pos ha
  have hl1 : (((limbs a : Nat) : Int) == 0) = false := by simp; omega
  go_enter Tryd.func23, Tryd.ntmps23
  go_wp2_with fail
  (with_reducible refine (may_any _ _).mono ?_)
  rintro e w0 ⟨rfl, rfl⟩
  rw [hd]
  clear hd
  go_wp2_with fail
  (with_reducible refine (powers_any hb hb2 _ _ rfl).mono ?_)
  rintro e w1 ⟨P, rfl, ht1, hb1⟩
  have HT := Lib.hid ht1
  have HA := Lib.hid (na.below hb1)
  have HB1 := Lib.hid hb1
  have hbs := hb1.size
  clear ht1 na hb1
  go_wp2_with fail
  go_loopw [7] (fun kk wr => ∃ j : Nat, j ≤ 64000 ∧ kk = .int .i64 (j : Int) ∧ (∀ i, i < j → pw base i ≤ a) ∧ Hid (Tb base w0.heap.size P wr) ∧ Hid (Kept w0.heap.size w1 wr)) (fun kk _ => (64000 - intOf kk).toNat)
  case atStart => exact ⟨0, by omega, rfl, fun i hi => absurd hi (by omega), HT, Kept.refl _ _⟩
  case round =>
    clear HT
    obtain ⟨j, hj, rfl, hlow, ht, hk⟩ := hrel
    have hlim := pw_limbs hb2 hlow
    have HLOW := Lib.hid hlow
    have hfit : Hid (∀ i, i < j → MulFit (pw base i) (pw base i)) := fun i hi => hp.out.pow i (hlow i hi)
    clear hlow
    go_wp2_with fail
    (with_reducible refine (power_any (show j ≤ 100000 by omega) ht hfit _ rfl).mono ?_)
    rintro e w2 ⟨vp, rfl, hvp, htab, hk2⟩
    have HTAB := Lib.hid htab
    have HK := Lib.hid (hk.out.trans hk2)
    have HA2 := Lib.hid (HA.out.kept HK.out)
    clear htab hk hk2 ht
    go_wp2_with fail
    (with_reducible refine (cmp_nt hvp HA2.out (by omega) (by omega)).mono ?_)
    rintro e w3 ⟨rfl, hd3⟩
    have HK3 := Lib.hid (HK.out.trans (Kept.after hd3.below (by have := HK.out.size; omega)))
    have HTAB3 : Hid (∃ n g cap vs, Tab base w0.heap.size P w3 n g cap vs ∧ j < n) := by
      obtain ⟨n, g, cap, vs, ht, hn⟩ := HTAB.out
      exact ⟨n, g, cap, vs, ht.after hd3.below, hn⟩
    clear HTAB HK HA2 hd3 hvp
    by_cases hle : pw base j ≤ a
    · obtain ⟨c, hc, hc0⟩ := cmp_le hle
      rw [hc]
      have hjb := pow_limbs hb hle
      have hj2 : j < 2 ^ j := Nat.lt_two_pow_self
      have HLE := Lib.hid hle
      clear hc hle
      have hj3 : j < 64000 := by omega
      clear hjb hj2 hlim
      go_wp2_with fail
      go_roundw
      case rel =>
        refine ⟨j + 1, by omega, by go_num, fun i hi => ?_, ?_, HK3.out⟩
        · by_cases e : i = j
          · rw [e]; exact HLE.out
          · exact HLOW.out i (by omega)
        · obtain ⟨n, g, cap, vs, ht, _⟩ := HTAB3.out
          exact ⟨n, g, cap, vs, ht⟩
      case measure => simp [intOf] <;> omega
    · rw [cmp_gt (by omega)]
      have hlt : Hid (a < pw base j) := by unfold Hid; omega
      obtain ⟨n, g, cap, vs, ht3, hn3⟩ := HTAB3.out
      have hnf := ht3.few
      have HA3 := Lib.hid (HA.out.kept HK3.out)
      have HT3 := Lib.hid ht3
      have HB3 : Hid (Below w0.heap.size w0 w3) := HB1.out.trans HK3.out.below
      have hs3 := HB3.out.size
      clear HTAB3 hle ht3 HK3 HA HB1 hlim hfit
      go_wp2_with fail
      (with_reducible refine (of_any (x := base) (by omega) _ (by omega) _).mono ?_)
      rintro e w4 ⟨vb, rfl, hvb, hb4⟩
      have HT4 := Lib.hid (HT3.out.after hb4)
      have HA4 := Lib.hid (HA3.out.below hb4)
      have HB4 : Hid (Below w0.heap.size w0 w4) := HB3.out.trans (hb4.mono hs3)
      have HVB := Lib.hid hvb
      have hs4 := HB4.out.size
      clear hvb hb4 HT3 HA3 HB3
      go_wp2_with fail
      (with_reducible refine (of_any (x := 1) (by omega) _ (by omega) _).mono ?_)
      rintro e w5 ⟨vo, rfl, hvo, hb5⟩
      have HT5 := Lib.hid (HT4.out.after hb5)
      have HA5 := Lib.hid (HA4.out.below hb5)
      have HVB5 := Lib.hid (HVB.out.below hb5)
      have HB5 : Hid (Below w0.heap.size w0 w5) := HB4.out.trans (hb5.mono hs4)
      have HVO := Lib.hid hvo
      have hs5 := HB5.out.size
      clear hvo hb5 HT4 HA4 HVB HB4
      go_wp2_with fail
      go_loopw [7, 8, 10, 11] (fun kk nn hv _ wr => ∃ (i m : Nat), i ≤ j ∧ kk = .int .i64 ((i : Int) - 1) ∧ nn = .int .i64 (m : Int) ∧ Hid (Nt wr hv (base ^ m)) ∧ Hid (base ^ m ≤ a) ∧ Hid (a < base ^ m * pw base i) ∧ Hid (After w5 wr)) (fun kk _ _ _ _ => (intOf kk + 1).toNat)
      case atStart => exact ⟨j, 0, Nat.le_refl _, by first | rfl | go_num, rfl, HVO, (by unfold Hid; simp; omega), (by unfold Hid; simpa using hlt.out), After.refl _⟩
      case round =>
        rename_i hvv nxx
        clear HVO
        obtain ⟨i, m, hi, rfl, rfl, hhv, hma, hmp, T⟩ := hrel
        have hml := pow_len hb hma.out
        by_cases hi0 : i = 0
        · subst hi0
          have h01 : ((0 : Nat) : Int) - 1 = -1 := rfl
          rw [h01]
          clear h01
          obtain ⟨wo, hwo⟩ : ∃ wo : World, wr = wo := ⟨_, rfl⟩
          subst hwo
          have HAo := Lib.hid (HA5.out.below T.out)
          have HBo := Lib.hid (HVB5.out.below T.out)
          have HB6 : Hid (Below w0.heap.size w0 wr) := HB5.out.trans (T.out.out.mono hs5)
          have hm1 : Hid (m = 0 ∨ base ^ (m - 1) ≤ a) := by
            by_cases h : m = 0
            · exact .inl h
            · exact .inr (Nat.le_trans (Nat.pow_le_pow_right (by omega) (by omega)) hma.out)
          have hs6 := HB6.out.size
          clear HA5 HVB5 HB5 hs5 T HT5 hma hmp
          go_wp2_with fail
          generalize hwo : wr = wo at *
          clear hwo
          go_loopw [8, 10] (fun nn hv wr => ∃ m : Nat, m ≤ 32 * limbs a ∧ nn = .int .i64 (m : Int) ∧ Hid (Nt wr hv (base ^ m)) ∧ Hid (m = 0 ∨ base ^ (m - 1) ≤ a) ∧ Hid (After wo wr)) (fun nn _ _ => (32 * limbs a - intOf nn).toNat)
          case atStart => exact ⟨m, by omega, rfl, hhv, hm1, After.refl _⟩
          case round =>
            rename_i hv2
            clear hhv hm1
            obtain ⟨m, hm, rfl, hhv, hm1, T⟩ := hrel
            have hlm : limbs (base ^ m) ≤ 1000000000 := by
              rcases hm1.out with h | h
              · rw [h, Nat.pow_zero]
                have := limbs_small (a := 1) (by omega)
                omega
              · rcases m with _ | m
                · rw [Nat.pow_zero]
                  have := limbs_small (a := 1) (by omega)
                  omega
                · rw [Nat.add_sub_cancel] at h
                  rw [Nat.pow_succ]
                  have h1 := limbs_mul (base ^ m) base
                  have h2 := limbs_mono h
                  have h3 := limbs_small (a := base) (by omega)
                  omega
            have HAr := Lib.hid (HAo.out.below T.out)
            go_wp2_with fail
            (with_reducible refine (cmp_nt hhv.out HAr.out (by omega) (by omega)).mono ?_)
            rintro e w9 ⟨rfl, hd9⟩
            have T9 := Lib.hid (After.t T.out hd9.below)
            have hhv9 := Lib.hid (hhv.out.below hd9.below)
            have HB9 := Lib.hid (HBo.out.below T9.out)
            clear hd9 HAr T hhv
            by_cases hle : base ^ m ≤ a
            · obtain ⟨c, hc, hc0⟩ := cmp_le hle
              rw [hc]
              have hm2 := pow_len hb hle
              have hmf : Hid (MulFit (base ^ m) base) := by
                have h1 := limbs_mono hle
                have h3 := limbs_small (a := base) (by omega)
                exact ⟨by omega, by omega, .inr (by omega)⟩
              have HLE := Lib.hid hle
              clear hc hle hlm
              go_wp2_with fail
              (with_reducible refine (mul_fit hhv9.out HB9.out hmf.out).mono ?_)
              rintro e w10 ⟨v10, rfl, hv10, hb10⟩
              have HV10 := Lib.hid hv10
              have T10 := Lib.hid (After.t T9.out hb10)
              clear hv10 hb10 T9 hhv9 HB9
              go_wp2_with fail
              go_roundw
              case rel => exact ⟨m + 1, by omega, by go_num, by rw [Nat.pow_succ]; exact HV10.out, .inr (by rw [Nat.add_sub_cancel]; exact HLE.out), T10.out⟩
              case measure => simp [intOf] <;> omega
            · rw [cmp_gt (by omega)]
              have hlen : Hid ((m : Int) = ((digs base a).length : Int)) := by
                rcases m with _ | m
                · rw [Nat.pow_zero] at hle; omega
                · rcases hm1.out with h | h
                  · omega
                  · rw [Nat.add_sub_cancel] at h
                    unfold Hid
                    rw [digs_len hb hb2 h (by omega)]
              have HBf := Lib.hid (HB6.out.trans (T9.out.out.mono hs6))
              clear hlm hle HB9 hhv9
              go_wp2_with fail
              refine bodyPost_ret (v := .tuple #[.int .i64 (m : Int), .int .i64 0]) (by simp [results, Tryd.f23]) rfl ?_
              exact ⟨by rw [hlen.out], HBf.out⟩
        · obtain ⟨q, rfl⟩ : ∃ q, i = q + 1 := ⟨i - 1, by omega⟩
          have hq1 : (((q + 1 : Nat) : Int) - 1) = (q : Int) := by omega
          rw [hq1]
          have hq5 := pow_limbs hb (HLOW.out q (by omega))
          have hw5 := wrap_five (k := q) (by omega)
          have HTr := Lib.hid (HT5.out.after T.out)
          have hmf := Lib.hid (hp.out _ _ hma.out (HLOW.out q (by omega)))
          clear hq1
          go_wp2_with fail
          (with_reducible refine (power_have HTr (show q < n by omega) hnf _ rfl).mono ?_)
          rintro e w6 ⟨vp, rfl, hvp, rfl⟩
          go_wp2_with fail
          (with_reducible refine (mul_fit hhv.out hvp hmf.out).mono ?_)
          rintro e w7 ⟨vn, rfl, hvn, hb7⟩
          have T7 := Lib.hid (After.t T.out hb7)
          have HA7 := Lib.hid (HA5.out.below T7.out)
          have hhv7 := Lib.hid (hhv.out.below hb7)
          have hln : limbs (base ^ m * pw base q) ≤ 1073741824 := by
            have h1 := limbs_mul (base ^ m) (pw base q)
            have h2 := limbs_mono hma.out
            have h3 := limbs_mono (HLOW.out q (by omega))
            omega
          clear hvp hb7 T hhv HTr
          go_wp2_with fail
          (with_reducible refine (cmp_nt hvn HA7.out hln (by omega)).mono ?_)
          rintro e w8 ⟨rfl, hd8⟩
          have T8 := Lib.hid (After.t T7.out hd8.below)
          have hhv8 := Lib.hid (hhv7.out.below hd8.below)
          have HVN8 := Lib.hid (hvn.below hd8.below)
          clear hd8 hhv7 hvn T7 HA7
          by_cases hle : base ^ m * pw base q ≤ a
          · obtain ⟨c, hc, hc0⟩ := cmp_le hle
            rw [hc]
            have HLE := Lib.hid hle
            clear hc hle hln
            have hmm : m + 5 * 2 ^ q < 32 * limbs a := by
              refine pow_len hb ?_
              rw [Nat.pow_add]
              exact HLE.out
            go_wp2_with fail
            go_roundw
            case rel =>
              refine ⟨q, m + 5 * 2 ^ q, by omega, by first | rfl | go_num, val_eq (wrap_sum (by omega)), ?_, ?_, ?_, T8.out⟩
              · rw [Nat.pow_add]; exact HVN8.out
              · rw [Nat.pow_add]; exact HLE.out
              · have := hmp.out
                rw [pw_succ, ← Nat.mul_assoc] at this
                rw [Nat.pow_add]
                exact this
            case measure => simp [intOf] <;> omega
          · rw [cmp_gt (by omega)]
            have hgt : Hid (a < base ^ m * pw base q) := by unfold Hid; omega
            clear hle hln
            go_wp2_with fail
            go_roundw
            case rel => exact ⟨q, m, by omega, by first | rfl | go_num, rfl, hhv8, hma, hgt, T8.out⟩
            case measure => simp [intOf] <;> omega

/-- radix.Count: the number of digits. -/
theorem count_any {va : Value} {base a : Nat} {w : World} (hb : 2 ≤ base) (hb2 : base ≤ 36) (na : Nt w va a) (la : limbs a ≤ 10000) (hp : Hid (AFit a)) (i : Int) (hi : i = (base : Int)) :
    Calls Tryd.prog 23 #[va, .int .i64 i] w fun e w' => e = .returned (.tuple #[.int .i64 ((digs base a).length : Int), .int .i64 0]) ∧ Below w.heap.size w w' := by
  subst hi
  by_cases ha : a = 0
  · subst ha
    obtain ⟨aa, ca, fa, rfl, -⟩ := na.open
    refine (count_zero hb hb2 w).mono fun e w' ⟨he, hw⟩ => ⟨?_, by subst hw; exact Below.refl _ _⟩
    rw [he, digs_zero]
    rfl
  · exact count_pos hb hb2 na ha la hp
end Go.Proofs.YtopbfgmpilnghaaDoor

namespace Go.Proofs.YtopbfgmpilnghaaDoor
open Go.RowKit

theorem Nt.eq_of {n : Nat} {f g : Nat → Nat} (hf : Fits n f) (hg : Fits n g) {k : Nat} (hk : k < n) (h : f k ≠ g k) : nv f n ≠ nv g n := fun e => h (nv_inj hf hg e hk)

set_option maxRecDepth 100000 in
set_option maxHeartbeats 4000000 in
theorem same_any {va vb : Value} {a b : Nat} {w : World} (na : Nt w va a) (nb : Nt w vb b) (la : limbs a ≤ 1073741824) (lb : limbs b ≤ 1073741824) :
    Calls Tryd.prog 27 #[va, vb] w fun e w' => e = .returned (.bool (decide (a = b))) ∧ Drawn w w' := by
  obtain ⟨aa, ca, fa, rfl, ra, fta, nma, hva⟩ := na.open
  obtain ⟨ab, cb, fb, rfl, rb, ftb, nmb, hvb⟩ := nb.open
  by_cases hl : limbs a = limbs b
  · rw [← hl] at rb ftb nmb hvb ⊢
    have hc : Hid (∀ j, j < limbs a → ∃ b1 o1 b2 o2, aa = some ⟨b1, o1, none⟩ ∧ ab = some ⟨b2, o2, none⟩ ∧ w.cell? ⟨b1, o1 + j, none⟩ = some (.int .u32 (fa j)) ∧ w.cell? ⟨b2, o2 + j, none⟩ = some (.int .u32 (fb j))) := fun j hj => by
      obtain ⟨b1, o1, e1, _, c1⟩ := ra.at (by omega)
      obtain ⟨b2, o2, e2, _, c2⟩ := rb.at (by omega)
      exact ⟨b1, o1, b2, o2, e1, e2, c1 j hj, c2 j hj⟩
    have HA : Hid (Fits (limbs a) fa ∧ nv fa (limbs a) = a) := ⟨fta, hva⟩
    have HB : Hid (Fits (limbs a) fb ∧ nv fb (limbs a) = b) := ⟨ftb, hvb⟩
    clear ra rb fta ftb nma nmb hva hvb na nb hl lb
    generalize limbs a = n at *
    have hnn : (((n : Nat) : Int) != (n : Int)) = false := by simp
    go_enter Tryd.func27, Tryd.ntmps27
    go_wp2_with fail
    go_loopw [5] (fun i wr => ∃ k : Nat, k ≤ n ∧ i = .int .i64 (k : Int) ∧ Hid (∀ j, j < k → fa j = fb j) ∧ Hid (Drawn w wr)) (fun i _ => n - (intOf i).toNat)
    case atStart => exact ⟨0, by omega, rfl, fun j hj => absurd hj (by omega), ⟨0, rfl⟩⟩
    case round =>
      obtain ⟨k, hk, rfl, heq, hd⟩ := hrel
      by_cases hlt : k < n
      · obtain ⟨b1, o1, b2, o2, rfl, rfl, c1, c2⟩ := hc.out k hlt
        replace c1 := (hd.out.cell _).trans c1
        replace c2 := (hd.out.cell _).trans c2
        have hx := HA.out.1 k hlt
        have hy := HB.out.1 k hlt
        by_cases he : fa k = fb k
        · have HE := Lib.hid he
          rw [he] at c1 hx
          have h1 : ((fb k : Int) != (fb k : Int)) = false := by simp
          clear he
          go_wp2_with fail
          go_quiet (fail)
          go_wp2_with fail
          go_roundw
          case rel => exact ⟨k + 1, by omega, by go_num, fun j hj => (by
            by_cases e : j = k
            · rw [e]; exact HE.out
            · exact heq.out j (by omega)), by first | exact hd.out.n _ | exact hd.out⟩
          case measure => simp [intOf] <;> omega
        · have hab : Hid (decide (a = b) = false) := decide_eq_false (by
            have := Nt.eq_of HA.out.1 HB.out.1 hlt he
            rw [HA.out.2, HB.out.2] at this
            exact this)
          have h1 : ((fa k : Int) != (fb k : Int)) = true := by simp; omega
          have h2 : ((fa k : Int) == (fb k : Int)) = false := by simp; omega
          have h3 : (fa k == fb k) = false := by simp; omega
          have h4 : (fa k != fb k) = true := by simp; omega
          clear he
          go_wp2_with fail
          go_quiet (fail)
          go_wp2_with fail
          go_ret
          exact ⟨by rw [hab.out]; rfl, by first | exact hd.out.n _ | exact hd.out⟩
      · obtain rfl : k = n := by omega
        have hab : Hid (decide (a = b) = true) := decide_eq_true (by
          rw [← HA.out.2, ← HB.out.2]
          exact nv_congr (fun j hj => heq.out j hj))
        go_wp2_with fail
        go_ret
        exact ⟨by rw [hab.out]; rfl, hd.out⟩
  · have hab : Hid (decide (a = b) = false) := decide_eq_false (fun e => hl (by rw [e]))
    have h1 : (((limbs a : Nat) : Int) != ((limbs b : Nat) : Int)) = true := by simp; omega
    have h2 : (((limbs a : Nat) : Int) == ((limbs b : Nat) : Int)) = false := by simp; omega
    have h3 : (limbs a == limbs b) = false := by simp; omega
    clear ra rb fta ftb nma nmb hva hvb na nb hl
    generalize limbs a = n at *
    generalize limbs b = m at *
    go_enter Tryd.func27, Tryd.ntmps27
    go_wp2_with fail
    go_ret
    exact ⟨by rw [hab.out]; rfl, ⟨0, rfl⟩⟩

def digOf (c : Nat) : Nat := if 48 ≤ c ∧ c ≤ 57 then c - 48 else if 97 ≤ c ∧ c ≤ 122 then c - 87 else 99
theorem dig_worth {base c : Nat} (hb : base ≤ 36) : worthOf c < base ↔ digOf c < base := by
  unfold worthOf digOf
  by_cases h1 : 48 ≤ c ∧ c ≤ 57
  · rw [if_pos h1, if_pos h1]
  · rw [if_neg h1, if_neg h1]
    by_cases h2 : 97 ≤ c ∧ c ≤ 122
    · rw [if_pos h2, if_pos h2]
    · rw [if_neg h2, if_neg h2]; omega
theorem dig_worth_eq {base c : Nat} (hb : base ≤ 36) (h : worthOf c < base) : worthOf c = digOf c := by
  unfold worthOf at *
  unfold digOf
  by_cases h1 : 48 ≤ c ∧ c ≤ 57
  · rw [if_pos h1, if_pos h1]
  · rw [if_neg h1] at h ⊢
    rw [if_neg h1]
    by_cases h2 : 97 ≤ c ∧ c ≤ 122
    · rw [if_pos h2, if_pos h2]
    · rw [if_neg h2] at h; omega

set_option maxRecDepth 100000 in
set_option maxHeartbeats 2000000 in
theorem digit_any {c : Nat} (hc : c < 256) (i : Int) (hi : i = (c : Int)) (w : World) : Calls Tryd.prog 31 #[.int .u8 i] w fun e w' => e = .returned (.int .i64 (digOf c)) ∧ w' = w := by
  subst hi
  unfold digOf
  by_cases h1 : 48 ≤ c
  · have hd1 : decide (48 ≤ c) = true := decide_eq_true h1
    by_cases h2 : c ≤ 57
    · have hd2 : decide (c ≤ 57) = true := decide_eq_true h2
      rw [if_pos ⟨h1, h2⟩]
      go_enter Tryd.func31, Tryd.ntmps31
      go_wp2_with fail
      all_goals
        go_ret
        exact ⟨congrArg (fun z => Ending.returned (.int .i64 z)) (by omega), rfl⟩
    · have hd2 : decide (c ≤ 57) = false := decide_eq_false h2
      rw [if_neg (by omega)]
      by_cases h3 : 97 ≤ c
      · have hd3 : decide (97 ≤ c) = true := decide_eq_true h3
        by_cases h4 : c ≤ 122
        · have hd4 : decide (c ≤ 122) = true := decide_eq_true h4
          rw [if_pos ⟨h3, h4⟩]
          go_enter Tryd.func31, Tryd.ntmps31
          go_wp2_with fail
          all_goals
            go_ret
            exact ⟨congrArg (fun z => Ending.returned (.int .i64 z)) (by omega), rfl⟩
        · have hd4 : decide (c ≤ 122) = false := decide_eq_false h4
          rw [if_neg (by omega)]
          go_enter Tryd.func31, Tryd.ntmps31
          go_wp2_with fail
          all_goals
            go_ret
            exact ⟨rfl, rfl⟩
      · have hd3 : decide (97 ≤ c) = false := decide_eq_false h3
        rw [if_neg (by omega)]
        go_enter Tryd.func31, Tryd.ntmps31
        go_wp2_with fail
        all_goals
          go_ret
          exact ⟨rfl, rfl⟩
  · have hd1 : decide (48 ≤ c) = false := decide_eq_false h1
    have hd3 : decide (97 ≤ c) = false := decide_eq_false (by omega)
    rw [if_neg (by omega), if_neg (by omega)]
    go_enter Tryd.func31, Tryd.ntmps31
    go_wp2_with fail
    all_goals
      go_ret
      exact ⟨rfl, rfl⟩

/-- a base made of any number -/
def baseOf (n : Nat) : Nat := 2 + n % 35
theorem baseOf_ok (n : Nat) : 2 ≤ baseOf n ∧ baseOf n ≤ 36 := by unfold baseOf; omega
set_option maxRecDepth 100000 in
theorem base_any {n : Nat} (hn : n < 256) (w : World) : Calls Tryd.prog 28 #[.int .u8 (n : Int)] w fun e w' => e = .returned (.int .i64 (baseOf n : Int)) ∧ w' = w := by
  unfold baseOf
  go_enter Tryd.func28, Tryd.ntmps28
  go_wp2_with fail
  go_ret
  exact ⟨congrArg (fun z => Ending.returned (.int .i64 z)) (by omega), rfl⟩
end Go.Proofs.YtopbfgmpilnghaaDoor
