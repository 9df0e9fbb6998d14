/- mul.part, mul.less, mul.third, mul.apart. -/
import Derived.Test.YtopbfgmpilnghaaDoorSchool
set_option linter.unusedVariables false
set_option linter.unusedSimpArgs false
namespace Go.Proofs.YtopbfgmpilnghaaDoor
open Go.RowKit

/-- the limbs from x to y of a value -/
theorem nv_mid {f : Nat → Nat} {n x y : Nat} (hf : Fits n f) (hxy : x ≤ y) (hy : y ≤ n) : nv (fun j => f (x + j)) (y - x) = nv f n / 4294967296 ^ x % 4294967296 ^ (y - x) := by
  have h1 := nv_shift f x (n - x)
  rw [show x + (n - x) = n from by omega] at h1
  have h2 := nv_shift (fun j => f (x + j)) (y - x) (n - y)
  rw [show y - x + (n - y) = n - x from by omega] at h2
  have hp : 0 < 4294967296 ^ x := Nat.pow_pos (by omega)
  rw [h1, Nat.add_mul_div_left _ _ hp, Nat.div_eq_of_lt (nv_lt (hf.mono (show x ≤ n by omega))), Nat.zero_add, h2, Nat.add_mul_mod_self_left]
  rw [Nat.mod_eq_of_lt]
  exact nv_lt (fun j hj => hf (x + j) (by omega))

theorem mid_short {a n x y : Nat} (h : a < 4294967296 ^ n) (hx : x ≤ n) (hy : n ≤ y) : a / 4294967296 ^ x % 4294967296 ^ (y - x) = a / 4294967296 ^ x % 4294967296 ^ (n - x) := by
  have h1 : a / 4294967296 ^ x < 4294967296 ^ (n - x) := by
    rw [Nat.div_lt_iff_lt_mul (Nat.pow_pos (by omega)), ← Nat.pow_add, show n - x + x = n from by omega]; exact h
  have h2 : 4294967296 ^ (n - x) ≤ 4294967296 ^ (y - x) := Nat.pow_le_pow_right (by omega) (by omega)
  rw [Nat.mod_eq_of_lt h1, Nat.mod_eq_of_lt (by omega)]

theorem mid_none {a n x y : Nat} (h : a < 4294967296 ^ n) (hx : n ≤ x) : a / 4294967296 ^ x % 4294967296 ^ (y - x) = 0 := by
  have h2 : 4294967296 ^ n ≤ 4294967296 ^ x := Nat.pow_le_pow_right (by omega) (by omega)
  rw [Nat.div_eq_of_lt (by omega), Nat.zero_mod]

set_option maxRecDepth 100000 in
set_option maxHeartbeats 1000000 in
theorem part_row {b off n cap x y : Nat} {f : Nat → Nat} {w : World} (hn : n ≤ 536870912) (hcap : n ≤ cap) (hm : cap ≤ maxLen) (hy : y ≤ 4611686018427387904) (hx : x < min y n) (hf : Hid (Fits n f)) (hB : Hid (b < w.heap.size))
    (hc : Hid (∀ j, j < n → w.cell? ⟨b, off + j, none⟩ = some (.int .u32 (f j)))) :
    Calls Tryd.prog 104 #[.slice (some ⟨b, off, none⟩) n cap, .int .i64 x, .int .i64 y] w fun e w' => ∃ v, e = .returned v ∧ Nt w' v (nv (fun j => f (x + j)) (min y n - x)) ∧ Below w.heap.size w w' := by
  unfold maxLen at hm
  have hrd : Rd .u32 w (.slice (some ⟨b, off + x, none⟩) (min y n - x) (min y n - x)) (min y n - x) (fun j => f (x + j)) := ⟨_, _, rfl, Nat.le_refl _, by unfold maxLen; omega, fun _ => ⟨b, off + x, rfl, hB.out, fun j hj => by rw [Nat.add_assoc]; exact hc.out (x + j) (by omega)⟩⟩
  have hft : Fits (min y n - x) (fun j => f (x + j)) := fun j hj => hf.out (x + j) (by omega)
  have HRD := Lib.hid hrd
  have HFT := Lib.hid hft
  clear hrd hft
  by_cases hyn : y ≤ n
  · rw [Nat.min_eq_left hyn] at *
    go_enter Tryd.func104, Tryd.ntmps104
    go_wp2_with (go_at_call 86; refine (make_nt HRD.out (by omega) HFT.out).mono ?_; rintro e w1 ⟨v, rfl, hv, hb⟩)
    go_ret
    exact ⟨v, rfl, hv, hb⟩
  · rw [Nat.min_eq_right (by omega)] at *
    go_enter Tryd.func104, Tryd.ntmps104
    go_wp2_with (go_at_call 86; refine (make_nt HRD.out (by omega) HFT.out).mono ?_; rintro e w1 ⟨v, rfl, hv, hb⟩)
    go_ret
    exact ⟨v, rfl, hv, hb⟩

set_option maxRecDepth 100000 in
set_option maxHeartbeats 1000000 in
theorem part_none {ao : Option Addr} {n cap x y : Nat} {w : World} (hn : n ≤ 536870912) (hcap : n ≤ cap) (hm : cap ≤ maxLen) (hxy : x ≤ y) (hy : y ≤ 4611686018427387904) (hx : min y n ≤ x) :
    Calls Tryd.prog 104 #[.slice ao n cap, .int .i64 x, .int .i64 y] w fun e w' => ∃ v, e = .returned v ∧ Nt w' v 0 ∧ Below w.heap.size w w' := by
  unfold maxLen at hm
  have hrd : ∀ ao, Rd .u32 w (.slice ao 0 0) 0 (fun _ => 0) := fun ao => ⟨_, _, rfl, Nat.le_refl _, by unfold maxLen; omega, fun h => absurd h (by omega)⟩
  have HMK : Hid (Calls Tryd.prog 86 #[.slice ao 0 0] w fun e w' => ∃ v, e = .returned v ∧ Nt w' v 0 ∧ Below w.heap.size w w') := make_nt (hrd ao) (by omega) (fun _ h => absurd h (by omega))
  clear hrd
  by_cases hyn : y ≤ n
  · obtain rfl : x = y := by omega
    go_enter Tryd.func104, Tryd.ntmps104
    go_wp2_with (go_at_call 86; refine HMK.out.mono ?_; rintro e w1 ⟨v, rfl, hv, hb⟩)
    all_goals
      go_ret
      exact ⟨v, rfl, hv, hb⟩
  · have hxn : n ≤ x := by omega
    by_cases hxe : x = n
    · subst hxe
      go_enter Tryd.func104, Tryd.ntmps104
      go_wp2_with (go_at_call 86; refine HMK.out.mono ?_; rintro e w1 ⟨v, rfl, hv, hb⟩)
      all_goals
        go_ret
        exact ⟨v, rfl, hv, hb⟩
    have hxl : n < x := by omega
    clear hxe
    go_enter Tryd.func104, Tryd.ntmps104
    go_wp2_with (go_at_call 86; refine HMK.out.mono ?_; rintro e w1 ⟨v, rfl, hv, hb⟩)
    all_goals
      go_ret
      exact ⟨v, rfl, hv, hb⟩

/-- mul.part: the limbs from one place to another one. -/
theorem part_nt {v : Value} {a : Nat} {w : World} (ha : Nt w v a) (la : limbs a ≤ 536870912) (fr to : Int) (x y : Nat) (hf : fr = (x : Int)) (ht : to = (y : Int)) (hxy : x ≤ y) (hy : y ≤ 4611686018427387904) :
    Calls Tryd.prog 104 #[v, .int .i64 fr, .int .i64 to] w fun e w' => ∃ v, e = .returned v ∧ Nt w' v (a / 4294967296 ^ x % 4294967296 ^ (y - x)) ∧ Below w.heap.size w w' := by
  subst hf ht
  obtain ⟨ao, cap, f, rfl, ra, fta, na, va⟩ := ha.open
  have hcap : limbs a ≤ cap ∧ cap ≤ maxLen := by
    obtain ⟨ao1, cp1, e, h1, h2, _⟩ := ra
    cases e
    exact ⟨h1, h2⟩
  have hlt := lt_limbs a
  by_cases hx : x < min y (limbs a)
  · obtain ⟨b, off, rfl, hb, hc⟩ := ra.at (by omega)
    have := part_row la hcap.1 hcap.2 hy hx fta hb hc
    rw [nv_mid fta (by omega) (Nat.min_le_right _ _), va] at this
    by_cases hyn : y ≤ limbs a
    · rw [Nat.min_eq_left hyn] at this; exact this
    · rw [mid_short hlt (by omega) (by omega)]
      rw [Nat.min_eq_right (by omega)] at this; exact this
  · have e : a / 4294967296 ^ x % 4294967296 ^ (y - x) = 0 := by
      by_cases hxn : limbs a ≤ x
      · exact mid_none hlt hxn
      · rw [show y - x = 0 from by omega, Nat.pow_zero, Nat.mod_one]
    rw [e]
    exact part_none la hcap.1 hcap.2 hxy hy (by omega)

/-- mul.less: a difference that is not below 0. -/
theorem less_nt {va vb : Value} {a b : Nat} {w : World} (ha : Nt w va a) (hb : Nt w vb b) (la : limbs a ≤ 536870912) (h : b ≤ a) :
    Calls Tryd.prog 109 #[va, vb] w fun e w' => ∃ v, e = .returned v ∧ Nt w' v (a - b) ∧ Below w.heap.size w w' := by
  have H := Lib.hid (sub_yes ha hb la h)
  clear ha hb
  go_enter Tryd.func109, Tryd.ntmps109
  go_wp2_with (go_at_call 76; refine H.out.mono ?_; rintro e w1 ⟨v, rfl, hv, hb⟩)
  go_ret
  exact ⟨v, rfl, hv, hb⟩

/-- the distance of two naturals -/
def dist (a b : Nat) : Nat := if b ≤ a then a - b else b - a

/-- mul.apart: the size of a difference, and whether it is below 0. -/
theorem apart_nt {va vb : Value} {a b : Nat} {w : World} (ha : Nt w va a) (hb : Nt w vb b) (la : limbs a ≤ 536870912) (lb : limbs b ≤ 536870912) :
    Calls Tryd.prog 125 #[va, vb] w fun e w' => ∃ v, e = .returned (.tuple #[v, .bool (decide (a < b))]) ∧ Nt w' v (dist a b) ∧ Below w.heap.size w w' := by
  unfold dist
  by_cases h : b ≤ a
  · rw [show decide (a < b) = false from by simpa using h, if_pos h]
    have H := Lib.hid (sub_yes ha hb la h)
    clear ha hb
    go_enter Tryd.func125, Tryd.ntmps125
    go_wp2_with (go_at_call 76; refine H.out.mono ?_; rintro e w1 ⟨v, rfl, hv, hb⟩)
    go_ret2
    exact ⟨v, rfl, hv, hb⟩
  · rw [show decide (a < b) = true from by simpa using h, if_neg h]
    have H := Lib.hid (sub_no ha hb la lb (by omega))
    have H2 := Lib.hid (fun (w1 : World) (hd : Drawn w w1) => less_nt (hb.below hd.below) (ha.below hd.below) lb (show a ≤ b by omega))
    clear ha hb
    go_enter Tryd.func125, Tryd.ntmps125
    go_wp2_with (first
      | (go_at_call 76; refine H.out.mono ?_; rintro e w1 ⟨rfl, hd⟩; have HD := Lib.hid hd; clear hd)
      | (go_at_call 109; refine (H2.out _ HD.out).mono ?_; rintro e w2 ⟨v, rfl, hv, hb⟩))
    go_ret2
    exact ⟨v, rfl, hv, (HD.out.below).trans (hb.mono (by rw [HD.out.heap]; exact Nat.le_refl _))⟩
end Go.Proofs.YtopbfgmpilnghaaDoor
