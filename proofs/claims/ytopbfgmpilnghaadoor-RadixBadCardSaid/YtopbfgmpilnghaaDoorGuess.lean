/- div.guess: the greatest limb whose product with the divisor's first two limbs is not above the first three. -/
import Derived.Test.YtopbfgmpilnghaaDoorDivWord
import Derived.WalkMore
set_option linter.unusedVariables false
set_option linter.unusedSimpArgs false
namespace Go.Proofs.YtopbfgmpilnghaaDoor
open Go.RowKit

/-- The guess so far: q times y1 and r are the first two limbs; what fits is not above q. -/
structure Guess (t x0 y1 y0 q r : Nat) : Prop where
  sum : q * y1 + r = t
  top : q ≤ 4294967297
  near : q = 4294967297 → r + y1 < 4294967296
  low : ∀ Q, Q < 4294967296 → Q * (y1 * 4294967296 + y0) ≤ t * 4294967296 + x0 → Q ≤ q

theorem Guess.start {x2 x1 x0 y1 y0 : Nat} (h1 : x1 < 4294967296) (h0 : x0 < 4294967296) (hy : 2147483648 ≤ y1) (hy1 : y1 < 4294967296) (hx : x2 ≤ y1) :
    Guess (x2 * 4294967296 + x1) x0 y1 y0 ((x2 * 4294967296 + x1) / y1) ((x2 * 4294967296 + x1) % y1) := by
  have hd := Nat.div_add_mod (x2 * 4294967296 + x1) y1
  have hr := Nat.mod_lt (x2 * 4294967296 + x1) (show 0 < y1 by omega)
  have hx2 : x2 * 4294967296 ≤ y1 * 4294967296 := Nat.mul_le_mul_right _ hx
  have hm : y1 * 4294967298 > x2 * 4294967296 + x1 := by omega
  have hq : (x2 * 4294967296 + x1) / y1 < 4294967298 := (Nat.div_lt_iff_lt_mul (by omega)).2 (by omega)
  generalize hX : x2 * 4294967296 + x1 = X at *
  refine ⟨by rw [Nat.mul_comm]; exact hd, by omega, fun e => ?_, fun Q hQ h => ?_⟩
  · rw [e] at hd; omega
  · rw [Nat.le_div_iff_mul_le (by omega)]
    have : Q * (y1 * 4294967296 + y0) = Q * y1 * 4294967296 + Q * y0 := by grind
    generalize Q * y1 = A at *
    generalize Q * y0 = C at *
    omega

theorem Guess.less {t x0 y1 y0 q r : Nat} (h : Guess t x0 y1 y0 q r) (h0 : x0 < 4294967296) (hc : 4294967296 ≤ q ∨ r * 4294967296 + x0 < q * y0) (hy : 2147483648 ≤ y1) (hr : r < 4294967296) :
    0 < q ∧ Guess t x0 y1 y0 (q - 1) (r + y1) := by
  have hq : 0 < q := by
    rcases hc with hc | hc
    · omega
    · rcases Nat.eq_zero_or_pos q with rfl | h
      · simp at hc
      · exact h
  obtain ⟨p, rfl⟩ : ∃ p, q = p + 1 := ⟨q - 1, by omega⟩
  have hs := h.sum
  rw [Nat.add_mul, Nat.one_mul] at hs
  refine ⟨hq, by rw [show p + 1 - 1 = p by omega]; omega, by have := h.top; omega, fun e => by have := h.top; omega, fun Q hQ hh => ?_⟩
  have hl := h.low Q hQ hh
  rcases hc with hc | hc
  · omega
  · by_cases e : Q = p + 1
    · subst e
      have e2 : (p + 1) * (y1 * 4294967296 + y0) = ((p + 1) * y1) * 4294967296 + (p + 1) * y0 := by grind
      rw [e2, Nat.add_mul p 1 y1, Nat.one_mul] at hh
      generalize p * y1 = A at *
      generalize (p + 1) * y0 = C at *
      omega
    · omega

/-- what div.guess answers -/
structure Guessed (t x0 y1 y0 q : Nat) : Prop where
  lt : q < 4294967296
  fits : q * (y1 * 4294967296 + y0) ≤ t * 4294967296 + x0
  low : ∀ Q, Q < 4294967296 → Q * (y1 * 4294967296 + y0) ≤ t * 4294967296 + x0 → Q ≤ q

theorem Guess.done {t x0 y1 y0 q r : Nat} (h : Guess t x0 y1 y0 q r) (hq : q < 4294967296) (hc : q * y0 ≤ r * 4294967296 + x0) : Guessed t x0 y1 y0 q := by
  refine ⟨hq, ?_, h.low⟩
  have hs := h.sum
  have e2 : q * (y1 * 4294967296 + y0) = (q * y1) * 4294967296 + q * y0 := by grind
  rw [e2]
  generalize q * y1 = A at *
  generalize q * y0 = C at *
  omega
/-- behind a break: the rest is too great for more -/
theorem Guess.out {t x0 y1 y0 q r : Nat} (h : Guess t x0 y1 y0 q r) (h0 : x0 < 4294967296) (hy0 : y0 < 4294967296) (hc : 4294967296 ≤ q ∨ r * 4294967296 + x0 < q * y0) (hy : 2147483648 ≤ y1) (hr : r < 4294967296) (hb : 4294967296 ≤ r + y1) :
    Guessed t x0 y1 y0 (q - 1) := by
  obtain ⟨hq, hg⟩ := h.less h0 hc hy hr
  have hq1 : q - 1 < 4294967296 := by
    have := h.top
    have := h.near
    omega
  refine hg.done hq1 ?_
  have h1 : (q - 1) * y0 ≤ 4294967296 * 4294967296 := Nat.mul_le_mul (Nat.le_of_lt hq1) (Nat.le_of_lt hy0)
  exact Nat.le_trans h1 (Nat.le_trans (Nat.mul_le_mul_right _ hb) (Nat.le_add_right _ _))

set_option maxRecDepth 100000 in
set_option maxHeartbeats 4000000 in
theorem guess_any {x2 x1 x0 y1 y0 : Nat} (h1 : x1 < 4294967296) (h0 : x0 < 4294967296) (hy : 2147483648 ≤ y1) (hy1 : y1 < 4294967296) (hx : x2 ≤ y1) (hy0 : y0 < 4294967296) (w : World) :
    Calls Tryd.prog 95 #[.int .u32 x2, .int .u32 x1, .int .u32 x0, .int .u32 y1, .int .u32 y0] w fun e w' =>
      ∃ q : Nat, e = .returned (.int .u64 q) ∧ Guessed (x2 * 4294967296 + x1) x0 y1 y0 q ∧ Drawn w w' := by
  have hst := Lib.hid (Guess.start (y0 := y0) h1 h0 hy hy1 hx)
  have hor := or_limb x2 x1 (by omega) h1
  have hr := Nat.mod_lt (x2 * 4294967296 + x1) (show 0 < y1 by omega)
  have hXl : x2 * 4294967296 + x1 < 18446744073709551616 := by omega
  generalize x2 * 4294967296 + x1 = X at *
  have e0 : IntKind.u64.wrap ((X / y1 : Nat) : Int) = ((X / y1 : Nat) : Int) := by
    have := Nat.div_le_self X y1
    generalize X / y1 = q at *
    simp [IntKind.wrap, IntKind.bits, IntKind.signed]; omega
  have e1 := (congrArg IntKind.u64.wrap (Int.natCast_ediv X y1).symm).trans e0
  go_enter Tryd.func95, Tryd.ntmps95
  go_wp2_with fail
  go_step3
  go_wp2_with fail
  go_quiet (fail)
  go_wp2_with fail
  go_step3
  go_wp2_with fail
  go_loopw [12, 13] (fun q r wr => ∃ Q R : Nat, q = .int .u64 Q ∧ r = .int .u64 R ∧ R < 4294967296 ∧ Hid (Guess X x0 y1 y0 Q R) ∧ Hid (Drawn w wr)) (fun q _ _ => (intOf q).toNat)
  case atStart => exact ⟨X / y1, X % y1, val_eq (Int.natCast_ediv X y1).symm, val_eq (Int.natCast_emod X y1).symm, by omega, hst, _, rfl⟩
  case round =>
    clear e0 e1 hor hst hr hx
    obtain ⟨Q, R, rfl, rfl, hR, hg, hdr⟩ := hrel
    have hor2 := or_limb R x0 hR h0
    have htop := hg.out.top
    have hP : ((Q : Int) * (y0 : Int)) = ((Q * y0 : Nat) : Int) := (Int.natCast_mul Q y0).symm
    by_cases hQ : Q < 4294967296
    · have hd1 : decide (4294967296 ≤ Q) = false := decide_eq_false (by omega)
      have hd2 : decide ((4294967296 : Int) ≤ (Q : Int)) = false := decide_eq_false (by omega)
      have hb : Q * y0 < 18446744073709551616 := Nat.lt_of_le_of_lt (Nat.mul_le_mul (show Q ≤ 4294967295 by omega) (show y0 ≤ 4294967295 by omega)) (by decide)
      have hdone : Hid (Q * y0 ≤ R * 4294967296 + x0 → Guessed X x0 y1 y0 Q) := fun h => hg.out.done hQ h
      have hless : Hid (R * 4294967296 + x0 < Q * y0 → 0 < Q ∧ Guess X x0 y1 y0 (Q - 1) (R + y1)) := fun h => hg.out.less h0 (.inr h) hy hR
      have hout : Hid (R * 4294967296 + x0 < Q * y0 → 4294967296 ≤ R + y1 → Guessed X x0 y1 y0 (Q - 1)) := fun h h' => hg.out.out h0 hy0 (.inr h) hy hR h'
      generalize Q * y0 = P at *
      by_cases hc : P ≤ R * 4294967296 + x0
      · go_wp2_with fail
        try rw [Exit.noGoto_ret]
        go_ret
        exact ⟨Q, rfl, hdone.out hc, hdr.out⟩
      · obtain ⟨hq0, hnew⟩ := hless.out (by omega)
        replace hnew := Lib.hid hnew
        have hd4 : decide ((R : Int) * 4294967296 + (x0 : Int) < (P : Int)) = true := decide_eq_true (by omega)
        have hd5 : decide (R * 4294967296 + x0 < P) = true := decide_eq_true (by omega)
        by_cases hbr : 4294967296 ≤ R + y1
        · have hfin := Lib.hid (hout.out (by omega) hbr)
          have hd6 : decide ((4294967296 : Int) ≤ (R : Int) + (y1 : Int)) = true := decide_eq_true (by omega)
          have hd7 : decide (4294967296 ≤ R + y1) = true := decide_eq_true hbr
          go_wp2_with fail
          try rw [Exit.noGoto_ret]
          go_ret
          exact ⟨Q - 1, congrArg (fun z => Ending.returned (.int .u64 z)) (show (Q : Int) - 1 = ((Q - 1 : Nat) : Int) by omega), hfin.out, hdr.out⟩
        · have hd6 : decide ((4294967296 : Int) ≤ (R : Int) + (y1 : Int)) = false := decide_eq_false (by omega)
          have hd7 : decide (4294967296 ≤ R + y1) = false := decide_eq_false hbr
          go_wp2_with fail
          go_roundw
          case rel => exact ⟨Q - 1, R + y1, val_eq (by omega), val_eq (by omega), by omega, hnew.out, hdr.out⟩
          case measure => simp [intOf] <;> omega
    · have hd1 : decide (4294967296 ≤ Q) = true := decide_eq_true (by omega)
      have hd2 : decide ((4294967296 : Int) ≤ (Q : Int)) = true := decide_eq_true (by omega)
      obtain ⟨hq0, hnew⟩ := hg.out.less h0 (.inl (by omega)) hy hR
      replace hnew := Lib.hid hnew
      have hout : Hid (4294967296 ≤ R + y1 → Guessed X x0 y1 y0 (Q - 1)) := fun h' => hg.out.out h0 hy0 (.inl (by omega)) hy hR h'
      clear hP
      by_cases hbr : 4294967296 ≤ R + y1
      · have hfin := Lib.hid (hout.out hbr)
        have hd6 : decide ((4294967296 : Int) ≤ (R : Int) + (y1 : Int)) = true := decide_eq_true (by omega)
        have hd7 : decide (4294967296 ≤ R + y1) = true := decide_eq_true hbr
        go_wp2_with fail
        try rw [Exit.noGoto_ret]
        go_ret
        exact ⟨Q - 1, congrArg (fun z => Ending.returned (.int .u64 z)) (show (Q : Int) - 1 = ((Q - 1 : Nat) : Int) by omega), hfin.out, hdr.out⟩
      · have hd6 : decide ((4294967296 : Int) ≤ (R : Int) + (y1 : Int)) = false := decide_eq_false (by omega)
        have hd7 : decide (4294967296 ≤ R + y1) = false := decide_eq_false hbr
        go_wp2_with fail
        go_roundw
        case rel => exact ⟨Q - 1, R + y1, val_eq (by omega), val_eq (by omega), by omega, hnew.out, hdr.out⟩
        case measure => simp [intOf] <;> omega
end Go.Proofs.YtopbfgmpilnghaaDoor
