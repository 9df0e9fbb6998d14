/- mul.Mul: the product, where the shorter side has fewer than 48 limbs (no transform is reached). math/bits: the length, the zeros ahead, and the wide product, by the shelf's contracts, laid by hand at this program's numbers. bits.Div32 and div.guess: a limb of a quotient. div.guess: the greatest limb whose product with the divisor's first two limbs is not above the first three. slices.Clone, nat.Make and nat.Shl once more: what comes back lies in memory of its own. -/
import Derived.Test.YtopbfgmpilnghaaDoorToom
import Derived.Shelf.Small.Bits
import Derived.Shelf.Bits.Mul64
import Derived.WalkMore
set_option linter.unusedVariables false
set_option linter.unusedSimpArgs false
namespace Go.Proofs.YtopbfgmpilnghaaDoor
open Go.RowKit

/-- a cell of a row that stands -/
theorem row_cell {W W' : World} {R : Nat} {cs : Array Value} {t : TypeId} {fr : Nat × Nat} (h : W.heap[R]? = some (.cells cs t fr)) (b : Below W.heap.size W W') (j : Nat) {v : Value} (hj : cs[j]? = some v) : W'.cell? ⟨R, j, none⟩ = some v := by
  refine (b.cell (p := ⟨R, j, none⟩) (Array.getElem?_eq_some_iff.1 h).1).trans ?_
  simp only [World.cell?]; rw [h]; exact hj

set_option maxRecDepth 100000 in
set_option maxHeartbeats 4000000 in
theorem mul_small {va vb : Value} {a b : Nat} {w : World} (na : Nt w va a) (nb : Nt w vb b) (la : limbs a ≤ 16777216) (lb : limbs b ≤ 16777216) (hm : limbs a < 48 ∨ limbs b < 48) :
    Calls Tryd.prog 67 #[va, vb] w fun e w' => ∃ v, e = .returned v ∧ Nt w' v (a * b) ∧ Below w.heap.size w w' := by
  obtain ⟨aa, ca, fa, rfl, -⟩ := na.open
  obtain ⟨ab, cb, fb, rfl, -⟩ := nb.open
  have HT : Hid (∀ W, After w W → Calls Tryd.prog 88 #[.slice aa (limbs a) ca, .slice ab (limbs b) cb] W fun e w' => ∃ v, e = .returned v ∧ Nt w' v (a * b) ∧ Below w.heap.size w w') := fun W t => by
    refine (toom_nt (na.below t.out) (nb.below t.out) la lb).mono ?_
    rintro e w1 ⟨v, rfl, hv, hb⟩
    exact ⟨v, rfl, hv, After.t t hb⟩
  have HK : Hid (∀ W, After w W → Calls Tryd.prog 89 #[.slice aa (limbs a) ca, .slice ab (limbs b) cb] W fun e w' => ∃ v, e = .returned v ∧ Nt w' v (a * b) ∧ Below w.heap.size w w') := fun W t => by
    refine (kara_nt (na.below t.out) (nb.below t.out) la lb).mono ?_
    rintro e w1 ⟨v, rfl, hv, hb⟩
    exact ⟨v, rfl, hv, After.t t hb⟩
  have HS : Hid (∀ W, After w W → Calls Tryd.prog 90 #[.slice aa (limbs a) ca, .slice ab (limbs b) cb] W fun e w' => ∃ v, e = .returned v ∧ Nt w' v (a * b) ∧ Below w.heap.size w w') := fun W t => by
    refine (school_nt (na.below t.out) (nb.below t.out) (by omega) (by omega)).mono ?_
    rintro e w1 ⟨v, rfl, hv, hb⟩
    exact ⟨v, rfl, hv, After.t t hb⟩
  clear na nb
  have T : After w w := After.refl w
  generalize limbs a = x at *
  generalize limbs b = y at *
  rcases Nat.lt_or_ge x y with hxy | hxy
  all_goals
    go_enter Tryd.func67, Tryd.ntmps67
    go_wp2_with fail
    have T1 := Lib.hid (After.alloc T (.cells #[.int .i64 48, .func (.func 87) #[] #[], .int .i64 14, .func (.func 88) #[] #[], .int .i64 8, .func (.func 89) #[] #[]] 105))
    have hrow := Lib.hid (heap_alloc_new w (.cells #[.int .i64 48, .func (.func 87) #[] #[], .int .i64 14, .func (.func 88) #[] #[], .int .i64 8, .func (.func 89) #[] #[]] 105))
    generalize w.alloc _ = W1 at T1 hrow ⊢
    generalize w.heap.size = R at hrow ⊢
    obtain ⟨m0, hm0, hm1⟩ : ∃ m0, m0 < 48 ∧ (x < y ∧ m0 = x ∨ y ≤ x ∧ m0 = y) := ⟨min x y, by omega, by omega⟩
    go_loopw [12] (fun i wr => ∃ q : Nat, q ≤ 3 ∧ i = .int .i64 q ∧ Hid (Below W1.heap.size W1 wr)) (fun i _ => 3 - (intOf i).toNat)
    case atStart => exact ⟨0, by omega, rfl, Below.refl _ _⟩
    case round =>
      obtain ⟨q, hq, rfl, hbw⟩ := hrel
      have r0 := row_cell hrow.out hbw.out 0 rfl
      have r1 := row_cell hrow.out hbw.out 1 rfl
      have r2 := row_cell hrow.out hbw.out 2 rfl
      have r3 := row_cell hrow.out hbw.out 3 rfl
      have r4 := row_cell hrow.out hbw.out 4 rfl
      have r5 := row_cell hrow.out hbw.out 5 rfl
      obtain rfl | rfl | rfl | rfl : q = 0 ∨ q = 1 ∨ q = 2 ∨ q = 3 := by omega
      · go_wp2_with fail
        go_roundw
        case rel => exact ⟨1, by omega, rfl, After.alloc hbw.out _⟩
        case measure => simp [intOf] <;> omega
      · by_cases hl : m0 < 14
        · go_wp2_with fail
          go_roundw
          case rel => exact ⟨2, by omega, rfl, After.alloc hbw.out _⟩
          case measure => simp [intOf] <;> omega
        · go_wp2_with (go_at_call 88; (with_reducible refine (HT.out _ (After.alloc (After.t T1.out hbw.out) _)).mono ?_); rintro e w8 ⟨v, rfl, hv, hb⟩)
          all_goals
            go_ret
            exact ⟨v, rfl, hv, hb⟩
      · by_cases hl : m0 < 8
        · go_wp2_with fail
          go_roundw
          case rel => exact ⟨3, by omega, rfl, After.alloc hbw.out _⟩
          case measure => simp [intOf] <;> omega
        · go_wp2_with (go_at_call 89; (with_reducible refine (HK.out _ (After.alloc (After.t T1.out hbw.out) _)).mono ?_); rintro e w8 ⟨v, rfl, hv, hb⟩)
          all_goals
            go_ret
            exact ⟨v, rfl, hv, hb⟩
      · go_wp2_with (go_at_call 90; (with_reducible refine (HS.out _ (After.t T1.out hbw.out)).mono ?_); rintro e w8 ⟨v, rfl, hv, hb⟩)
        all_goals
          go_ret
          exact ⟨v, rfl, hv, hb⟩
end Go.Proofs.YtopbfgmpilnghaaDoor

namespace Go.Proofs.YtopbfgmpilnghaaDoor
open Go.RowKit Go.Shelf

/-- the shelf's numbers at this program -/
def renFn (k : Nat) : Nat := if k = 128 then 115 else if k = 133 then 94 else if k = 129 then 129 else if k = 264 then 123 else 0
def renTy (k : Nat) : Nat := if k = 3 then 3 else if k = 4 then 4 else if k = 5 then 5 else if k = 9 then 9 else if k = 46 then 45 else if k = 51 then 46 else if k = 53 then 39 else 0
def renBits : Ren := ⟨renFn, renTy, fun x => x⟩

set_option maxRecDepth 1000000 in
theorem lays133 : Lays.n133 Tryd.prog renBits := by
  constructor <;> first | (intro w; rfl) | kernel_rfl
set_option maxRecDepth 1000000 in
theorem lays128 : Lays.n128 Tryd.prog renBits := by
  constructor <;> first | (intro w; rfl) | kernel_rfl
set_option maxRecDepth 1000000 in
theorem lays129 : Lays.n129 Tryd.prog renBits := by
  constructor <;> first | (intro w; rfl) | kernel_rfl
set_option maxRecDepth 1000000 in
theorem lays264 : Lays.n264 Tryd.prog renBits := by
  constructor <;> first | (intro w; rfl) | kernel_rfl

/-- the noughts ahead of a limb -/
theorem lead_any {x : Nat} (hx : x < 4294967296) (w : World) :
    Calls Tryd.prog 94 #[.int .u32 x] w fun e w' => e = .returned (.int .i64 (32 - (Lib.bitLen x : Int))) ∧ w' = w := by
  have h := Any.bits_LeadingZeros32 lays133 (x : Int) w (by omega) (by omega)
  rw [show ((x : Int)).toNat = x from by omega] at h
  exact h
end Go.Proofs.YtopbfgmpilnghaaDoor

namespace Go.Proofs.YtopbfgmpilnghaaDoor
open Go.RowKit

theorem ret_two' {k l : IntKind} {a b c d : Int} (h : a = c) (h' : b = d) : Ending.returned (.tuple #[.int k a, .int l b]) = .returned (.tuple #[.int k c, .int l d]) := by rw [h, h']

set_option maxRecDepth 100000 in
set_option maxHeartbeats 2000000 in
theorem div32_any {h l m : Nat} (hm : h < m) (hl : l < 4294967296) (hm2 : m < 4294967296) (w : World) :
    Calls Tryd.prog 114 #[.int .u32 h, .int .u32 l, .int .u32 m] w fun e w' =>
      e = .returned (.tuple #[.int .u32 ((h * 4294967296 + l) / m : Nat), .int .u32 ((h * 4294967296 + l) % m : Nat)]) ∧ Drawn w w' := by
  have hor := or_limb h l (by omega) hl
  have hq : (h * 4294967296 + l) / m < 4294967296 := by
    rw [Nat.div_lt_iff_lt_mul (by omega)]
    have : (h + 1) * 4294967296 ≤ m * 4294967296 := Nat.mul_le_mul_right _ hm
    rw [Nat.mul_comm 4294967296 m]
    omega
  have hr : (h * 4294967296 + l) % m < m := Nat.mod_lt _ (by omega)
  generalize h * 4294967296 + l = X at *
  have e0 : IntKind.u64.wrap ((X / m : Nat) : Int) = ((X / m : Nat) : Int) := by
    generalize X / m = q at *
    simp [IntKind.wrap, IntKind.bits, IntKind.signed]; omega
  have e1 := (congrArg IntKind.u64.wrap (Int.natCast_ediv X m).symm).trans e0
  go_enter Tryd.func114, Tryd.ntmps114
  go_wp2_with fail
  go_quiet (fail)
  go_wp2_with fail
  refine bodyPost_ret (results_tmp2 rfl _ _ _) rfl ⟨?_, _, rfl⟩
  have e3 : (X : Int) / (m : Int) % 4294967296 = ((X / m : Nat) : Int) := by
    rw [← Int.natCast_ediv]; exact Int.emod_eq_of_lt (Int.natCast_nonneg _) (Int.ofNat_lt.2 hq)
  exact ret_two' e3 (Int.natCast_emod X m).symm
end Go.Proofs.YtopbfgmpilnghaaDoor

namespace Go.Proofs.YtopbfgmpilnghaaDoor
open Go.RowKit

/-- The guess so far: q times y1 and r are the first two limbs; what fits is not above q. -/
structure Guess (t x0 y1 y0 q r : Nat) : Prop where
  sum : q * y1 + r = t
  top : q ≤ 4294967297
  near : q = 4294967297 → r + y1 < 4294967296
  low : ∀ Q, Q < 4294967296 → Q * (y1 * 4294967296 + y0) ≤ t * 4294967296 + x0 → Q ≤ q

theorem Guess.start {x2 x1 x0 y1 y0 : Nat} (h1 : x1 < 4294967296) (h0 : x0 < 4294967296) (hy : 2147483648 ≤ y1) (hy1 : y1 < 4294967296) (hx : x2 ≤ y1) :
    Guess (x2 * 4294967296 + x1) x0 y1 y0 ((x2 * 4294967296 + x1) / y1) ((x2 * 4294967296 + x1) % y1) := by
  have hd := Nat.div_add_mod (x2 * 4294967296 + x1) y1
  have hr := Nat.mod_lt (x2 * 4294967296 + x1) (show 0 < y1 by omega)
  have hx2 : x2 * 4294967296 ≤ y1 * 4294967296 := Nat.mul_le_mul_right _ hx
  have hm : y1 * 4294967298 > x2 * 4294967296 + x1 := by omega
  have hq : (x2 * 4294967296 + x1) / y1 < 4294967298 := (Nat.div_lt_iff_lt_mul (by omega)).2 (by omega)
  generalize hX : x2 * 4294967296 + x1 = X at *
  refine ⟨by rw [Nat.mul_comm]; exact hd, by omega, fun e => ?_, fun Q hQ h => ?_⟩
  · rw [e] at hd; omega
  · rw [Nat.le_div_iff_mul_le (by omega)]
    have : Q * (y1 * 4294967296 + y0) = Q * y1 * 4294967296 + Q * y0 := by grind
    generalize Q * y1 = A at *
    generalize Q * y0 = C at *
    omega

theorem Guess.less {t x0 y1 y0 q r : Nat} (h : Guess t x0 y1 y0 q r) (h0 : x0 < 4294967296) (hc : 4294967296 ≤ q ∨ r * 4294967296 + x0 < q * y0) (hy : 2147483648 ≤ y1) (hr : r < 4294967296) :
    0 < q ∧ Guess t x0 y1 y0 (q - 1) (r + y1) := by
  have hq : 0 < q := by
    rcases hc with hc | hc
    · omega
    · rcases Nat.eq_zero_or_pos q with rfl | h
      · simp at hc
      · exact h
  obtain ⟨p, rfl⟩ : ∃ p, q = p + 1 := ⟨q - 1, by omega⟩
  have hs := h.sum
  rw [Nat.add_mul, Nat.one_mul] at hs
  refine ⟨hq, by rw [show p + 1 - 1 = p by omega]; omega, by have := h.top; omega, fun e => by have := h.top; omega, fun Q hQ hh => ?_⟩
  have hl := h.low Q hQ hh
  rcases hc with hc | hc
  · omega
  · by_cases e : Q = p + 1
    · subst e
      have e2 : (p + 1) * (y1 * 4294967296 + y0) = ((p + 1) * y1) * 4294967296 + (p + 1) * y0 := by grind
      rw [e2, Nat.add_mul p 1 y1, Nat.one_mul] at hh
      generalize p * y1 = A at *
      generalize (p + 1) * y0 = C at *
      omega
    · omega

/-- what div.guess answers -/
structure Guessed (t x0 y1 y0 q : Nat) : Prop where
  lt : q < 4294967296
  fits : q * (y1 * 4294967296 + y0) ≤ t * 4294967296 + x0
  low : ∀ Q, Q < 4294967296 → Q * (y1 * 4294967296 + y0) ≤ t * 4294967296 + x0 → Q ≤ q

theorem Guess.done {t x0 y1 y0 q r : Nat} (h : Guess t x0 y1 y0 q r) (hq : q < 4294967296) (hc : q * y0 ≤ r * 4294967296 + x0) : Guessed t x0 y1 y0 q := by
  refine ⟨hq, ?_, h.low⟩
  have hs := h.sum
  have e2 : q * (y1 * 4294967296 + y0) = (q * y1) * 4294967296 + q * y0 := by grind
  rw [e2]
  generalize q * y1 = A at *
  generalize q * y0 = C at *
  omega
/-- behind a break: the rest is too great for more -/
theorem Guess.out {t x0 y1 y0 q r : Nat} (h : Guess t x0 y1 y0 q r) (h0 : x0 < 4294967296) (hy0 : y0 < 4294967296) (hc : 4294967296 ≤ q ∨ r * 4294967296 + x0 < q * y0) (hy : 2147483648 ≤ y1) (hr : r < 4294967296) (hb : 4294967296 ≤ r + y1) :
    Guessed t x0 y1 y0 (q - 1) := by
  obtain ⟨hq, hg⟩ := h.less h0 hc hy hr
  have hq1 : q - 1 < 4294967296 := by
    have := h.top
    have := h.near
    omega
  refine hg.done hq1 ?_
  have h1 : (q - 1) * y0 ≤ 4294967296 * 4294967296 := Nat.mul_le_mul (Nat.le_of_lt hq1) (Nat.le_of_lt hy0)
  exact Nat.le_trans h1 (Nat.le_trans (Nat.mul_le_mul_right _ hb) (Nat.le_add_right _ _))

set_option maxRecDepth 100000 in
set_option maxHeartbeats 4000000 in
theorem guess_any {x2 x1 x0 y1 y0 : Nat} (h1 : x1 < 4294967296) (h0 : x0 < 4294967296) (hy : 2147483648 ≤ y1) (hy1 : y1 < 4294967296) (hx : x2 ≤ y1) (hy0 : y0 < 4294967296) (w : World) :
    Calls Tryd.prog 95 #[.int .u32 x2, .int .u32 x1, .int .u32 x0, .int .u32 y1, .int .u32 y0] w fun e w' =>
      ∃ q : Nat, e = .returned (.int .u64 q) ∧ Guessed (x2 * 4294967296 + x1) x0 y1 y0 q ∧ Drawn w w' := by
  have hst := Lib.hid (Guess.start (y0 := y0) h1 h0 hy hy1 hx)
  have hor := or_limb x2 x1 (by omega) h1
  have hr := Nat.mod_lt (x2 * 4294967296 + x1) (show 0 < y1 by omega)
  have hXl : x2 * 4294967296 + x1 < 18446744073709551616 := by omega
  generalize x2 * 4294967296 + x1 = X at *
  have e0 : IntKind.u64.wrap ((X / y1 : Nat) : Int) = ((X / y1 : Nat) : Int) := by
    have := Nat.div_le_self X y1
    generalize X / y1 = q at *
    simp [IntKind.wrap, IntKind.bits, IntKind.signed]; omega
  have e1 := (congrArg IntKind.u64.wrap (Int.natCast_ediv X y1).symm).trans e0
  go_enter Tryd.func95, Tryd.ntmps95
  go_wp2_with fail
  go_step3
  go_wp2_with fail
  go_quiet (fail)
  go_wp2_with fail
  go_step3
  go_wp2_with fail
  go_loopw [12, 13] (fun q r wr => ∃ Q R : Nat, q = .int .u64 Q ∧ r = .int .u64 R ∧ R < 4294967296 ∧ Hid (Guess X x0 y1 y0 Q R) ∧ Hid (Drawn w wr)) (fun q _ _ => (intOf q).toNat)
  case atStart => exact ⟨X / y1, X % y1, val_eq (Int.natCast_ediv X y1).symm, val_eq (Int.natCast_emod X y1).symm, by omega, hst, _, rfl⟩
  case round =>
    clear e0 e1 hor hst hr hx
    obtain ⟨Q, R, rfl, rfl, hR, hg, hdr⟩ := hrel
    have hor2 := or_limb R x0 hR h0
    have htop := hg.out.top
    have hP : ((Q : Int) * (y0 : Int)) = ((Q * y0 : Nat) : Int) := (Int.natCast_mul Q y0).symm
    by_cases hQ : Q < 4294967296
    · have hd1 : decide (4294967296 ≤ Q) = false := decide_eq_false (by omega)
      have hd2 : decide ((4294967296 : Int) ≤ (Q : Int)) = false := decide_eq_false (by omega)
      have hb : Q * y0 < 18446744073709551616 := Nat.lt_of_le_of_lt (Nat.mul_le_mul (show Q ≤ 4294967295 by omega) (show y0 ≤ 4294967295 by omega)) (by decide)
      have hdone : Hid (Q * y0 ≤ R * 4294967296 + x0 → Guessed X x0 y1 y0 Q) := fun h => hg.out.done hQ h
      have hless : Hid (R * 4294967296 + x0 < Q * y0 → 0 < Q ∧ Guess X x0 y1 y0 (Q - 1) (R + y1)) := fun h => hg.out.less h0 (.inr h) hy hR
      have hout : Hid (R * 4294967296 + x0 < Q * y0 → 4294967296 ≤ R + y1 → Guessed X x0 y1 y0 (Q - 1)) := fun h h' => hg.out.out h0 hy0 (.inr h) hy hR h'
      generalize Q * y0 = P at *
      by_cases hc : P ≤ R * 4294967296 + x0
      · go_wp2_with fail
        try rw [Exit.noGoto_ret]
        go_ret
        exact ⟨Q, rfl, hdone.out hc, hdr.out⟩
      · obtain ⟨hq0, hnew⟩ := hless.out (by omega)
        replace hnew := Lib.hid hnew
        have hd4 : decide ((R : Int) * 4294967296 + (x0 : Int) < (P : Int)) = true := decide_eq_true (by omega)
        have hd5 : decide (R * 4294967296 + x0 < P) = true := decide_eq_true (by omega)
        by_cases hbr : 4294967296 ≤ R + y1
        · have hfin := Lib.hid (hout.out (by omega) hbr)
          have hd6 : decide ((4294967296 : Int) ≤ (R : Int) + (y1 : Int)) = true := decide_eq_true (by omega)
          have hd7 : decide (4294967296 ≤ R + y1) = true := decide_eq_true hbr
          go_wp2_with fail
          try rw [Exit.noGoto_ret]
          go_ret
          exact ⟨Q - 1, congrArg (fun z => Ending.returned (.int .u64 z)) (show (Q : Int) - 1 = ((Q - 1 : Nat) : Int) by omega), hfin.out, hdr.out⟩
        · have hd6 : decide ((4294967296 : Int) ≤ (R : Int) + (y1 : Int)) = false := decide_eq_false (by omega)
          have hd7 : decide (4294967296 ≤ R + y1) = false := decide_eq_false hbr
          go_wp2_with fail
          go_roundw
          case rel => exact ⟨Q - 1, R + y1, val_eq (by omega), val_eq (by omega), by omega, hnew.out, hdr.out⟩
          case measure => simp [intOf] <;> omega
    · have hd1 : decide (4294967296 ≤ Q) = true := decide_eq_true (by omega)
      have hd2 : decide ((4294967296 : Int) ≤ (Q : Int)) = true := decide_eq_true (by omega)
      obtain ⟨hq0, hnew⟩ := hg.out.less h0 (.inl (by omega)) hy hR
      replace hnew := Lib.hid hnew
      have hout : Hid (4294967296 ≤ R + y1 → Guessed X x0 y1 y0 (Q - 1)) := fun h' => hg.out.out h0 hy0 (.inl (by omega)) hy hR h'
      clear hP
      by_cases hbr : 4294967296 ≤ R + y1
      · have hfin := Lib.hid (hout.out hbr)
        have hd6 : decide ((4294967296 : Int) ≤ (R : Int) + (y1 : Int)) = true := decide_eq_true (by omega)
        have hd7 : decide (4294967296 ≤ R + y1) = true := decide_eq_true hbr
        go_wp2_with fail
        try rw [Exit.noGoto_ret]
        go_ret
        exact ⟨Q - 1, congrArg (fun z => Ending.returned (.int .u64 z)) (show (Q : Int) - 1 = ((Q - 1 : Nat) : Int) by omega), hfin.out, hdr.out⟩
      · have hd6 : decide ((4294967296 : Int) ≤ (R : Int) + (y1 : Int)) = false := decide_eq_false (by omega)
        have hd7 : decide (4294967296 ≤ R + y1) = false := decide_eq_false hbr
        go_wp2_with fail
        go_roundw
        case rel => exact ⟨Q - 1, R + y1, val_eq (by omega), val_eq (by omega), by omega, hnew.out, hdr.out⟩
        case measure => simp [intOf] <;> omega
end Go.Proofs.YtopbfgmpilnghaaDoor

namespace Go.Proofs.YtopbfgmpilnghaaDoor
open Go.RowKit

theorem owns_nil (w : World) (base : Nat) (e : TypeId) : w.ownsRow base e 1 (.slice none 0 0) 0 [] := ⟨rfl, .inl ⟨rfl, rfl⟩⟩
theorem owns_low {w : World} {base base' : Nat} {e : TypeId} {v : Value} {n : Nat} {xs : List Value} (h : w.ownsRow base e 1 v n xs) (hb : base' ≤ base) : w.ownsRow base' e 1 v n xs := by
  refine ⟨h.1, ?_⟩
  rcases h.2 with h | ⟨g, cap, cur, h1, h2, h3⟩
  · exact .inl h
  · exact .inr ⟨g, cap, cur, h1, Nat.le_trans hb h2, h3⟩

set_option maxHeartbeats 400000 in
theorem clone_own_some (b off n cap : Nat) (f : Nat → Nat) (w : World) (hn : n * 4 ≤ 140737488355328) (hc : Hid (∀ j, j < n → w.cell? ⟨b, off + j, none⟩ = some (.int .u32 (f j)))) :
    Calls Tryd.prog 103 #[.slice (some ⟨b, off, none⟩) n cap] w fun e w' => ∃ v, e = .returned v ∧ w'.ownsRow w.heap.size 46 1 v (n) (cellsOf .u32 (n) f) ∧ Below w.heap.size w w' := by
  obtain ⟨i0, hi, hz0, hz1, hz2⟩ := info_parts info_u32
  have q22 : ∀ (w : World) (a : Option Addr) (n c n' c' : Nat), (binOp .eql 22 (.slice a n c) (.slice none n' c')).run Tryd.prog w = .ok (.bool a.isNone) w := fun w a n c n' c' => Lib.run_eql_slice_nil w _ _ a n c n' c' Tryd.underlying22
  go_enter Tryd.func103, Tryd.ntmps103
  go_wp2_with (at_builtin; refine wpList_append_own _ rfl _ _ 22 rfl w.heap.size 46 i0 (.int .u32 0) 1 4 Tryd.underlying22 hi hz0 hz1 hz2 rfl (by decide) _ _ _ rfl (World.ownsRow_made w #[] 0 (Nat.le_refl _) (Nat.zero_le _) rfl) ⟨b, off, none⟩ n cap (cellsOf .u32 n f) rfl ?qc1 ?qc2 ?qc3 ?qc4 ?qc5 ?qc6 ?_)
  case qc1 => rw [cellsOf_length]; omega
  case qc2 =>
    intro j u hj
    have hjn : j < n := by
      have := (List.getElem?_eq_some_iff.1 hj).1
      rw [cellsOf_length] at this
      omega
    rw [Addr.add_lit]
    refine Lib.cell?_alloc_some _ ?_
    rw [hc.out j hjn, ← hj, cellsOf_get _ _ _ _ hjn]
  case qc3 => intro u hu; unfold cellsOf at hu; obtain ⟨x, _, rfl⟩ := List.mem_map.1 hu; rfl
  case qc4 => unfold maxLen; omega
  case qc5 => omega
  case qc6 => simp
  intro v' w1 hown hgrow hnil
  go_wp2
  go_ret
  refine ⟨v', rfl, ?_, ?_⟩
  · simpa using hown
  · exact ((Below.refl _ w).alloc (Nat.le_refl _) _).grown hgrow (by simp) (by intro k hk; simp [Value.ownBlock] at hk; omega)

set_option maxHeartbeats 400000 in
theorem clone_own_zero (ad : Addr) (cap : Nat) (f : Nat → Nat) (w : World) :
    Calls Tryd.prog 103 #[.slice (some ad) 0 cap] w fun e w' => ∃ v, e = .returned v ∧ w'.ownsRow w.heap.size 46 1 v (0) (cellsOf .u32 (0) f) ∧ Below w.heap.size w w' := by
  obtain ⟨i0, hi, hz0, hz1, hz2⟩ := info_parts info_u32
  have q22 : ∀ (w : World) (a : Option Addr) (n c n' c' : Nat), (binOp .eql 22 (.slice a n c) (.slice none n' c')).run Tryd.prog w = .ok (.bool a.isNone) w := fun w a n c n' c' => Lib.run_eql_slice_nil w _ _ a n c n' c' Tryd.underlying22
  go_enter Tryd.func103, Tryd.ntmps103
  go_wp2_with (at_builtin; refine wpList_append_own _ rfl _ _ 22 rfl w.heap.size 46 i0 (.int .u32 0) 1 4 Tryd.underlying22 hi hz0 hz1 hz2 rfl (by decide) _ _ _ rfl (World.ownsRow_made w #[] 0 (Nat.le_refl _) (Nat.zero_le _) rfl) ad 0 cap [] rfl rfl (by intro j u hj; simp at hj) (by intro u hu; cases hu) (by unfold maxLen; omega) (by omega) (by simp) ?_)
  intro v' w1 hown hgrow hnil
  go_wp2
  go_ret
  refine ⟨v', rfl, ?_, ?_⟩
  · simpa [cellsOf] using hown
  · exact ((Below.refl _ w).alloc (Nat.le_refl _) _).grown hgrow (by simp) (by intro k hk; simp [Value.ownBlock] at hk; omega)

theorem clone_own_nil (cap n : Nat) (f : Nat → Nat) (w : World) :
    Calls Tryd.prog 103 #[.slice none n cap] w fun e w' => ∃ v, e = .returned v ∧ w'.ownsRow w.heap.size 46 1 v (0) (cellsOf .u32 (0) f) ∧ Below w.heap.size w w' := by
  have q22 : ∀ (w : World) (a : Option Addr) (n c n' c' : Nat), (binOp .eql 22 (.slice a n c) (.slice none n' c')).run Tryd.prog w = .ok (.bool a.isNone) w := fun w a n c n' c' => Lib.run_eql_slice_nil w _ _ a n c n' c' Tryd.underlying22
  go_enter Tryd.func103, Tryd.ntmps103
  go_wp2
  go_ret
  exact ⟨_, rfl, owns_nil _ _ _, Below.refl _ _⟩

/-- slices.Clone: the same elements in memory of its own. -/
theorem clone_own {v : Value} {n : Nat} {f : Nat → Nat} {w : World} (h : Rd .u32 w v n f) (hn : n * 4 ≤ 140737488355328) :
    Calls Tryd.prog 103 #[v] w fun e w' => ∃ v, e = .returned v ∧ w'.ownsRow w.heap.size 46 1 v (n) (cellsOf .u32 (n) f) ∧ Below w.heap.size w w' := by
  obtain ⟨ao, cap, rfl, hcap, hm, hc⟩ := h
  by_cases h0 : n = 0
  · subst h0
    cases ao with
    | none => exact clone_own_nil cap 0 f w
    | some ad => exact clone_own_zero ad cap f w
  · obtain ⟨b, off, rfl, hb, hcl⟩ := hc (by omega)
    exact clone_own_some b off n cap f w hn hcl

set_option maxRecDepth 100000 in
set_option maxHeartbeats 400000 in
theorem make_own_some (b off n cap : Nat) (f : Nat → Nat) (w : World) (hn : n * 4 ≤ 140737488355328) (hcap : n ≤ cap) (hm : cap ≤ maxLen) (hb : b < w.heap.size) (hc : Hid (∀ j, j < n → w.cell? ⟨b, off + j, none⟩ = some (.int .u32 (f j)))) :
    Calls Tryd.prog 86 #[.slice (some ⟨b, off, none⟩) n cap] w fun e w' => ∃ v, e = .returned v ∧ w'.ownsRow w.heap.size 46 1 v (trim f n) (cellsOf .u32 (trim f n) f) ∧ Below w.heap.size w w' := by
  go_enter Tryd.func86, Tryd.ntmps86
  go_wp2
  go_loop [3] (fun i => ∃ k : Nat, k ≤ n ∧ i = .int .i64 k ∧ Hid (trim f n = trim f k)) (fun i => (intOf i).toNat)
  case atStart => exact ⟨n, Nat.le_refl _, rfl, rfl⟩
  case round =>
    obtain ⟨k, hk, rfl, hz⟩ := hrel
    unfold maxLen at hm
    by_cases h0 : k = 0
    · subst h0
      go_wp2_with (go_at_call 103; refine (clone_own (sl_to (Nat.zero_le n) hcap (by unfold maxLen; omega) hb hc.out) (by omega)).mono ?_; rintro e w' ⟨v, rfl, hv, hbl⟩)
      go_ret
      exact ⟨v, rfl, by rw [hz.out]; exact hv, hbl⟩
    · have hcell := hc.out (k - 1) (by omega)
      by_cases hf : f (k - 1) = 0
      · go_wp2
        go_round
        case rel => exact ⟨k - 1, by omega, by go_num, by unfold Hid; rw [hz.out]; exact trim_same f k (k - 1) (by omega) (fun j h1 h2 => by rw [show j = k - 1 from by omega]; exact hf)⟩
        case measure => simp [intOf]; omega
      · go_wp2_with (go_at_call 103; refine (clone_own (sl_to hk hcap (by unfold maxLen; omega) hb hc.out) (by omega)).mono ?_; rintro e w' ⟨v, rfl, hv, hbl⟩)
        go_ret
        have e : trim f k = k := by
          obtain ⟨m, rfl⟩ : ∃ m, k = m + 1 := ⟨k - 1, by omega⟩
          rw [Nat.add_sub_cancel] at hf
          simp only [trim]
          rw [if_neg hf]
        exact ⟨v, rfl, by rw [hz.out, e]; exact hv, hbl⟩

/-- nat.Make: the row without the noughts at its end. -/
theorem make_own {v : Value} {n : Nat} {f : Nat → Nat} {w : World} (h : Rd .u32 w v n f) (hn : n * 4 ≤ 140737488355328) :
    Calls Tryd.prog 86 #[v] w fun e w' => ∃ v, e = .returned v ∧ w'.ownsRow w.heap.size 46 1 v (trim f n) (cellsOf .u32 (trim f n) f) ∧ Below w.heap.size w w' := by
  obtain ⟨ao, cap, rfl, hcap, hm, hc⟩ := h
  by_cases h0 : n = 0
  · subst h0
    go_enter Tryd.func86, Tryd.ntmps86
    go_wp2
    go_loop [3] (fun i => i = .int .i64 0) (fun i => (intOf i).toNat)
    case atStart => rfl
    case round =>
      subst hrel
      unfold maxLen at hm
      go_wp2_with (go_at_call 103; refine (clone_own (f := f) ⟨ao, cap, rfl, by omega, (by unfold maxLen; omega), fun h => absurd h (by omega)⟩ (by omega)).mono ?_; rintro e w' ⟨v, rfl, hv, hbl⟩)
      go_ret
      exact ⟨v, rfl, hv, hbl⟩
  · obtain ⟨b, off, rfl, hb, hcl⟩ := hc (by omega)
    exact make_own_some b off n cap f w hn hcap hm hb hcl

set_option maxRecDepth 100000 in
set_option maxHeartbeats 1000000 in
theorem shl_own_row {b off m cap n : Nat} {f : Nat → Nat} {w : World} (hm : m ≤ 536870912) (hm0 : 0 < m) (hn : n ≤ 17179869184) (hf : Hid (Fits m f)) (hB : Hid (b < w.heap.size))
    (hc : Hid (∀ j, j < m → w.cell? ⟨b, off + j, none⟩ = some (.int .u32 (f j)))) :
    Calls Tryd.prog 79 #[.slice (some ⟨b, off, none⟩) m cap, .int .i64 n] w fun e w' => ∃ v, e = .returned v ∧ w'.ownsRow w.heap.size 46 1 v (trim (shlG f (n / 32) (n % 32) m) (n / 32 + m + 1)) (cellsOf .u32 (trim (shlG f (n / 32) (n % 32) m) (n / 32 + m + 1)) (shlG f (n / 32) (n % 32) m)) ∧ Below w.heap.size w w' := by
  obtain ⟨i0, hi, hz0, hz1, hz2⟩ := info_parts info_u32
  have hm1 : ((m : Int) == 0) = false := by simp; omega
  have hq : n / 32 ≤ 536870912 := by omega
  go_enter Tryd.func79, Tryd.ntmps79
  go_wp2_with (at_make; refine wpList_make_row _ rfl _ _ 22 rfl 46 i0 .u32 Tryd.underlying22 hi hz0 hz1 _ _ _ _ (n / 32) (n / 32 + m + 1) rfl rfl (by omega) (by omega) (by omega) (by rw [hz2]; omega) (by omega) ?_; intro w1 hown hgrow hsz)
  have hrow : w1.ownsRow w.heap.size 46 1 (.slice (some ⟨w.heap.size, 0, none⟩) (n / 32) (n / 32 + m + 1)) (n / 32) (cellsOf .u32 (n / 32) (shlG f (n / 32) (n % 32) m)) := by
    rw [cellsOf_congr _ _ _ (fun _ => 0) (fun j hj => by unfold shlG; rw [if_pos hj])]
    exact hown.owns (by omega) (by unfold maxLen; omega) (Nat.le_refl _)
  have hbw : Below w.heap.size w w1 := (Below.refl _ w).grown hgrow (Nat.le_refl _) (fun k e => by cases e)
  have HROW := Lib.hid hrow
  have HBW := Lib.hid hbw
  clear hown hgrow hsz hrow hbw hq
  go_loopw [5, 7, 26] (fun v lo i wr => ∃ k : Nat, k ≤ m ∧ i = .int .i64 k ∧ v = .slice (some ⟨w.heap.size, 0, none⟩) (n / 32 + k) (n / 32 + m + 1) ∧ lo = .int .u32 (shlLow f (n % 32) k) ∧
    Hid (wr.ownsRow w.heap.size 46 1 (.slice (some ⟨w.heap.size, 0, none⟩) (n / 32 + k) (n / 32 + m + 1)) (n / 32 + k) (cellsOf .u32 (n / 32 + k) (shlG f (n / 32) (n % 32) m))) ∧ Hid (Below w.heap.size w wr)) (fun _ _ i _ => m - (intOf i).toNat)
  case atStart => exact ⟨0, Nat.zero_le _, rfl, rfl, rfl, HROW, HBW⟩
  case round =>
    obtain ⟨k, hk, rfl, rfl, rfl, hown, hbw⟩ := hrel
    by_cases hlt : k < m
    · have hcell : wr.cell? ⟨b, off + k, none⟩ = _ := (hbw.out.cell (p := ⟨b, off + k, none⟩) hB.out).trans (hc.out k hlt)
      have hfk := hf.out k hlt
      have hs : n % 32 < 32 := Nat.mod_lt _ (by omega)
      have hor : bits .or .u32 ((f k : Int) * 2 ^ (n % 32) % 4294967296) (shlLow f (n % 32) k : Int) = (shlG f (n / 32) (n % 32) m (n / 32 + k) : Int) := by
        rw [or_low_int _ _ _ hfk hs (shlLow_lt hf.out hs (by omega))]
        unfold shlG
        rw [if_neg (by omega), if_pos (by omega), Nat.add_sub_cancel_left]
      have hp0 : (0 : Int) ≤ (f k : Int) * 2 ^ (n % 32) := Int.mul_nonneg (by omega) (Int.le_of_lt (Int.pow_pos (by omega)))
      have hp1 : (f k : Int) * 2 ^ (n % 32) ≤ 9223372034707292160 := by
        have h1 : f k * 2 ^ (n % 32) ≤ 4294967295 * 2147483648 := Nat.mul_le_mul (by omega) (pow_le_31 hs).2
        have h2 : ((f k * 2 ^ (n % 32) : Nat) : Int) ≤ 9223372034707292160 := by omega
        simpa using h2
      go_wp2_with (at_builtin; go_must (refine wpList_append_fits _ rfl _ _ 22 rfl w.heap.size 46 i0 1 Tryd.underlying22 hi hz1 w.heap.size (n / 32 + k) (n / 32 + m + 1) _ rfl (hown.out.alloc _) ⟨_, 0, none⟩ 1 1 [.int .u32 (shlG f (n / 32) (n % 32) m (n / 32 + k) : Int)] rfl rfl (cell_one_new _ _ _) (by simp [Value.oneCell']) (by omega) ?_); intro w2 hown2 hg2)
      have hbs := hbw.out.size
      go_roundw
      case rel => exact ⟨k + 1, by omega, by go_num, rfl, by simp [shlLow], by
          have := hown2
          rw [← cellsOf_snoc] at this
          exact this, Below.grown (hbw.out.alloc hbs _) hg2 (by simp; omega) (fun j e => by cases e; omega)⟩
      case measure => simp [intOf]; omega
    · obtain rfl : k = m := by omega
      have hlow : (shlLow f (n % 32) k : Int) = (shlG f (n / 32) (n % 32) k (n / 32 + k) : Int) := by
        unfold shlG
        rw [if_neg (by omega), if_neg (by omega)]
      have hbs := Lib.hid hbw.out.size
      have hg : Hid (Fits (n / 32 + k + 1) (shlG f (n / 32) (n % 32) k)) := shlG_fits hf.out (Nat.mod_lt _ (by omega))
      go_wp2_with (first
        | (at_builtin; refine wpList_append_fits _ rfl _ _ 22 rfl w.heap.size 46 i0 1 Tryd.underlying22 hi hz1 w.heap.size (n / 32 + k) (n / 32 + k + 1) _ rfl (hown.out.alloc _) ⟨_, 0, none⟩ 1 1 [.int .u32 (shlG f (n / 32) (n % 32) k (n / 32 + k) : Int)] rfl rfl (cell_one_new _ _ _) (by simp [Value.oneCell']) (by omega) ?_; intro w2 hown2 hg2; rw [← cellsOf_snoc] at hown2; have HO2 := Lib.hid hown2; have HG2 := Lib.hid hg2; clear hown2 hg2)
        | (go_at_call 86; refine (make_own (Rd.of_own HO2.out) (by omega)).mono ?_; rintro e w3 ⟨v, rfl, hv, hb3⟩))
      go_ret
      have hb2 : Below w.heap.size w w2 := Below.grown (hbw.out.alloc hbs.out _) HG2.out (by have := hbs.out; simp; omega) (fun j e => by cases e; omega)
      exact ⟨v, rfl, owns_low hv hb2.size, hb2.trans (hb3.mono hb2.size)⟩

/-- A natural in memory of its own. -/
def OwnNt (base : Nat) (w : World) (v : Value) (a : Nat) : Prop := ∃ f, w.ownsRow base 46 1 v (limbs a) (cellsOf .u32 (limbs a) f) ∧ Fits (limbs a) f ∧ nv f (limbs a) = a
theorem OwnNt.of {base : Nat} {w : World} {v : Value} {n : Nat} {g : Nat → Nat} (h : w.ownsRow base 46 1 v (trim g n) (cellsOf .u32 (trim g n) g)) (hg : Fits n g) : OwnNt base w v (nv g n) := by
  have e : limbs (nv g n) = trim g n := by
    rw [← trim_nv g n]
    exact limbs_nv (hg.mono (trim_le g n)) (trim_norm g n)
  exact ⟨g, by rw [e]; exact h, by rw [e]; exact hg.mono (trim_le g n), by rw [e]; exact trim_nv g n⟩
theorem shl_own {v : Value} {a n : Nat} {w : World} (ha : Nt w v a) (la : limbs a ≤ 536870912) (hn : n ≤ 17179869184) (i : Int) (hi : i = n) :
    Calls Tryd.prog 79 #[v, .int .i64 i] w fun e w' => ∃ v, e = .returned v ∧ OwnNt w.heap.size w' v (a * 2 ^ n) ∧ Below w.heap.size w w' := by
  subst hi
  obtain ⟨ao, cap, f, rfl, ra, fta, na, va⟩ := ha.open
  by_cases h0 : limbs a = 0
  · rw [h0] at va ⊢
    obtain rfl : a = 0 := va.symm
    refine (shl_none hn).mono fun e w' ⟨he, hw⟩ => ⟨_, he, ?_, by subst hw; exact Below.refl _ _⟩
    have := OwnNt.of (base := w.heap.size) (w := w') (v := .slice none 0 0) (n := 0) (g := fun _ => 0) (owns_nil _ _ _) (fun _ h => absurd h (by omega))
    rw [Nat.zero_mul]; exact this
  · obtain ⟨b, off, rfl, hb, hc⟩ := ra.at (by omega)
    refine (shl_own_row la (by omega) hn fta hb hc).mono fun e w' ⟨v, he, hv, hbl⟩ => ⟨v, he, ?_, hbl⟩
    have := OwnNt.of hv (shlG_fits fta (Nat.mod_lt _ (by omega)))
    rw [shl_law fta, va] at this
    exact this
end Go.Proofs.YtopbfgmpilnghaaDoor
