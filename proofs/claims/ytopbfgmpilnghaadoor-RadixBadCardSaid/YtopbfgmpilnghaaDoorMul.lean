/- mul.Mul: the product, where the shorter side has fewer than 48 limbs (no transform is reached). -/
import Derived.Test.YtopbfgmpilnghaaDoorToom
set_option linter.unusedVariables false
set_option linter.unusedSimpArgs false
namespace Go.Proofs.YtopbfgmpilnghaaDoor
open Go.RowKit

/-- a cell of a row that stands -/
theorem row_cell {W W' : World} {R : Nat} {cs : Array Value} {t : TypeId} {fr : Nat × Nat} (h : W.heap[R]? = some (.cells cs t fr)) (b : Below W.heap.size W W') (j : Nat) {v : Value} (hj : cs[j]? = some v) : W'.cell? ⟨R, j, none⟩ = some v := by
  refine (b.cell (p := ⟨R, j, none⟩) (Array.getElem?_eq_some_iff.1 h).1).trans ?_
  simp only [World.cell?]; rw [h]; exact hj

set_option maxRecDepth 100000 in
set_option maxHeartbeats 4000000 in
theorem mul_small {va vb : Value} {a b : Nat} {w : World} (na : Nt w va a) (nb : Nt w vb b) (la : limbs a ≤ 16777216) (lb : limbs b ≤ 16777216) (hm : limbs a < 48 ∨ limbs b < 48) :
    Calls Tryd.prog 67 #[va, vb] w fun e w' => ∃ v, e = .returned v ∧ Nt w' v (a * b) ∧ Below w.heap.size w w' := by
  obtain ⟨aa, ca, fa, rfl, -⟩ := na.open
  obtain ⟨ab, cb, fb, rfl, -⟩ := nb.open
  have HT : Hid (∀ W, After w W → Calls Tryd.prog 88 #[.slice aa (limbs a) ca, .slice ab (limbs b) cb] W fun e w' => ∃ v, e = .returned v ∧ Nt w' v (a * b) ∧ Below w.heap.size w w') := fun W t => by
    refine (toom_nt (na.below t.out) (nb.below t.out) la lb).mono ?_
    rintro e w1 ⟨v, rfl, hv, hb⟩
    exact ⟨v, rfl, hv, After.t t hb⟩
  have HK : Hid (∀ W, After w W → Calls Tryd.prog 89 #[.slice aa (limbs a) ca, .slice ab (limbs b) cb] W fun e w' => ∃ v, e = .returned v ∧ Nt w' v (a * b) ∧ Below w.heap.size w w') := fun W t => by
    refine (kara_nt (na.below t.out) (nb.below t.out) la lb).mono ?_
    rintro e w1 ⟨v, rfl, hv, hb⟩
    exact ⟨v, rfl, hv, After.t t hb⟩
  have HS : Hid (∀ W, After w W → Calls Tryd.prog 90 #[.slice aa (limbs a) ca, .slice ab (limbs b) cb] W fun e w' => ∃ v, e = .returned v ∧ Nt w' v (a * b) ∧ Below w.heap.size w w') := fun W t => by
    refine (school_nt (na.below t.out) (nb.below t.out) (by omega) (by omega)).mono ?_
    rintro e w1 ⟨v, rfl, hv, hb⟩
    exact ⟨v, rfl, hv, After.t t hb⟩
  clear na nb
  have T : After w w := After.refl w
  generalize limbs a = x at *
  generalize limbs b = y at *
  rcases Nat.lt_or_ge x y with hxy | hxy
  all_goals
    go_enter Tryd.func67, Tryd.ntmps67
    go_wp2_with fail
    have T1 := Lib.hid (After.alloc T (.cells #[.int .i64 48, .func (.func 87) #[] #[], .int .i64 14, .func (.func 88) #[] #[], .int .i64 8, .func (.func 89) #[] #[]] 105))
    have hrow := Lib.hid (heap_alloc_new w (.cells #[.int .i64 48, .func (.func 87) #[] #[], .int .i64 14, .func (.func 88) #[] #[], .int .i64 8, .func (.func 89) #[] #[]] 105))
    generalize w.alloc _ = W1 at T1 hrow ⊢
    generalize w.heap.size = R at hrow ⊢
    obtain ⟨m0, hm0, hm1⟩ : ∃ m0, m0 < 48 ∧ (x < y ∧ m0 = x ∨ y ≤ x ∧ m0 = y) := ⟨min x y, by omega, by omega⟩
    go_loopw [12] (fun i wr => ∃ q : Nat, q ≤ 3 ∧ i = .int .i64 q ∧ Hid (Below W1.heap.size W1 wr)) (fun i _ => 3 - (intOf i).toNat)
    case atStart => exact ⟨0, by omega, rfl, Below.refl _ _⟩
    case round =>
      obtain ⟨q, hq, rfl, hbw⟩ := hrel
      have r0 := row_cell hrow.out hbw.out 0 rfl
      have r1 := row_cell hrow.out hbw.out 1 rfl
      have r2 := row_cell hrow.out hbw.out 2 rfl
      have r3 := row_cell hrow.out hbw.out 3 rfl
      have r4 := row_cell hrow.out hbw.out 4 rfl
      have r5 := row_cell hrow.out hbw.out 5 rfl
      obtain rfl | rfl | rfl | rfl : q = 0 ∨ q = 1 ∨ q = 2 ∨ q = 3 := by omega
      · go_wp2_with fail
        go_roundw
        case rel => exact ⟨1, by omega, rfl, After.alloc hbw.out _⟩
        case measure => simp [intOf] <;> omega
      · by_cases hl : m0 < 14
        · go_wp2_with fail
          go_roundw
          case rel => exact ⟨2, by omega, rfl, After.alloc hbw.out _⟩
          case measure => simp [intOf] <;> omega
        · go_wp2_with (go_at_call 88; (with_reducible refine (HT.out _ (After.alloc (After.t T1.out hbw.out) _)).mono ?_); rintro e w8 ⟨v, rfl, hv, hb⟩)
          all_goals
            go_ret
            exact ⟨v, rfl, hv, hb⟩
      · by_cases hl : m0 < 8
        · go_wp2_with fail
          go_roundw
          case rel => exact ⟨3, by omega, rfl, After.alloc hbw.out _⟩
          case measure => simp [intOf] <;> omega
        · go_wp2_with (go_at_call 89; (with_reducible refine (HK.out _ (After.alloc (After.t T1.out hbw.out) _)).mono ?_); rintro e w8 ⟨v, rfl, hv, hb⟩)
          all_goals
            go_ret
            exact ⟨v, rfl, hv, hb⟩
      · go_wp2_with (go_at_call 90; (with_reducible refine (HS.out _ (After.t T1.out hbw.out)).mono ?_); rintro e w8 ⟨v, rfl, hv, hb⟩)
        all_goals
          go_ret
          exact ⟨v, rfl, hv, hb⟩
end Go.Proofs.YtopbfgmpilnghaaDoor
