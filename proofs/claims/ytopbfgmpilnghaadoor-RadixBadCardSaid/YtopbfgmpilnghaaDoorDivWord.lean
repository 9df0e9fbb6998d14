/- bits.Div32 and div.guess: a limb of a quotient. -/
import Derived.Test.YtopbfgmpilnghaaDoorBits
set_option linter.unusedVariables false
set_option linter.unusedSimpArgs false
namespace Go.Proofs.YtopbfgmpilnghaaDoor
open Go.RowKit

theorem ret_two' {k l : IntKind} {a b c d : Int} (h : a = c) (h' : b = d) : Ending.returned (.tuple #[.int k a, .int l b]) = .returned (.tuple #[.int k c, .int l d]) := by rw [h, h']

set_option maxRecDepth 100000 in
set_option maxHeartbeats 2000000 in
theorem div32_any {h l m : Nat} (hm : h < m) (hl : l < 4294967296) (hm2 : m < 4294967296) (w : World) :
    Calls Tryd.prog 114 #[.int .u32 h, .int .u32 l, .int .u32 m] w fun e w' =>
      e = .returned (.tuple #[.int .u32 ((h * 4294967296 + l) / m : Nat), .int .u32 ((h * 4294967296 + l) % m : Nat)]) ∧ Drawn w w' := by
  have hor := or_limb h l (by omega) hl
  have hq : (h * 4294967296 + l) / m < 4294967296 := by
    rw [Nat.div_lt_iff_lt_mul (by omega)]
    have : (h + 1) * 4294967296 ≤ m * 4294967296 := Nat.mul_le_mul_right _ hm
    rw [Nat.mul_comm 4294967296 m]
    omega
  have hr : (h * 4294967296 + l) % m < m := Nat.mod_lt _ (by omega)
  generalize h * 4294967296 + l = X at *
  have e0 : IntKind.u64.wrap ((X / m : Nat) : Int) = ((X / m : Nat) : Int) := by
    generalize X / m = q at *
    simp [IntKind.wrap, IntKind.bits, IntKind.signed]; omega
  have e1 := (congrArg IntKind.u64.wrap (Int.natCast_ediv X m).symm).trans e0
  go_enter Tryd.func114, Tryd.ntmps114
  go_wp2_with fail
  go_quiet (fail)
  go_wp2_with fail
  refine bodyPost_ret (results_tmp2 rfl _ _ _) rfl ⟨?_, _, rfl⟩
  have e3 : (X : Int) / (m : Int) % 4294967296 = ((X / m : Nat) : Int) := by
    rw [← Int.natCast_ediv]; exact Int.emod_eq_of_lt (Int.natCast_nonneg _) (Int.ofNat_lt.2 hq)
  exact ret_two' e3 (Int.natCast_emod X m).symm
end Go.Proofs.YtopbfgmpilnghaaDoor
