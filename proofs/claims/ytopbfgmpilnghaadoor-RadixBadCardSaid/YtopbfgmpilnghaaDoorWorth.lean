/- radix.worth: what a byte is worth as a digit. -/
import Derived.Test.YtopbfgmpilnghaaDoorOf
set_option linter.unusedVariables false
set_option linter.unusedSimpArgs false
namespace Go.Proofs.YtopbfgmpilnghaaDoor
open Go.RowKit

def worthOf (c : Nat) : Nat := if 48 ≤ c ∧ c ≤ 57 then c - 48 else if 97 ≤ c ∧ c ≤ 122 then c - 87 else 36

set_option maxRecDepth 100000 in
set_option maxHeartbeats 2000000 in
theorem worth_any {c : Nat} (hc : c < 256) (i : Int) (hi : i = (c : Int)) (w : World) : Calls Tryd.prog 68 #[.int .u8 i] w fun e w' => e = .returned (.int .i64 (worthOf c)) ∧ w' = w := by
  subst hi
  unfold worthOf
  by_cases h1 : 48 ≤ c
  · have hd1 : decide (48 ≤ c) = true := decide_eq_true h1
    by_cases h2 : c ≤ 57
    · have hd2 : decide (c ≤ 57) = true := decide_eq_true h2
      rw [if_pos ⟨h1, h2⟩]
      go_enter Tryd.func68, Tryd.ntmps68
      go_wp2_with fail
      all_goals
        go_ret
        exact ⟨congrArg (fun z => Ending.returned (.int .i64 z)) (by omega), rfl⟩
    · have hd2 : decide (c ≤ 57) = false := decide_eq_false h2
      rw [if_neg (by omega)]
      by_cases h3 : 97 ≤ c
      · have hd3 : decide (97 ≤ c) = true := decide_eq_true h3
        by_cases h4 : c ≤ 122
        · have hd4 : decide (c ≤ 122) = true := decide_eq_true h4
          rw [if_pos ⟨h3, h4⟩]
          go_enter Tryd.func68, Tryd.ntmps68
          go_wp2_with fail
          all_goals
            go_ret
            exact ⟨congrArg (fun z => Ending.returned (.int .i64 z)) (by omega), rfl⟩
        · have hd4 : decide (c ≤ 122) = false := decide_eq_false h4
          rw [if_neg (by omega)]
          go_enter Tryd.func68, Tryd.ntmps68
          go_wp2_with fail
          all_goals
            go_ret
            exact ⟨rfl, rfl⟩
      · have hd3 : decide (97 ≤ c) = false := decide_eq_false h3
        rw [if_neg (by omega)]
        go_enter Tryd.func68, Tryd.ntmps68
        go_wp2_with fail
        all_goals
          go_ret
          exact ⟨rfl, rfl⟩
  · have hd1 : decide (48 ≤ c) = false := decide_eq_false h1
    have hd3 : decide (97 ≤ c) = false := decide_eq_false (by omega)
    rw [if_neg (by omega), if_neg (by omega)]
    go_enter Tryd.func68, Tryd.ntmps68
    go_wp2_with fail
    all_goals
      go_ret
      exact ⟨rfl, rfl⟩
end Go.Proofs.YtopbfgmpilnghaaDoor
