/- The reference's Same, Digit, Of (layer 5). -/
import Derived.Test.YtopbfgmpilnghaaDoorCount
set_option linter.unusedVariables false
set_option linter.unusedSimpArgs false
namespace Go.Proofs.YtopbfgmpilnghaaDoor
open Go.RowKit

theorem Nt.eq_of {n : Nat} {f g : Nat → Nat} (hf : Fits n f) (hg : Fits n g) {k : Nat} (hk : k < n) (h : f k ≠ g k) : nv f n ≠ nv g n := fun e => h (nv_inj hf hg e hk)

set_option maxRecDepth 100000 in
set_option maxHeartbeats 4000000 in
theorem same_any {va vb : Value} {a b : Nat} {w : World} (na : Nt w va a) (nb : Nt w vb b) (la : limbs a ≤ 1073741824) (lb : limbs b ≤ 1073741824) :
    Calls Tryd.prog 27 #[va, vb] w fun e w' => e = .returned (.bool (decide (a = b))) ∧ Drawn w w' := by
  obtain ⟨aa, ca, fa, rfl, ra, fta, nma, hva⟩ := na.open
  obtain ⟨ab, cb, fb, rfl, rb, ftb, nmb, hvb⟩ := nb.open
  by_cases hl : limbs a = limbs b
  · rw [← hl] at rb ftb nmb hvb ⊢
    have hc : Hid (∀ j, j < limbs a → ∃ b1 o1 b2 o2, aa = some ⟨b1, o1, none⟩ ∧ ab = some ⟨b2, o2, none⟩ ∧ w.cell? ⟨b1, o1 + j, none⟩ = some (.int .u32 (fa j)) ∧ w.cell? ⟨b2, o2 + j, none⟩ = some (.int .u32 (fb j))) := fun j hj => by
      obtain ⟨b1, o1, e1, _, c1⟩ := ra.at (by omega)
      obtain ⟨b2, o2, e2, _, c2⟩ := rb.at (by omega)
      exact ⟨b1, o1, b2, o2, e1, e2, c1 j hj, c2 j hj⟩
    have HA : Hid (Fits (limbs a) fa ∧ nv fa (limbs a) = a) := ⟨fta, hva⟩
    have HB : Hid (Fits (limbs a) fb ∧ nv fb (limbs a) = b) := ⟨ftb, hvb⟩
    clear ra rb fta ftb nma nmb hva hvb na nb hl lb
    generalize limbs a = n at *
    have hnn : (((n : Nat) : Int) != (n : Int)) = false := by simp
    go_enter Tryd.func27, Tryd.ntmps27
    go_wp2_with fail
    go_loopw [5] (fun i wr => ∃ k : Nat, k ≤ n ∧ i = .int .i64 (k : Int) ∧ Hid (∀ j, j < k → fa j = fb j) ∧ Hid (Drawn w wr)) (fun i _ => n - (intOf i).toNat)
    case atStart => exact ⟨0, by omega, rfl, fun j hj => absurd hj (by omega), ⟨0, rfl⟩⟩
    case round =>
      obtain ⟨k, hk, rfl, heq, hd⟩ := hrel
      by_cases hlt : k < n
      · obtain ⟨b1, o1, b2, o2, rfl, rfl, c1, c2⟩ := hc.out k hlt
        replace c1 := (hd.out.cell _).trans c1
        replace c2 := (hd.out.cell _).trans c2
        have hx := HA.out.1 k hlt
        have hy := HB.out.1 k hlt
        by_cases he : fa k = fb k
        · have HE := Lib.hid he
          rw [he] at c1 hx
          have h1 : ((fb k : Int) != (fb k : Int)) = false := by simp
          clear he
          go_wp2_with fail
          go_quiet (fail)
          go_wp2_with fail
          go_roundw
          case rel => exact ⟨k + 1, by omega, by go_num, fun j hj => (by
            by_cases e : j = k
            · rw [e]; exact HE.out
            · exact heq.out j (by omega)), by first | exact hd.out.n _ | exact hd.out⟩
          case measure => simp [intOf] <;> omega
        · have hab : Hid (decide (a = b) = false) := decide_eq_false (by
            have := Nt.eq_of HA.out.1 HB.out.1 hlt he
            rw [HA.out.2, HB.out.2] at this
            exact this)
          have h1 : ((fa k : Int) != (fb k : Int)) = true := by simp; omega
          have h2 : ((fa k : Int) == (fb k : Int)) = false := by simp; omega
          have h3 : (fa k == fb k) = false := by simp; omega
          have h4 : (fa k != fb k) = true := by simp; omega
          clear he
          go_wp2_with fail
          go_quiet (fail)
          go_wp2_with fail
          go_ret
          exact ⟨by rw [hab.out]; rfl, by first | exact hd.out.n _ | exact hd.out⟩
      · obtain rfl : k = n := by omega
        have hab : Hid (decide (a = b) = true) := decide_eq_true (by
          rw [← HA.out.2, ← HB.out.2]
          exact nv_congr (fun j hj => heq.out j hj))
        go_wp2_with fail
        go_ret
        exact ⟨by rw [hab.out]; rfl, hd.out⟩
  · have hab : Hid (decide (a = b) = false) := decide_eq_false (fun e => hl (by rw [e]))
    have h1 : (((limbs a : Nat) : Int) != ((limbs b : Nat) : Int)) = true := by simp; omega
    have h2 : (((limbs a : Nat) : Int) == ((limbs b : Nat) : Int)) = false := by simp; omega
    have h3 : (limbs a == limbs b) = false := by simp; omega
    clear ra rb fta ftb nma nmb hva hvb na nb hl
    generalize limbs a = n at *
    generalize limbs b = m at *
    go_enter Tryd.func27, Tryd.ntmps27
    go_wp2_with fail
    go_ret
    exact ⟨by rw [hab.out]; rfl, ⟨0, rfl⟩⟩

def digOf (c : Nat) : Nat := if 48 ≤ c ∧ c ≤ 57 then c - 48 else if 97 ≤ c ∧ c ≤ 122 then c - 87 else 99
theorem dig_worth {base c : Nat} (hb : base ≤ 36) : worthOf c < base ↔ digOf c < base := by
  unfold worthOf digOf
  by_cases h1 : 48 ≤ c ∧ c ≤ 57
  · rw [if_pos h1, if_pos h1]
  · rw [if_neg h1, if_neg h1]
    by_cases h2 : 97 ≤ c ∧ c ≤ 122
    · rw [if_pos h2, if_pos h2]
    · rw [if_neg h2, if_neg h2]; omega
theorem dig_worth_eq {base c : Nat} (hb : base ≤ 36) (h : worthOf c < base) : worthOf c = digOf c := by
  unfold worthOf at *
  unfold digOf
  by_cases h1 : 48 ≤ c ∧ c ≤ 57
  · rw [if_pos h1, if_pos h1]
  · rw [if_neg h1] at h ⊢
    rw [if_neg h1]
    by_cases h2 : 97 ≤ c ∧ c ≤ 122
    · rw [if_pos h2, if_pos h2]
    · rw [if_neg h2] at h; omega

set_option maxRecDepth 100000 in
set_option maxHeartbeats 2000000 in
theorem digit_any {c : Nat} (hc : c < 256) (i : Int) (hi : i = (c : Int)) (w : World) : Calls Tryd.prog 31 #[.int .u8 i] w fun e w' => e = .returned (.int .i64 (digOf c)) ∧ w' = w := by
  subst hi
  unfold digOf
  by_cases h1 : 48 ≤ c
  · have hd1 : decide (48 ≤ c) = true := decide_eq_true h1
    by_cases h2 : c ≤ 57
    · have hd2 : decide (c ≤ 57) = true := decide_eq_true h2
      rw [if_pos ⟨h1, h2⟩]
      go_enter Tryd.func31, Tryd.ntmps31
      go_wp2_with fail
      all_goals
        go_ret
        exact ⟨congrArg (fun z => Ending.returned (.int .i64 z)) (by omega), rfl⟩
    · have hd2 : decide (c ≤ 57) = false := decide_eq_false h2
      rw [if_neg (by omega)]
      by_cases h3 : 97 ≤ c
      · have hd3 : decide (97 ≤ c) = true := decide_eq_true h3
        by_cases h4 : c ≤ 122
        · have hd4 : decide (c ≤ 122) = true := decide_eq_true h4
          rw [if_pos ⟨h3, h4⟩]
          go_enter Tryd.func31, Tryd.ntmps31
          go_wp2_with fail
          all_goals
            go_ret
            exact ⟨congrArg (fun z => Ending.returned (.int .i64 z)) (by omega), rfl⟩
        · have hd4 : decide (c ≤ 122) = false := decide_eq_false h4
          rw [if_neg (by omega)]
          go_enter Tryd.func31, Tryd.ntmps31
          go_wp2_with fail
          all_goals
            go_ret
            exact ⟨rfl, rfl⟩
      · have hd3 : decide (97 ≤ c) = false := decide_eq_false h3
        rw [if_neg (by omega)]
        go_enter Tryd.func31, Tryd.ntmps31
        go_wp2_with fail
        all_goals
          go_ret
          exact ⟨rfl, rfl⟩
  · have hd1 : decide (48 ≤ c) = false := decide_eq_false h1
    have hd3 : decide (97 ≤ c) = false := decide_eq_false (by omega)
    rw [if_neg (by omega), if_neg (by omega)]
    go_enter Tryd.func31, Tryd.ntmps31
    go_wp2_with fail
    all_goals
      go_ret
      exact ⟨rfl, rfl⟩

/-- a base made of any number -/
def baseOf (n : Nat) : Nat := 2 + n % 35
theorem baseOf_ok (n : Nat) : 2 ≤ baseOf n ∧ baseOf n ≤ 36 := by unfold baseOf; omega
set_option maxRecDepth 100000 in
theorem base_any {n : Nat} (hn : n < 256) (w : World) : Calls Tryd.prog 28 #[.int .u8 (n : Int)] w fun e w' => e = .returned (.int .i64 (baseOf n : Int)) ∧ w' = w := by
  unfold baseOf
  go_enter Tryd.func28, Tryd.ntmps28
  go_wp2_with fail
  go_ret
  exact ⟨congrArg (fun z => Ending.returned (.int .i64 z)) (by omega), rfl⟩
end Go.Proofs.YtopbfgmpilnghaaDoor
