/- nat.Low: a natural as a number. -/
import Derived.Test.YtopbfgmpilnghaaDoorBytes
set_option linter.unusedVariables false
set_option linter.unusedSimpArgs false
namespace Go.Proofs.YtopbfgmpilnghaaDoor
open Go.RowKit

theorem or_none (x : Nat) (hx : x < 4294967296) : bits .or .u64 (0 : Int) (x : Int) = (x : Int) := by
  have := bits_or_u64_nat 0 x (by omega) (by omega)
  rw [Nat.zero_or] at this
  exact this
theorem or_next (x y : Nat) (hx : x < 4294967296) (hy : y < 4294967296) : bits .or .u64 (x : Int) ((y : Int) * 4294967296) = ((x + y * 4294967296 : Nat) : Int) := by
  have e : (y : Int) * 4294967296 = ((y * 4294967296 : Nat) : Int) := by omega
  rw [e, bits_or_u64_nat _ _ (by omega) (by omega)]
  have := Nat.two_pow_add_eq_or_of_lt (i := 32) (b := x) (by omega) y
  rw [Nat.or_comm, show y * 4294967296 = 2 ^ 32 * y from by omega, ← this, Nat.add_comm]

set_option maxRecDepth 100000 in
set_option maxHeartbeats 4000000 in
theorem low_any {va : Value} {a : Nat} {w : World} (na : Nt w va a) (ha : a < 18446744073709551616) :
    Calls Tryd.prog 85 #[va] w fun e w' => e = .returned (.tuple #[.int .u64 (a : Int), .bool true]) ∧ Drawn w w' := by
  obtain ⟨aa, ca, fa, rfl, ra, fta, nma, hva⟩ := na.open
  have hl : limbs a ≤ 2 := limbs_le (by simpa using ha)
  generalize limbs a = n at *
  have hc : Hid (∀ j, j < n → ∃ b off, aa = some ⟨b, off, none⟩ ∧ w.cell? ⟨b, off + j, none⟩ = some (.int .u32 (fa j))) := fun j hj => by
    obtain ⟨b, off, e, _, hc⟩ := ra.at (by omega)
    exact ⟨b, off, e, hc j hj⟩
  have HF := Lib.hid fta
  have HV := Lib.hid hva
  clear ra fta nma hva na
  go_enter Tryd.func85, Tryd.ntmps85
  go_wp2_with fail
  go_loopw [4, 12] (fun o i wr => ∃ k : Nat, k ≤ n ∧ i = .int .i64 (k : Int) ∧ o = .int .u64 (nv fa k : Int) ∧ Hid (Drawn w wr)) (fun _ i _ => n - (intOf i).toNat)
  case atStart => exact ⟨0, by omega, rfl, rfl, ⟨0, rfl⟩⟩
  case round =>
    obtain ⟨k, hk, rfl, rfl, hd⟩ := hrel
    by_cases hlt : k < n
    · obtain ⟨b, off, rfl, hcell⟩ := hc.out k hlt
      replace hcell := (hd.out.cell _).trans hcell
      have hf := HF.out k hlt
      have hk2 : k = 0 ∨ k = 1 := by omega
      rcases hk2 with rfl | rfl
      · have ho := or_none (fa 0) hf
        have hs : (nv fa 0 : Int) = 0 := rfl
        have h1 : nv fa 1 = fa 0 := by simp [nv]
        rw [hs]
        simp only [Nat.add_zero] at hcell
        have H1 := Lib.hid h1
        clear h1 hs
        go_wp2_with fail
        go_roundw
        case rel => exact ⟨1, by omega, by first | rfl | go_num, by rw [H1.out], hd.out⟩
        case measure => simp [intOf]; omega
      · have h1 : nv fa 1 = fa 0 := by simp [nv]
        have hf0 := HF.out 0 (by omega)
        have ho := or_next (fa 0) (fa 1) hf0 hf
        have h2 : nv fa 2 = fa 0 + fa 1 * 4294967296 := by simp [nv]
        rw [h1]
        have H2 := Lib.hid h2
        clear h1 h2
        go_wp2_with fail
        go_roundw
        case rel => exact ⟨2, by omega, by first | rfl | go_num, by rw [H2.out]; first | rfl | simp, hd.out⟩
        case measure => simp [intOf]; omega
    · obtain rfl : k = n := by omega
      rw [HV.out]
      go_wp2_with fail
      refine bodyPost_ret (v := .tuple #[.int .u64 (a : Int), .bool true]) (by simp [results, Tryd.f85]) rfl ?_
      exact ⟨rfl, hd.out⟩
end Go.Proofs.YtopbfgmpilnghaaDoor
