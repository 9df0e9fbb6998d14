/- RadixBad: the walk. -/
import Derived.Test.YtopbfgmpilnghaaDoorHead
set_option linter.unusedVariables false
set_option linter.unusedSimpArgs false
namespace Go.Proofs.YtopbfgmpilnghaaDoor
open Go.RowKit

theorem pow36_le {base n m : Nat} (hb2 : base ≤ 36) (h : 6 * n < 32 * m) : limbs (base ^ n) ≤ m := by
  have h1 : base ^ n ≤ 64 ^ n := Nat.pow_le_pow_left (by omega) n
  have h2 : (64 : Nat) ^ n = 2 ^ (6 * n) := by rw [show (64 : Nat) = 2 ^ 6 from rfl, ← Nat.pow_mul]
  have h3 : (2 : Nat) ^ (6 * n) < 2 ^ (32 * m) := Nat.pow_lt_pow_right (by omega) h
  exact limbs_big (Nat.lt_of_le_of_lt (Nat.le_trans h1 (Nat.le_of_eq h2)) h3)
theorem pow36 {base n : Nat} (hb2 : base ≤ 36) (hn : n ≤ 200) : limbs (base ^ n) ≤ 94 := pow36_le hb2 (by omega)

/-- the first bytes of a text -/
def cut (s : ByteArray) (n : Nat) : ByteArray := s.extract 0 (min s.size n)
theorem cut_size (s : ByteArray) (n : Nat) : (cut s n).size = min s.size n := extract_low_size s _ (Nat.min_le_left _ _)

set_option maxRecDepth 100000 in
set_option maxHeartbeats 8000000 in
theorem bad_walk {s : ByteArray} {n : Nat} (hs : s.size ≤ maxLen) (hn : n < 256) (w : World) :
    Calls Tryd.prog 11 #[.string s, .int .u8 (n : Int)] w fun e w' => e = .returned (.bool true) ∧ Below w.heap.size w w' := by
  unfold maxLen at hs
  obtain ⟨hb, hb2⟩ := baseOf_ok n
  have hcs := cut_size s 200
  have HCS := Lib.hid hcs
  clear hcs
  go_enter Tryd.func11, Tryd.ntmps11
  go_wp2_with fail
  (with_reducible refine (head_any _).mono ?_)
  rintro e w1 ⟨rfl, hb1⟩
  have T1 := Lib.hid hb1
  clear hb1
  go_wp2_with fail
  (with_reducible refine (base_any hn _).mono ?_)
  rintro e w2 ⟨rfl, rfl⟩
  generalize baseOf n = base at *
  have hmm : (min ((s.size : Nat) : Int) 200).toNat = min s.size 200 := by omega
  go_wp2_with fail
  rw [show s.extract 0 (min s.size 200) = cut s 200 from rfl]
  have hS2 : (cut s 200).size ≤ 200 := by have := HCS.out; omega
  clear HCS hmm
  generalize cut s 200 = S at *
  have hpf : Hid (PFit (base ^ S.size)) := PFit.of (pow36 hb2 hS2)
  (with_reducible refine (readTop_any hb hb2 (by omega) hpf _ _ rfl).mono ?_)
  rintro e w3 ⟨hb3, h⟩
  have T3 := Lib.hid (After.t T1.out hb3)
  have hdg : Hid (∀ c, c < 256 → (worthOf c < base ↔ digOf c < base)) := fun c _ => dig_worth hb2
  have hmx : S.size ≤ maxLen := by unfold maxLen; omega
  clear hb3 T1 hpf
  rcases h with ⟨k, c, hk, hc, hdig, rfl⟩ | ⟨h, rfl⟩ | ⟨hne, hdig, v, rfl, hv⟩
  · have hkl : k < S.size := by have := (List.getElem?_eq_some_iff.1 hk).1; rw [bl_len] at this; exact this
    have hck : Hid (base ≤ digOf (S[k]'hkl).toNat) := by
      rw [bl_get hkl] at hk
      have h1 := Option.some.inj hk
      unfold Hid
      rw [h1]
      have hlt := bl_lt (List.mem_of_getElem? (bl_get hkl))
      rw [h1] at hlt
      have := (hdg.out c hlt)
      omega
    have HDIG := Lib.hid hdig
    clear hk hc hdig
    have he2 : S.toList.isEmpty = false := by
      rw [Lib.toList_data]
      cases hq : S.data.toList with
      | nil =>
        have : S.size = 0 := by
          have := congrArg List.length hq
          rw [Array.length_toList] at this
          exact this
        omega
      | cons x l => rfl
    have hk0 : ((k : Int) == (S.size : Int)) = false := by simp; omega
    have hk1 : (k == S.size) = false := by simp; omega
    have hk2 : decide ((k : Int) < 0) = false := decide_eq_false (by omega)
    have hk3 : decide (S.size < k) = false := decide_eq_false (by omega)
    go_wp2_with fail
    go_loopw [11] (fun i wr => ∃ j : Nat, j ≤ k ∧ i = .int .i64 (j : Int) ∧ Hid (After w wr)) (fun i _ => k - (intOf i).toNat)
    case atStart => exact ⟨0, by omega, rfl, T3⟩
    case round =>
      clear T3
      obtain ⟨j, hj, rfl, T⟩ := hrel
      by_cases hlt : j < k
      · have hjs : j < S.size := by omega
        have hcj := (S[j]'hjs).toNat_lt
        have hd := Lib.hid (fun W => digit_any (c := (S[j]'hjs).toNat) hcj _ rfl W)
        have hsm : digOf (S[j]'hjs).toNat < base := by
          refine (hdg.out _ hcj).1 (HDIG.out _ (List.mem_of_getElem? (i := j) ?_))
          rw [List.getElem?_take, if_pos hlt]
          exact bl_get hjs
        clear hcj
        generalize digOf (S[j]'hjs).toNat = x at *
        have h1 : decide (base ≤ x) = false := decide_eq_false (by omega)
        have h2 : decide ((base : Int) ≤ (x : Int)) = false := decide_eq_false (by omega)
        go_wp2_with (go_at_call 31; (with_reducible refine (hd.out _).mono ?_); rintro e w' ⟨rfl, rfl⟩)
        go_roundw
        case rel => exact ⟨j + 1, by omega, by go_num, T.out⟩
        case measure => simp [intOf] <;> omega
      · obtain rfl : j = k := by omega
        have hcj := (S[j]'hkl).toNat_lt
        have hd := Lib.hid (fun W => digit_any (c := (S[j]'hkl).toNat) hcj _ rfl W)
        have hck2 := hck.out
        clear hcj hck
        generalize digOf (S[j]'hkl).toNat = x at *
        have h1 : decide (base ≤ x) = true := decide_eq_true (by omega)
        have h2 : decide ((base : Int) ≤ (x : Int)) = true := decide_eq_true (by omega)
        go_wp2_with (go_at_call 31; (with_reducible refine (hd.out _).mono ?_); rintro e w' ⟨rfl, rfl⟩)
        go_ret
        exact ⟨rfl, T.out⟩
  · have h0 : S.size = 0 := by rw [← bl_len, h]; rfl
    have he2 : S.toList.isEmpty = true := by
      rw [Lib.toList_data]
      have : S.data.toList = [] := List.eq_nil_of_length_eq_zero (by rw [Array.length_toList]; exact h0)
      rw [this]
      rfl
    clear h
    go_wp2_with fail
    go_loop [11] (fun i => i = .int .i64 0) (fun _ => 0)
    case atStart => rfl
    case round =>
      subst hrel
      go_wp2_with fail
      go_ret
      exact ⟨rfl, T3.out⟩
  · have HDIG := Lib.hid hdig
    have he2 : S.toList.isEmpty = false := by
      rw [Lib.toList_data]
      cases hq : S.data.toList with
      | nil => exact absurd (show bl S = [] by unfold bl; rw [hq]; rfl) hne
      | cons x l => rfl
    obtain ⟨av, cv, fv, rfl, -⟩ := hv.open
    clear hdig hne hv
    generalize limbs (dv base (bl S)) = lv at *
    go_wp2_with fail
    go_loopw [10] (fun i wr => ∃ j : Nat, j ≤ S.size ∧ i = .int .i64 (j : Int) ∧ Hid (After w wr)) (fun i _ => S.size - (intOf i).toNat)
    case atStart => exact ⟨0, by omega, rfl, T3⟩
    case round =>
      clear T3
      obtain ⟨j, hj, rfl, T⟩ := hrel
      by_cases hjs : j < S.size
      · have hcj := (S[j]'hjs).toNat_lt
        have hd := Lib.hid (fun W => digit_any (c := (S[j]'hjs).toNat) hcj _ rfl W)
        have hsm : digOf (S[j]'hjs).toNat < base := (hdg.out _ hcj).1 (HDIG.out _ (List.mem_of_getElem? (i := j) (bl_get hjs)))
        clear hcj
        generalize digOf (S[j]'hjs).toNat = x at *
        have h1 : decide (base ≤ x) = false := decide_eq_false (by omega)
        have h2 : decide ((base : Int) ≤ (x : Int)) = false := decide_eq_false (by omega)
        go_wp2_with (go_at_call 31; (with_reducible refine (hd.out _).mono ?_); rintro e w' ⟨rfl, rfl⟩)
        go_roundw
        case rel => exact ⟨j + 1, by omega, by go_num, T.out⟩
        case measure => simp [intOf] <;> omega
      · obtain rfl : j = S.size := by omega
        go_wp2_with fail
        go_ret
        exact ⟨rfl, T.out⟩
end Go.Proofs.YtopbfgmpilnghaaDoor
