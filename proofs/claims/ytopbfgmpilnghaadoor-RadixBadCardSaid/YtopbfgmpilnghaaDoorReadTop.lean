/- radix.Read: which natural a text is. -/
import Derived.Test.YtopbfgmpilnghaaDoorRead
set_option linter.unusedVariables false
set_option linter.unusedSimpArgs false
namespace Go.Proofs.YtopbfgmpilnghaaDoor
open Go.RowKit

/-- what radix.Read answers -/
def ReadPost (base : Nat) (l : List Nat) (w : World) (e : Ending) (w' : World) : Prop :=
  Below w.heap.size w w' ∧
  ((∃ (k c : Nat), l[k]? = some c ∧ base ≤ worthOf c ∧ Dig base (l.take k) ∧ e = .returned (.tuple #[.slice none 0 0, .int .i64 (k : Int), .int .i64 50])) ∨
   (l = [] ∧ e = .returned (.tuple #[.slice none 0 0, .int .i64 0, .int .i64 50])) ∨
   (l ≠ [] ∧ Dig base l ∧ ∃ v, e = .returned (.tuple #[v, .int .i64 0, .int .i64 0]) ∧ Nt w' v (dv base l)))

set_option maxRecDepth 100000 in
set_option maxHeartbeats 2000000 in
theorem readTop_base {base : Int} {v : Value} (h : ¬ (2 ≤ base ∧ base ≤ 36)) (w : World) :
    Calls Tryd.prog 25 #[v, .int .i64 base] w fun e w' => e = .returned (.tuple #[.slice none 0 0, .int .i64 0, .int .i64 1]) ∧ w = w' := by
  have hd : decide (2 ≤ base ∧ base ≤ 36) = false := decide_eq_false h
  go_enter Tryd.func25, Tryd.ntmps25
  go_wp2_with fail
  (with_reducible refine (may_any base _).mono ?_)
  rintro e w1 ⟨rfl, rfl⟩
  rw [hd]
  go_wp2_with fail
  refine bodyPost_ret (v := .tuple #[.slice none 0 0, .int .i64 0, .int .i64 1]) (by simp [results, Tryd.f25]) rfl ?_
  exact ⟨rfl, rfl⟩

set_option maxRecDepth 100000 in
set_option maxHeartbeats 4000000 in
theorem readTop_any {base : Nat} {s : ByteArray} (hb : 2 ≤ base) (hb2 : base ≤ 36) (hs : s.size ≤ 100000) (hp : Hid (PFit (base ^ s.size))) (w : World) (i : Int) (hi : i = (base : Int)) :
    Calls Tryd.prog 25 #[.string s, .int .i64 i] w (ReadPost base (bl s) w) := by
  subst hi
  have hmx : s.size ≤ maxLen := by unfold maxLen; omega
  have hd : decide (2 ≤ (base : Int) ∧ (base : Int) ≤ 36) = true := decide_eq_true (by omega)
  go_enter Tryd.func25, Tryd.ntmps25
  go_wp2_with fail
  (with_reducible refine (may_any _ _).mono ?_)
  rintro e w0 ⟨rfl, rfl⟩
  rw [hd]
  clear hd
  go_wp2_with fail
  go_loop [7, 13] (fun _ i => ∃ k : Nat, k ≤ s.size ∧ i = .int .i64 (k : Int) ∧ Hid (Dig base ((bl s).take k))) (fun _ i => s.size - (intOf i).toNat)
  case atStart => exact ⟨0, by omega, rfl, fun c hc => by simp at hc⟩
  case round =>
    obtain ⟨k, hk, rfl, hdg⟩ := hrel
    by_cases hlt : k < s.size
    · have hget := Lib.hid (bl_get hlt)
      have hc := (s[k]'hlt).toNat_lt
      have hwa := Lib.hid (fun W => worth_any (c := (s[k]'hlt).toNat) hc _ rfl W)
      have hsn : Hid (worthOf (s[k]'hlt).toNat < base → Dig base ((bl s).take (k + 1))) := fun h c hcm => by
        rw [bl_take_snoc hlt] at hcm
        rcases List.mem_append.1 hcm with h1 | h1
        · exact hdg.out c h1
        · simp at h1; rw [h1]; exact h
      clear hc
      obtain ⟨x, hx⟩ : ∃ x, worthOf (s[k]'hlt).toNat = x := ⟨_, rfl⟩
      rw [hx] at hwa hsn
      have HX := Lib.hid hx
      clear hx
      by_cases hxb : base ≤ x
      · have h1 : decide (base ≤ x) = true := decide_eq_true hxb
        have h2 : decide ((base : Int) ≤ (x : Int)) = true := decide_eq_true (by omega)
        go_wp2_with (go_at_call 68; (with_reducible refine (hwa.out _).mono ?_); rintro e w' ⟨rfl, rfl⟩)
        refine bodyPost_ret (v := .tuple #[.slice none 0 0, .int .i64 (k : Int), .int .i64 50]) (by simp [results, Tryd.f25]) rfl ?_
        exact ⟨Below.refl _ _, .inl ⟨k, _, hget.out, by rw [HX.out]; exact hxb, hdg.out, rfl⟩⟩
      · have h1 : decide (base ≤ x) = false := decide_eq_false hxb
        have h2 : decide ((base : Int) ≤ (x : Int)) = false := decide_eq_false (by omega)
        go_wp2_with (go_at_call 68; (with_reducible refine (hwa.out _).mono ?_); rintro e w' ⟨rfl, rfl⟩)
        go_round
        case rel => exact ⟨k + 1, by omega, by go_num, hsn.out (by omega)⟩
        case measure => simp [intOf] <;> omega
    · obtain rfl : k = s.size := by omega
      have e : (bl s).take s.size = bl s := List.take_of_length_le (by rw [bl_len]; omega)
      rw [e] at hdg
      clear e hlt
      by_cases h0 : s.size = 0
      · have hnil : Hid (bl s = []) := List.eq_nil_of_length_eq_zero (by rw [bl_len]; exact h0)
        have he : s.toList = [] := by
          rw [Lib.toList_data]
          exact List.eq_nil_of_length_eq_zero (by rw [Array.length_toList]; exact h0)
        have he2 : s.toList.isEmpty = true := by rw [he]; rfl
        clear he
        go_wp2_with fail
        refine bodyPost_ret (v := .tuple #[.slice none 0 0, .int .i64 0, .int .i64 50]) (by simp [results, Tryd.f25]) rfl ?_
        exact ⟨Below.refl _ _, .inr (.inl ⟨hnil.out, rfl⟩)⟩
      · have hne : Hid (bl s ≠ []) := fun h => h0 (by rw [← bl_len, h]; rfl)
        have he2 : s.toList.isEmpty = false := by
          rw [Lib.toList_data]
          cases hq : s.data.toList with
          | nil =>
            have : s.size = 0 := by
              have := congrArg List.length hq
              rw [Array.length_toList] at this
              exact this
            exact absurd this h0
          | cons x l => rfl
        go_wp2_with fail
        (with_reducible refine (powers_any hb hb2 _ _ rfl).mono ?_)
        rintro e w1 ⟨P, rfl, ht1, hb1⟩
        have HB1 := Lib.hid hb1
        have HT1 := Lib.hid ht1
        clear hb1 ht1
        go_wp2_with fail
        (with_reducible refine (read_any hb hb2 s.size s _ (Nat.le_refl _) hs hdg.out HT1.out hp.out).mono ?_)
        rintro e w2 ⟨v, rfl, hv, ht2, hk2⟩
        have HV := Lib.hid hv
        have HB : Hid (Below w0.heap.size w0 w2) := HB1.out.trans hk2.below
        clear hv ht2 hk2
        go_wp2_with fail
        refine bodyPost_ret (v := .tuple #[v, .int .i64 0, .int .i64 0]) (by simp [results, Tryd.f25]) rfl ?_
        exact ⟨HB.out, .inr (.inr ⟨hne.out, hdg.out, v, rfl, HV.out⟩)⟩
end Go.Proofs.YtopbfgmpilnghaaDoor
