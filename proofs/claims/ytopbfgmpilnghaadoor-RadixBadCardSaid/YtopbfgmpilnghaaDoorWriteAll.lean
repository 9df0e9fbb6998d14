/- radix.write at all depths. -/
import Derived.Test.YtopbfgmpilnghaaDoorWrite
set_option linter.unusedVariables false
set_option linter.unusedSimpArgs false
namespace Go.Proofs.YtopbfgmpilnghaaDoor
open Go.RowKit

/-- what is written of a -/
def wr1 (base m a : Nat) (first : Bool) : List Nat := if first then bare (pad base m a) else pad base m a
theorem wr1_len (base m a : Nat) (first : Bool) : (wr1 base m a first).length ≤ m := by
  unfold wr1
  split
  · rw [bare_drop, List.length_drop, pad_len]; omega
  · rw [pad_len]; omega
theorem bytesV_app (l r : List Nat) : bytesV (l ++ r) = bytesV l ++ bytesV r := by simp [bytesV]

theorem wr1_both {base m a : Nat} {first : Bool} (hb : 2 ≤ base) (hb2 : base ≤ 36) (ha : a < base ^ (m + m)) (h : first = false ∨ a / base ^ m ≠ 0) :
    wr1 base (m + m) a first = wr1 base m (a / base ^ m) first ++ wr1 base m (a % base ^ m) false := by
  unfold wr1
  cases first with
  | false => simp [pad_add]
  | true =>
    rcases h with h | h
    · cases h
    · simp only [if_true]
      rw [bare_pad_high hb hb2 ha h]
      rfl
theorem wr1_low {base m a : Nat} (hm : 0 < m) (h : a / base ^ m = 0) (hb : 2 ≤ base) : wr1 base (m + m) a true = wr1 base m (a % base ^ m) true := by
  have hlt : a < base ^ m := by
    rcases Nat.lt_or_ge a (base ^ m) with h1 | h1
    · exact h1
    · have := Nat.div_pos h1 (Nat.pow_pos (by omega)); omega
  unfold wr1
  simp only [if_true]
  rw [bare_pad_low hlt hm, Nat.mod_eq_of_lt hlt]

set_option maxRecDepth 100000 in
set_option maxHeartbeats 8000000 in
theorem write_any {base B P n g cap : Nat} {vs : List Value} (hb : 2 ≤ base) (hb2 : base ≤ 36) (hn : n ≤ 1000000) (K : Nat) : ∀ (w : World) (v0 va : Value) (a : Nat) (xs : List Value) (first : Bool) (kk : Int), kk = (K : Int) - 1 → K ≤ n →
    Tab base B P w n g cap vs → RowP isU8 B 5 w v0 xs → Nt w va a → a < pw base K → limbs (pw base K) ≤ 100000000 → xs.length + 5 * 2 ^ K ≤ 1000000 →
    Calls Tryd.prog 63 #[v0, va, .int .i64 (base : Int), .int .i64 kk, .func (.func 84) #[] #[.pointer (some ⟨P, 0, none⟩)], .bool first] w fun e w' =>
      ∃ v, e = .returned v ∧ RowP isU8 B 5 w' v (xs ++ bytesV (wr1 base (5 * 2 ^ K) a first)) ∧ KeptP isU8 B w w' := by
  induction K with
  | zero =>
    intro w v0 va a xs first kk hkk hK ht hx na ha hl hlen
    subst hkk
    exact write_low hb hb2 hx na ha ht.bound (show xs.length ≤ 1000000 by omega)
  | succ K ih =>
    intro w v0 va a xs first kk hkk hK ht hx na ha hl hlen
    have hkk' : kk = (K : Int) := by omega
    subst hkk'
    clear hkk
    obtain ⟨m, hm⟩ : ∃ m, 5 * 2 ^ K = m := ⟨_, rfl⟩
    have hmm : 5 * 2 ^ (K + 1) = m + m := by rw [Nat.pow_succ]; omega
    have hm0 : 0 < m := by have : 0 < 2 ^ K := Nat.pow_pos (by omega); omega
    have hpk : pw base K = base ^ m := by unfold pw; rw [hm]
    have hpk1 : pw base (K + 1) = base ^ (m + m) := by unfold pw; rw [hmm]
    have hpp := pw_succ base K
    rw [hmm] at hlen ⊢
    have hp0 : pw base K ≠ 0 := by rw [hpk]; exact Nat.ne_of_gt (Nat.pow_pos (by omega))
    have hhi : a / pw base K < pw base K := by rw [Nat.div_lt_iff_lt_mul (by omega), ← hpp]; exact ha
    have hlo : a % pw base K < pw base K := Nat.mod_lt _ (by omega)
    have hle : pw base K ≤ pw base (K + 1) := by rw [hpp]; exact Nat.le_mul_of_pos_left _ (by omega)
    have hlK := Nat.le_trans (limbs_mono hle) hl
    have hla := Nat.le_trans (limbs_mono (Nat.le_of_lt ha)) hl
    rw [hpk1] at ha
    have HT := Lib.hid ht
    have HX := Lib.hid hx
    have IH := Lib.hid ih
    have HLEN := Lib.hid hlen
    have HA := Lib.hid ha
    have HPK := Lib.hid hpk
    clear ht hx ih hlen ha hpk hpk1 hpp hle hl hmm
    have IHs : Hid (∀ (w : World) (v0 va : Value) (a : Nat) (xs : List Value) (first : Bool) (kk : Int), kk = (K : Int) - 1 → Tab base B P w n g cap vs → RowP isU8 B 5 w v0 xs → Nt w va a → a < pw base K → xs.length + m ≤ 1000000 →
      Calls Tryd.prog 63 #[v0, va, .int .i64 (base : Int), .int .i64 kk, .func (.func 84) #[] #[.pointer (some ⟨P, 0, none⟩)], .bool first] w fun e w' =>
      ∃ v, e = .returned v ∧ RowP isU8 B 5 w' v (xs ++ bytesV (wr1 base m a first)) ∧ KeptP isU8 B w w') := fun w v0 va a xs first kk hkk ht hx na ha hl => by
        have := IH.out w v0 va a xs first kk hkk (by omega) ht hx na ha hlK (by rw [hm]; exact hl)
        rw [hm] at this
        exact this
    clear IH hm
    go_enter Tryd.func63, Tryd.ntmps63
    go_wp2_with fail
    (with_reducible refine (power_have HT (show K < n by omega) hn _ rfl).mono ?_)
    rintro e w1 ⟨vp, rfl, hvp, rfl⟩
    go_wp2_with fail
    (with_reducible refine (divmod_nt na hvp hla hlK hp0).mono ?_)
    rintro e w2 ⟨vh, vl, rfl, hvh, hvl, hb2'⟩
    have HT2 := Lib.hid (HT.out.after hb2')
    have HX2 := Lib.hid (HX.out.after hb2')
    have HK2 := Lib.hid (KeptP.after (p := isU8) hb2' HT.out.bound)
    obtain ⟨ah, ch, fh, rfl, -⟩ := hvh.open
    have HVH := Lib.hid hvh
    have HVL := Lib.hid hvl
    clear hvp hb2' HT HX hvh hvl na
    by_cases hz : a / pw base K = 0
    · have hlz : limbs (a / pw base K) = 0 := by rw [hz]; rfl
      rw [hlz] at HVH ⊢
      cases first with
      | true =>
        have hw := Lib.hid (wr1_low hm0 (by rw [← HPK.out]; exact hz) hb)
        clear hlz
        go_wp2_with fail
        (with_reducible refine (IHs.out _ _ _ _ xs true _ rfl HT2.out HX2.out HVL.out hlo (by have := HLEN.out; omega)).mono ?_)
        rintro e w3 ⟨v3, rfl, hr3, hk3⟩
        have HR3 := Lib.hid hr3
        have HK3 := Lib.hid (HK2.out.trans hk3)
        clear hr3 hk3
        go_wp2_with fail
        go_ret
        exact ⟨_, rfl, by rw [hw.out, ← HPK.out]; exact HR3.out, HK3.out⟩
      | false =>
        have hw := Lib.hid (wr1_both (first := false) hb hb2 HA.out (.inl rfl))
        clear hlz
        go_wp2_with fail
        (with_reducible refine (IHs.out _ _ _ _ xs false _ rfl HT2.out HX2.out HVH.out hhi (by have := HLEN.out; omega)).mono ?_)
        rintro e w3 ⟨v3, rfl, hr3, hk3⟩
        have HR3 := Lib.hid hr3
        have HT3 := Lib.hid (HT2.out.keptP hk3)
        have HL3 := Lib.hid (HVL.out.keptP hk3)
        have HK3 := Lib.hid (HK2.out.trans hk3)
        have hlen3 : (xs ++ bytesV (wr1 base m (a / pw base K) false)).length + m ≤ 1000000 := by
          have h1 := wr1_len base m (a / pw base K) false
          have := HLEN.out
          rw [List.length_append, bytesV_len]
          omega
        clear hr3 hk3 HT2 HX2 HVL HK2
        go_wp2_with fail
        (with_reducible refine (IHs.out _ _ _ _ _ false _ rfl HT3.out HR3.out HL3.out hlo hlen3).mono ?_)
        rintro e w4 ⟨v4, rfl, hr4, hk4⟩
        have HR4 := Lib.hid hr4
        have HK4 := Lib.hid (HK3.out.trans hk4)
        clear hr4 hk4 hlen3
        go_wp2_with fail
        go_ret
        exact ⟨_, rfl, by rw [hw.out, ← HPK.out, bytesV_app, ← List.append_assoc]; exact HR4.out, HK4.out⟩
    · have hnz : a / base ^ m ≠ 0 := by rw [← HPK.out]; exact hz
      have hlp := limbs_pos hz
      have hlz : (((limbs (a / pw base K) : Nat) : Int) == 0) = false := by simp; omega
      have hlz2 : (limbs (a / pw base K) == 0) = false := by simp; omega
      cases first with
      | true =>
        have hw := Lib.hid (wr1_both (first := true) hb hb2 HA.out (.inr hnz))
        go_wp2_with fail
        (with_reducible refine (IHs.out _ _ _ _ xs true _ rfl HT2.out HX2.out HVH.out hhi (by have := HLEN.out; omega)).mono ?_)
        rintro e w3 ⟨v3, rfl, hr3, hk3⟩
        have HR3 := Lib.hid hr3
        have HT3 := Lib.hid (HT2.out.keptP hk3)
        have HL3 := Lib.hid (HVL.out.keptP hk3)
        have HK3 := Lib.hid (HK2.out.trans hk3)
        have hlen3 : (xs ++ bytesV (wr1 base m (a / pw base K) true)).length + m ≤ 1000000 := by
          have h1 := wr1_len base m (a / pw base K) true
          have := HLEN.out
          rw [List.length_append, bytesV_len]
          omega
        clear hr3 hk3 HT2 HX2 HVL HK2
        go_wp2_with fail
        (with_reducible refine (IHs.out _ _ _ _ _ false _ rfl HT3.out HR3.out HL3.out hlo hlen3).mono ?_)
        rintro e w4 ⟨v4, rfl, hr4, hk4⟩
        have HR4 := Lib.hid hr4
        have HK4 := Lib.hid (HK3.out.trans hk4)
        clear hr4 hk4 hlen3
        go_wp2_with fail
        go_ret
        exact ⟨_, rfl, by rw [hw.out, ← HPK.out, bytesV_app, ← List.append_assoc]; exact HR4.out, HK4.out⟩
      | false =>
        have hw := Lib.hid (wr1_both (first := false) hb hb2 HA.out (.inl rfl))
        go_wp2_with fail
        (with_reducible refine (IHs.out _ _ _ _ xs false _ rfl HT2.out HX2.out HVH.out hhi (by have := HLEN.out; omega)).mono ?_)
        rintro e w3 ⟨v3, rfl, hr3, hk3⟩
        have HR3 := Lib.hid hr3
        have HT3 := Lib.hid (HT2.out.keptP hk3)
        have HL3 := Lib.hid (HVL.out.keptP hk3)
        have HK3 := Lib.hid (HK2.out.trans hk3)
        have hlen3 : (xs ++ bytesV (wr1 base m (a / pw base K) false)).length + m ≤ 1000000 := by
          have h1 := wr1_len base m (a / pw base K) false
          have := HLEN.out
          rw [List.length_append, bytesV_len]
          omega
        clear hr3 hk3 HT2 HX2 HVL HK2
        go_wp2_with fail
        (with_reducible refine (IHs.out _ _ _ _ _ false _ rfl HT3.out HR3.out HL3.out hlo hlen3).mono ?_)
        rintro e w4 ⟨v4, rfl, hr4, hk4⟩
        have HR4 := Lib.hid hr4
        have HK4 := Lib.hid (HK3.out.trans hk4)
        clear hr4 hk4 hlen3
        go_wp2_with fail
        go_ret
        exact ⟨_, rfl, by rw [hw.out, ← HPK.out, bytesV_app, ← List.append_assoc]; exact HR4.out, HK4.out⟩
end Go.Proofs.YtopbfgmpilnghaaDoor
