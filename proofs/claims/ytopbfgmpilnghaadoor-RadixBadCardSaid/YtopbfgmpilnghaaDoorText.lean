/- radix.Text: the digits of a natural. -/
import Derived.Test.YtopbfgmpilnghaaDoorWriteAll
import Derived.Laws.IdiomStrings
set_option linter.unusedVariables false
set_option linter.unusedSimpArgs false
namespace Go.Proofs.YtopbfgmpilnghaaDoor
open Go.RowKit

/-- bytes as a string -/
def str (l : List Nat) : ByteArray := ⟨(l.map UInt8.ofNat).toArray⟩

theorem bare_len_le (l : List Nat) : (bare l).length ≤ l.length := by rw [bare_drop, List.length_drop]; omega
/-- the digits of a natural -/
def digs (b a : Nat) : List Nat := bare (pad b (a + 1) a)
theorem lt_pow_self' {b a : Nat} (hb : 2 ≤ b) : a < b ^ (a + 1) := Nat.lt_of_lt_of_le (Nat.lt_of_lt_of_le (Nat.lt_succ_self a) (Nat.le_of_lt Nat.lt_two_pow_self)) (Nat.pow_le_pow_left hb _)
theorem digs_pad {b m a : Nat} (hb : 2 ≤ b) (hm : a < b ^ m) (h0 : 0 < m) : bare (pad b m a) = digs b a := by
  unfold digs
  rcases Nat.le_total m (a + 1) with h | h
  · obtain ⟨d, hd⟩ : ∃ d, a + 1 = d + m := ⟨a + 1 - m, by omega⟩
    rw [hd, bare_pad_low hm h0]
  · obtain ⟨d, rfl⟩ : ∃ d, m = d + (a + 1) := ⟨m - (a + 1), by omega⟩
    rw [bare_pad_low (lt_pow_self' hb) (by omega)]

theorem pow_limbs {base a j : Nat} (hb : 2 ≤ base) (h : pw base j ≤ a) : 5 * 2 ^ j < 32 * limbs a := by
  have h1 : 2 ^ (5 * 2 ^ j) ≤ pw base j := Nat.pow_le_pow_left hb _
  have h2 := lt_limbs a
  rw [pow32] at h2
  exact (Nat.pow_lt_pow_iff_right (by omega)).1 (Nat.lt_of_le_of_lt (Nat.le_trans h1 h) h2)

/-- the powers that a reaches may be squared -/
def PowFit (base a : Nat) : Prop := ∀ i, pw base i ≤ a → MulFit (pw base i) (pw base i)
theorem PowFit.of {base a : Nat} (h : limbs a ≤ 47) : PowFit base a := fun i hi => by
  have := limbs_mono hi
  exact ⟨by omega, by omega, .inl (by omega)⟩

theorem pw_limbs {base a j : Nat} (hb2 : base ≤ 36) (h : ∀ i, i < j → pw base i ≤ a) : limbs (pw base j) ≤ 2 * limbs a + 1 := by
  rcases j with _ | j
  · have h5 : base ^ 5 ≤ 36 ^ 5 := Nat.pow_le_pow_left hb2 5
    have := limbs_small (a := base ^ 5) (by omega)
    have e : pw base 0 = base ^ 5 := rfl
    rw [e]
    omega
  · rw [pw_succ]
    have h1 := limbs_mul (pw base j) (pw base j)
    have h2 := limbs_mono (h j (by omega))
    omega

theorem cmp_le {a b : Nat} (h : a ≤ b) : ∃ c : Int, cmpI a b = c ∧ c ≤ 0 := by
  refine ⟨_, rfl, ?_⟩
  unfold cmpI
  split
  · omega
  · rw [if_pos (by omega)]; omega
theorem cmp_gt {a b : Nat} (h : b < a) : cmpI a b = 1 := cmp_more h

set_option maxRecDepth 100000 in
theorem str_back {w : World} {g cap : Nat} {e : TypeId} {l : List Nat} {B : Nat} (h : RowP isU8 B e w (.slice (some ⟨g, 0, none⟩) (bytesV l).length cap) (bytesV l)) (hl : ∀ x ∈ l, x < 256) (he : Tryd.prog.underlying 5 = some (.int .u8)) :
    (convert 49 9 (.slice (some ⟨g, 0, none⟩) l.length cap)).run Tryd.prog w = .ok (.string (str l)) w := by
  rcases h with ⟨h, _⟩ | ⟨g', cap', cur, h, hb, hg, hn, hm, hs, ht, ha⟩
  · cases h
  · cases h
    have := run_convert_bytes_back (P := Tryd.prog) w 49 9 5 ⟨g, 0, none⟩ cap (l.map UInt8.ofNat) Tryd.underlying49 Tryd.underlying5 Tryd.underlying9 (fun j hj => by
      rw [Addr.add_lit, Nat.zero_add]
      rw [List.length_map] at hj
      have hq : (bytesV l)[j]? = some (.int .u8 ((l[j] : Nat) : Int)) := by
        unfold bytesV
        rw [List.getElem?_map, List.getElem?_eq_getElem hj]
        rfl
      rw [← ht, List.getElem?_take] at hq
      simp only [World.cell?, hg]
      split at hq
      · rw [Array.getElem?_toList] at hq
        rw [hq]
        have hlt := hl l[j] (List.getElem_mem hj)
        simp only [List.getElem_map]
        have e2 : (UInt8.ofNat l[j]).toNat = l[j] := by rw [UInt8.toNat_ofNat', Nat.mod_eq_of_lt hlt]
        rw [e2]
        rfl
      · cases hq)
    rw [List.length_map] at this
    exact this

theorem bare_mem {l : List Nat} {x : Nat} (h : x ∈ bare l) : x ∈ l := by rw [bare_drop] at h; exact List.mem_of_mem_drop h
theorem pad_mem {b : Nat} (hb : 2 ≤ b) (hb2 : b ≤ 36) : ∀ {m a x : Nat}, x ∈ pad b m a → ∃ d, d < b ∧ x = dgb d
  | m + 1, a, x, h => by
    simp only [pad] at h
    rcases List.mem_append.1 h with h | h
    · exact pad_mem hb hb2 h
    · simp at h
      exact ⟨a % b, Nat.mod_lt _ (by omega), h⟩
theorem digs_mem {b a x : Nat} (hb : 2 ≤ b) (hb2 : b ≤ 36) (h : x ∈ digs b a) : ∃ d, d < b ∧ x = dgb d := pad_mem hb hb2 (bare_mem h)
theorem digs_byte {b a x : Nat} (hb : 2 ≤ b) (hb2 : b ≤ 36) (h : x ∈ digs b a) : x < 256 := by
  obtain ⟨d, hd, rfl⟩ := digs_mem hb hb2 h
  exact (dgb_lt (by omega)).1
theorem digs_ne {b a : Nat} : digs b a ≠ [] := bare_ne (by simp [pad])

set_option maxRecDepth 100000 in
set_option maxHeartbeats 2000000 in
theorem text_bad {va : Value} {base : Int} (h : ¬ (2 ≤ base ∧ base ≤ 36)) (w : World) :
    Calls Tryd.prog 21 #[va, .int .i64 base] w fun e w' => e = .returned (.tuple #[.string ⟨#[]⟩, .int .i64 1]) ∧ w = w' := by
  have hd : decide (2 ≤ base ∧ base ≤ 36) = false := decide_eq_false h
  go_enter Tryd.func21, Tryd.ntmps21
  go_wp2_with fail
  (with_reducible refine (may_any base _).mono ?_)
  rintro e w1 ⟨rfl, rfl⟩
  rw [hd]
  go_wp2_with fail
  refine bodyPost_ret (v := .tuple #[.string ⟨#[]⟩, .int .i64 1]) (by simp [results, Tryd.f21]) rfl ?_
  exact ⟨rfl, rfl⟩

set_option maxRecDepth 100000 in
set_option maxHeartbeats 8000000 in
theorem text_any {va : Value} {base a : Nat} {w : World} (hb : 2 ≤ base) (hb2 : base ≤ 36) (na : Nt w va a) (la : limbs a ≤ 10000) (hp : Hid (PowFit base a)) (i : Int) (hi : i = (base : Int)) :
    Calls Tryd.prog 21 #[va, .int .i64 i] w fun e w' => e = .returned (.tuple #[.string (str (digs base a)), .int .i64 0]) ∧ Below w.heap.size w w' := by
  subst hi
  have hd : decide (2 ≤ (base : Int) ∧ (base : Int) ≤ 36) = true := decide_eq_true (by omega)
  go_enter Tryd.func21, Tryd.ntmps21
  go_wp2_with fail
  (with_reducible refine (may_any _ _).mono ?_)
  rintro e w0 ⟨rfl, rfl⟩
  rw [hd]
  clear hd
  go_wp2_with fail
  (with_reducible refine (powers_any hb hb2 _ _ rfl).mono ?_)
  rintro e w1 ⟨P, rfl, ht1, hb1⟩
  have HT := Lib.hid ht1
  have HA := Lib.hid (na.below hb1)
  have HB1 := Lib.hid hb1
  have hbs := hb1.size
  clear ht1 na hb1
  go_wp2_with fail
  go_loopw [7] (fun kk wr => ∃ j : Nat, j ≤ 64000 ∧ kk = .int .i64 ((j : Int) - 1) ∧ (∀ i, i < j → pw base i ≤ a) ∧ Hid (Tb base w0.heap.size P wr) ∧ Hid (Kept w0.heap.size w1 wr)) (fun kk _ => (64000 - intOf kk).toNat)
  case atStart => exact ⟨0, by omega, by first | rfl | go_num, fun i hi => absurd hi (by omega), HT, Kept.refl _ _⟩
  case round =>
    clear HT
    obtain ⟨j, hj, rfl, hlow, ht, hk⟩ := hrel
    have hlim := pw_limbs hb2 hlow
    have HLOW := Lib.hid hlow
    have hfit : Hid (∀ i, i < j → MulFit (pw base i) (pw base i)) := fun i hi => hp.out i (hlow i hi)
    clear hlow
    have hjj : (j : Int) - 1 + 1 = (j : Int) := by omega
    go_wp2_with fail
    (with_reducible refine (power_any (show j ≤ 100000 by omega) ht hfit _ (by omega)).mono ?_)
    rintro e w2 ⟨vp, rfl, hvp, htab, hk2⟩
    have HTAB := Lib.hid htab
    have HK := Lib.hid (hk.out.trans hk2)
    have HA2 := Lib.hid (HA.out.kept HK.out)
    clear htab hk hk2 ht
    go_wp2_with fail
    (with_reducible refine (cmp_nt hvp HA2.out (by omega) (by omega)).mono ?_)
    rintro e w3 ⟨rfl, hd3⟩
    have HK3 := Lib.hid (HK.out.trans (Kept.after hd3.below (by have := HK.out.size; omega)))
    have HTAB3 : Hid (∃ n g cap vs, Tab base w0.heap.size P w3 n g cap vs ∧ j < n) := by
      obtain ⟨n, g, cap, vs, ht, hn⟩ := HTAB.out
      exact ⟨n, g, cap, vs, ht.after hd3.below, hn⟩
    clear HTAB HK HA2 hd3 hvp
    by_cases hle : pw base j ≤ a
    · obtain ⟨c, hc, hc0⟩ := cmp_le hle
      rw [hc]
      have hjb := pow_limbs hb hle
      have hj2 : j < 2 ^ j := Nat.lt_two_pow_self
      have HLE := Lib.hid hle
      clear hc hle
      have hj3 : j < 64000 := by omega
      clear hjb hj2 hlim
      go_wp2_with fail
      go_roundw
      case rel =>
        refine ⟨j + 1, by omega, by go_num, fun i hi => ?_, ?_, HK3.out⟩
        · by_cases e : i = j
          · rw [e]; exact HLE.out
          · exact HLOW.out i (by omega)
        · obtain ⟨n, g, cap, vs, ht, _⟩ := HTAB3.out
          exact ⟨n, g, cap, vs, ht⟩
      case measure => simp [intOf] <;> omega
    · rw [cmp_gt (by omega)]
      have hlt : a < pw base j := by omega
      have hj5 : 5 * 2 ^ j ≤ 1000000 := by
        rcases j with _ | j
        · omega
        · have := pow_limbs hb (HLOW.out j (by omega))
          rw [Nat.pow_succ]
          omega
      obtain ⟨n, g, cap, vs, ht3, hn3⟩ := HTAB3.out
      have hnf := ht3.few
      have HA3 := Lib.hid (HA.out.kept HK3.out)
      have HT3 := Lib.hid ht3
      clear HTAB3 hle ht3
      go_wp2_with fail
      (with_reducible refine (write_any hb hb2 hnf j _ _ _ a [] true _ (by omega) (by omega) HT3.out (RowP.nil _ _ _ _) HA3.out hlt (by omega) (by simpa using hj5)).mono ?_)
      rintro e w4 ⟨v4, rfl, hr4, hk4⟩
      have hdg : wr1 base (5 * 2 ^ j) a true = digs base a := digs_pad hb hlt (by have : 0 < 2 ^ j := Nat.pow_pos (by omega); omega)
      rw [List.nil_append, hdg] at hr4
      have HB : Hid (Below w0.heap.size w0 w4) := (HB1.out.trans HK3.out.below).trans hk4.below
      have hne : (bytesV (digs base a)).length ≠ 0 := by
        rw [bytesV_len]
        intro h
        exact digs_ne (List.eq_nil_of_length_eq_zero h)
      have hcv : ∃ g4 c4, v4 = .slice (some ⟨g4, 0, none⟩) (digs base a).length c4 ∧ (convert 49 9 (.slice (some ⟨g4, 0, none⟩) (digs base a).length c4)).run Tryd.prog w4 = .ok (.string (str (digs base a))) w4 := by
        have hr5 := hr4
        rcases hr4 with ⟨_, h⟩ | ⟨g4, c4, cur, rfl, _⟩
        · rw [h] at hne; exact absurd rfl hne
        · exact ⟨g4, c4, by rw [bytesV_len], str_back hr5 (fun x hx => digs_byte hb hb2 hx) Tryd.underlying5⟩
      obtain ⟨g4, c4, rfl, hconv⟩ := hcv
      clear hr4 hk4 hne hdg HT3 HA3 hlim
      go_wp2_with fail
      refine bodyPost_ret (v := .tuple #[.string (str (digs base a)), .int .i64 0]) (by simp [results, Tryd.f21]) rfl ?_
      exact ⟨rfl, HB.out⟩
end Go.Proofs.YtopbfgmpilnghaaDoor
