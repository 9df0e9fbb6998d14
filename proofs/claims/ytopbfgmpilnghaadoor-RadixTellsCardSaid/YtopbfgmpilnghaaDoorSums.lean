/- nat.Cmp, nat.Add, nat.Sub: of naturals. nat.Cmp and nat.Sub: of naturals. nat.Sub, nat.Of, nat.Right. -/
import Derived.Test.YtopbfgmpilnghaaDoorWalks
set_option linter.unusedVariables false
set_option linter.unusedSimpArgs false
namespace Go.Proofs.YtopbfgmpilnghaaDoor
open Go.RowKit

/-! ### the plain law -/
theorem nv_lim {n : Nat} {f : Nat → Nat} {k : Nat} (hk : n ≤ k) : nv (lim n f) k = nv f n := by
  rw [nv_high_zero (m := n) hk (fun j h1 _ => by unfold lim; rw [if_neg (by omega)])]
  exact nv_congr (fun j hj => by unfold lim; rw [if_pos hj])

theorem add_law (A B : Nat → Nat) (k : Nat) : nv (og addStep A B) k + cy addStep A B k * 4294967296 ^ k = nv A k + nv B k := by
  induction k with
  | zero => simp [nv, cy]
  | succ k ih =>
    simp only [nv]
    have h1 : og addStep A B k + cy addStep A B (k + 1) * 4294967296 = A k + B k + cy addStep A B k := by
      simp only [og, cy, addStep]; omega
    rw [Nat.pow_succ]
    generalize 4294967296 ^ k = P at *
    generalize cy addStep A B (k + 1) = c' at *
    have h2 := congrArg (· * P) h1
    simp only [Nat.add_mul] at h2
    rw [Nat.mul_comm P 4294967296, ← Nat.mul_assoc]
    omega

theorem og_eq (st : Nat → Nat → Nat → Nat × Nat) (A B : Nat → Nat) (k : Nat) : og st A B k = (st (A k) (B k) (cy st A B k)).1 := rfl
theorem cy_succ (st : Nat → Nat → Nat → Nat × Nat) (A B : Nat → Nat) (k : Nat) : cy st A B (k + 1) = (st (A k) (B k) (cy st A B k)).2 := rfl

theorem sub_one (a b c : Nat) (ha : a < 4294967296) (hb : b < 4294967296) (hc : c ≤ 1) : (subStep a b c).1 + b + c = a + (subStep a b c).2 * 4294967296 := by
  simp only [subStep, borrow]
  split <;> omega

theorem sub_law (A B : Nat → Nat) (hA : ∀ i, A i < 4294967296) (hB : ∀ i, B i < 4294967296) (k : Nat) : nv (og subStep A B) k + nv B k = nv A k + cy subStep A B k * 4294967296 ^ k := by
  induction k with
  | zero => simp [nv, cy]
  | succ k ih =>
    simp only [nv]
    have hc := cy_le sub_ok hA hB k
    have ha := hA k
    have hb := hB k
    have h1 : og subStep A B k + B k + cy subStep A B k = A k + cy subStep A B (k + 1) * 4294967296 := by
      rw [og_eq, cy_succ]
      exact sub_one _ _ _ ha hb hc
    clear ha hb hc hA hB
    rw [Nat.pow_succ]
    generalize 4294967296 ^ k = P at *
    generalize cy subStep A B (k + 1) = c' at *
    have h2 := congrArg (· * P) h1
    simp only [Nat.add_mul] at h2
    rw [Nat.mul_comm P 4294967296, ← Nat.mul_assoc]
    omega

theorem og_fits {st : Nat → Nat → Nat → Nat × Nat} (hst : StepOk st) {A B : Nat → Nat} (hA : ∀ i, A i < 4294967296) (hB : ∀ i, B i < 4294967296) (k : Nat) : Fits k (og st A B) :=
  fun j _ => (hst _ _ _ (hA j) (hB j) (cy_le hst hA hB j)).1

theorem nv_zero (f : Nat → Nat) : nv f 0 = 0 := rfl

theorem add_top {na nb : Nat} {fa fb : Nat → Nat} (hfa : Fits na fa) (hfb : Fits nb fb) : nv (og addStep (lim na fa) (lim nb fb)) (max na nb + 1) = nv fa na + nv fb nb := by
  have h := add_law (lim na fa) (lim nb fb) (max na nb + 1)
  rw [nv_lim (by omega), nv_lim (by omega)] at h
  have hc : cy addStep (lim na fa) (lim nb fb) (max na nb + 1) = 0 := by
    have h0 := cy_le add_ok (lim_lt hfa) (lim_lt hfb) (max na nb)
    simp only [cy, addStep]
    have e1 : lim na fa (max na nb) = 0 := by unfold lim; rw [if_neg (by omega)]
    have e2 : lim nb fb (max na nb) = 0 := by unfold lim; rw [if_neg (by omega)]
    rw [e1, e2]; omega
  rw [hc] at h
  omega

theorem sub_top {na nb : Nat} {fa fb : Nat → Nat} (hfa : Fits na fa) (hfb : Fits nb fb) (hle : nb ≤ na) (h : nv fb nb ≤ nv fa na) : nv (og subStep (lim na fa) (lim nb fb)) na = nv fa na - nv fb nb := by
  have h1 := sub_law (lim na fa) (lim nb fb) (lim_lt hfa) (lim_lt hfb) na
  rw [nv_lim (Nat.le_refl _), nv_lim hle] at h1
  have h2 := nv_lt (og_fits sub_ok (lim_lt hfa) (lim_lt hfb) na)
  have h3 := nv_lt hfa
  have h4 := cy_le sub_ok (lim_lt hfa) (lim_lt hfb) na
  have h5 : cy subStep (lim na fa) (lim nb fb) na = 0 ∨ cy subStep (lim na fa) (lim nb fb) na = 1 := by omega
  rcases h5 with h5 | h5 <;> rw [h5] at h1 <;> omega

/-- which of two naturals is the lesser one -/
def cmpI (a b : Nat) : Int := if a < b then -1 else if a = b then 0 else 1

theorem trim_fits {n : Nat} {f : Nat → Nat} (h : Fits n f) : Fits (trim f n) f := h.mono (trim_le f n)

theorem nt_of_trim {w : World} {v : Value} {n : Nat} {f : Nat → Nat} (h : Rd .u32 w v (trim f n) f) (hf : Fits n f) : Nt w v (nv f n) := ⟨trim f n, f, h, trim_fits hf, trim_norm f n, trim_nv f n⟩

/-- the number of limbs is the value's -/
theorem Nt.open {w : World} {v : Value} {a : Nat} (h : Nt w v a) : ∃ ao cap f, v = .slice ao (limbs a) cap ∧ Rd .u32 w v (limbs a) f ∧ Fits (limbs a) f ∧ Norm (limbs a) f ∧ nv f (limbs a) = a := by
  obtain ⟨n, f, hr, hf, hn, rfl⟩ := h
  rw [limbs_nv hf hn]
  obtain ⟨ao, cap, hv, _⟩ := hr
  exact ⟨ao, cap, f, hv, ⟨ao, cap, hv, ‹_›⟩, hf, hn, rfl⟩

set_option maxHeartbeats 1000000 in
/-- nat.Add: the sum. -/
theorem add_nt {va vb : Value} {a b : Nat} {w : World} (ha : Nt w va a) (hb : Nt w vb b) (la : limbs a ≤ 536870912) (lb : limbs b ≤ 536870912) :
    Calls Tryd.prog 74 #[va, vb] w fun e w' => ∃ v, e = .returned v ∧ Nt w' v (a + b) ∧ Below w.heap.size w w' := by
  obtain ⟨aa, ca, fa, rfl, ra, fta, na, va⟩ := ha.open
  obtain ⟨ab, cb, fb, rfl, rb, ftb, nb, vb⟩ := hb.open
  have HA := Lib.hid va
  have HB := Lib.hid vb
  clear ha hb va vb
  generalize limbs a = n at *
  generalize limbs b = m at *
  by_cases hmn : m ≤ n
  · have hall := all_any do_add add_ok (k := n + 1) (by omega) ra rb fta ftb
    rw [show ((n + 1 : Nat) : Int) = (n : Int) + 1 from by omega] at hall
    have H := Lib.hid hall
    have ht : nv (og addStep (lim n fa) (lim m fb)) (n + 1) = nv fa n + nv fb m := by have := add_top fta ftb; rwa [Nat.max_eq_left hmn] at this
    have HT := Lib.hid ht
    clear ra rb hall ht
    go_enter Tryd.func74, Tryd.ntmps74
    go_wp2_with (go_at_call 98; refine H.out.mono ?_; rintro e w' ⟨v, rfl, hv, hb⟩)
    go_ret
    exact ⟨v, rfl, by rw [← HA.out, ← HB.out, ← HT.out]; exact nt_of_trim hv (og_fits add_ok (lim_lt fta) (lim_lt ftb) _), hb⟩
  · have hall := all_any do_add add_ok (k := m + 1) (by omega) ra rb fta ftb
    rw [show ((m + 1 : Nat) : Int) = (m : Int) + 1 from by omega] at hall
    have H := Lib.hid hall
    have ht : nv (og addStep (lim n fa) (lim m fb)) (m + 1) = nv fa n + nv fb m := by have := add_top fta ftb; rwa [Nat.max_eq_right (by omega)] at this
    have HT := Lib.hid ht
    clear ra rb hall ht
    go_enter Tryd.func74, Tryd.ntmps74
    go_wp2_with (go_at_call 98; refine H.out.mono ?_; rintro e w' ⟨v, rfl, hv, hb⟩)
    go_ret
    exact ⟨v, rfl, by rw [← HA.out, ← HB.out, ← HT.out]; exact nt_of_trim hv (og_fits add_ok (lim_lt fta) (lim_lt ftb) _), hb⟩
end Go.Proofs.YtopbfgmpilnghaaDoor

namespace Go.Proofs.YtopbfgmpilnghaaDoor
open Go.RowKit

theorem nv_split (f : Nat → Nat) (k : Nat) : ∀ n, k ≤ n → ∃ h, nv f n = nv f k + h * 4294967296 ^ k ∧ ∀ g : Nat → Nat, (∀ j, k ≤ j → j < n → f j = g j) → nv g n = nv g k + h * 4294967296 ^ k := by
  intro n
  induction n with
  | zero =>
    intro h
    obtain rfl : k = 0 := by omega
    exact ⟨0, by simp, fun g _ => by simp [nv]⟩
  | succ n ih =>
    intro hk
    by_cases e : k = n + 1
    · subst e; exact ⟨0, by simp, fun g _ => by simp⟩
    · obtain ⟨h, h1, h2⟩ := ih (by omega)
      obtain ⟨d, rfl⟩ : ∃ d, n = k + d := ⟨n - k, by omega⟩
      have e2 : ∀ x, x * 4294967296 ^ (k + d) = x * 4294967296 ^ d * 4294967296 ^ k := fun x => by rw [Nat.pow_add, Nat.mul_assoc, Nat.mul_comm (4294967296 ^ k)]
      refine ⟨h + f (k + d) * 4294967296 ^ d, ?_, fun g hg => ?_⟩
      · simp only [nv]; rw [h1, e2, Nat.add_mul]; omega
      · simp only [nv]; rw [h2 g (fun j a b => hg j a (by omega)), ← hg (k + d) (by omega) (by omega), e2, Nat.add_mul]; omega

/-- the first limb from above that differs decides -/
theorem nv_less {f g : Nat → Nat} {n k : Nat} (hf : Fits n f) (hk : k < n) (h : ∀ j, k + 1 ≤ j → j < n → f j = g j) (hlt : f k < g k) : nv f n < nv g n := by
  obtain ⟨h0, h1, h2⟩ := nv_split f (k + 1) n (by omega)
  rw [h1, h2 g h]
  have h3 := nv_lt (hf.mono (show k ≤ n by omega))
  simp only [nv]
  have h4 : (f k + 1) * 4294967296 ^ k ≤ g k * 4294967296 ^ k := Nat.mul_le_mul_right _ hlt
  rw [Nat.add_mul] at h4
  omega

theorem cmp_less {a b : Nat} (h : a < b) : cmpI a b = -1 := by unfold cmpI; rw [if_pos h]
theorem cmp_more {a b : Nat} (h : b < a) : cmpI a b = 1 := by unfold cmpI; rw [if_neg (by omega), if_neg (by omega)]
theorem cmp_same (a : Nat) : cmpI a a = 0 := by unfold cmpI; rw [if_neg (by omega), if_pos rfl]

theorem less_of_limbs {a b : Nat} (h : limbs a < limbs b) : a < b := by
  apply Classical.byContradiction
  intro hn
  have := limbs_mono (show b ≤ a by omega)
  omega

theorem ret_i {k : IntKind} {a b : Int} (h : a = b) : Ending.returned (.int k a) = .returned (.int k b) := by rw [h]

set_option maxRecDepth 100000 in
set_option maxHeartbeats 1000000 in
theorem cmp_row {ba oa bb ob n ca cb : Nat} {fa fb : Nat → Nat} {w : World} (hn : n ≤ 1073741824) (h0 : 0 < n)
    (ha : Hid (∀ j, j < n → w.cell? ⟨ba, oa + j, none⟩ = some (.int .u32 (fa j)))) (hb : Hid (∀ j, j < n → w.cell? ⟨bb, ob + j, none⟩ = some (.int .u32 (fb j)))) (hfa : Hid (Fits n fa)) (hfb : Hid (Fits n fb)) :
    Calls Tryd.prog 47 #[.slice (some ⟨ba, oa, none⟩) n ca, .slice (some ⟨bb, ob, none⟩) n cb] w fun e w' => e = .returned (.int .i64 (cmpI (nv fa n) (nv fb n))) ∧ Drawn w w' := by
  go_enter Tryd.func47, Tryd.ntmps47
  go_wp2
  go_loopw [5] (fun i wr => ∃ k : Nat, k ≤ n ∧ i = .int .i64 ((k : Int) - 1) ∧ Hid (∀ j, k ≤ j → j < n → fa j = fb j) ∧ Drawn w wr) (fun i _ => (intOf i + 1).toNat)
  case atStart => exact ⟨n, Nat.le_refl _, rfl, fun j h1 h2 => by omega, Drawn.refl _⟩
  case round =>
    obtain ⟨k, hk, rfl, hsame, hd⟩ := hrel
    have HD := Lib.hid hd
    have hheap := hd.heap
    by_cases hk0 : k = 0
    · subst hk0
      clear hheap hd
      go_wp2
      go_ret
      refine ⟨ret_i ?_, HD.out⟩
      rw [nv_congr (fun j hj => hsame.out j (by omega) hj), cmp_same]
    · have c1 : wr.cell? ⟨ba, oa + (k - 1), none⟩ = _ := (World.cell?_of_block (w := w) (by rw [hheap])).trans (ha.out (k - 1) (by omega))
      have c2 : wr.cell? ⟨bb, ob + (k - 1), none⟩ = _ := (World.cell?_of_block (w := w) (by rw [hheap])).trans (hb.out (k - 1) (by omega))
      clear hheap hd
      have t : Hid (∀ j, k - 1 + 1 ≤ j → j < n → fa j = fb j) := fun j a b => hsame.out j (by omega) b
      by_cases hlt : fa (k - 1) < fb (k - 1)
      · go_wp2
        go_quiet (fail)
        go_wp2
        go_ret
        exact ⟨ret_i (cmp_less (nv_less hfa.out (by omega) t.out hlt)).symm, by repeat (first | exact HD.out | refine Drawn.n ?_ _ | refine Drawn.d ?_)⟩
      · by_cases hgt : fb (k - 1) < fa (k - 1)
        · go_wp2
          go_quiet (fail)
          go_wp2
          go_quiet (fail)
          go_wp2
          go_ret
          exact ⟨ret_i (cmp_more (nv_less hfb.out (by omega) (fun j a b => (t.out j a b).symm) hgt)).symm, by repeat (first | exact HD.out | refine Drawn.n ?_ _ | refine Drawn.d ?_)⟩
        · go_wp2
          go_quiet (fail)
          go_wp2
          go_quiet (fail)
          go_wp2
          go_roundw
          case rel => exact ⟨k - 1, by omega, by go_num, fun j h1 h2 => by
              by_cases e : j = k - 1
              · subst e; omega
              · exact hsame.out j (by omega) h2, by repeat (first | exact HD.out | refine Drawn.n ?_ _ | refine Drawn.d ?_)⟩
          case measure => simp [intOf]; omega

set_option maxRecDepth 100000 in
set_option maxHeartbeats 1000000 in
theorem cmp_short {aa ab : Option Addr} {n m ca cb : Nat} {w : World} (hn : n ≤ 1073741824) (hm : m ≤ 1073741824) (h : n ≠ m) :
    Calls Tryd.prog 47 #[.slice aa n ca, .slice ab m cb] w fun e w' => e = .returned (.int .i64 (if n < m then -1 else 1)) ∧ Drawn w w' := by
  by_cases hlt : n < m
  · rw [if_pos hlt]
    go_enter Tryd.func47, Tryd.ntmps47
    go_wp2
    go_ret
    exact ⟨rfl, Drawn.refl _⟩
  · rw [if_neg hlt]
    have hgt : m < n := by omega
    go_enter Tryd.func47, Tryd.ntmps47
    go_wp2
    all_goals
      go_ret
      exact ⟨ret_i (by omega), Drawn.refl _⟩

set_option maxRecDepth 100000 in
theorem cmp_none {aa ab : Option Addr} {ca cb : Nat} {w : World} :
    Calls Tryd.prog 47 #[.slice aa 0 ca, .slice ab 0 cb] w fun e w' => e = .returned (.int .i64 0) ∧ Drawn w w' := by
  go_enter Tryd.func47, Tryd.ntmps47
  go_wp2
  go_loop [5] (fun i => i = .int .i64 (-1)) (fun i => (intOf i).toNat)
  case atStart => rfl
  case round =>
    subst hrel
    go_wp2
    go_ret
    exact ⟨rfl, Drawn.refl _⟩

/-- nat.Cmp: which of two naturals is the lesser one. -/
theorem cmp_nt {va vb : Value} {a b : Nat} {w : World} (ha : Nt w va a) (hb : Nt w vb b) (la : limbs a ≤ 1073741824) (lb : limbs b ≤ 1073741824) :
    Calls Tryd.prog 47 #[va, vb] w fun e w' => e = .returned (.int .i64 (cmpI a b)) ∧ Drawn w w' := by
  obtain ⟨aa, ca, fa, rfl, ra, fta, na, va⟩ := ha.open
  obtain ⟨ab, cb, fb, rfl, rb, ftb, nb, vb⟩ := hb.open
  by_cases h : limbs a = limbs b
  · by_cases h0 : limbs a = 0
    · have h1 : limbs b = 0 := by omega
      rw [h0] at va
      rw [h1] at vb
      obtain rfl : a = 0 := va.symm
      obtain rfl : b = 0 := vb.symm
      exact cmp_none
    · obtain ⟨ba, oa, rfl, lt1, hca⟩ := ra.at (by omega)
      obtain ⟨bb, ob, rfl, lt2, hcb⟩ := rb.at (by omega)
      rw [← h] at ftb vb hcb ⊢
      have := cmp_row (ca := ca) (cb := cb) la (by omega) hca hcb fta ftb
      rw [va, vb] at this
      exact this
  · have := cmp_short (aa := aa) (ab := ab) (ca := ca) (cb := cb) (w := w) la lb h
    refine this.mono fun e w' ⟨he, hd⟩ => ⟨?_, hd⟩
    rw [he]
    by_cases hlt : limbs a < limbs b
    · rw [if_pos hlt, cmp_less (less_of_limbs hlt)]
    · rw [if_neg hlt, cmp_more (less_of_limbs (by omega))]
end Go.Proofs.YtopbfgmpilnghaaDoor

namespace Go.Proofs.YtopbfgmpilnghaaDoor
open Go.RowKit

theorem Nt.zero (w : World) (ao : Option Addr) (cap : Nat) (h : cap ≤ maxLen) : Nt w (.slice ao 0 cap) 0 :=
  ⟨0, fun _ => 0, ⟨ao, cap, rfl, Nat.zero_le _, h, fun h => absurd h (Nat.lt_irrefl _)⟩, fun _ h => absurd h (Nat.not_lt_zero _), fun h => absurd h (Nat.lt_irrefl _), rfl⟩
theorem Nt.nil (w : World) : Nt w (.slice none 0 0) 0 := Nt.zero w none 0 (Nat.zero_le _)

set_option maxHeartbeats 1000000 in
/-- nat.Sub: the difference, if it is not below 0. -/
theorem sub_yes {va vb : Value} {a b : Nat} {w : World} (ha : Nt w va a) (hb : Nt w vb b) (la : limbs a ≤ 536870912) (h : b ≤ a) :
    Calls Tryd.prog 76 #[va, vb] w fun e w' => ∃ v, e = .returned (.tuple #[v, .bool true]) ∧ Nt w' v (a - b) ∧ Below w.heap.size w w' := by
  have lb := limbs_mono h
  have hcmp := cmp_nt ha hb (by omega) (by omega)
  have hc : 0 ≤ cmpI a b := by unfold cmpI; rw [if_neg (by omega)]; split <;> omega
  generalize cmpI a b = c at *
  obtain ⟨aa, ca, fa, rfl, ra, fta, na, va⟩ := ha.open
  obtain ⟨ab, cb, fb, rfl, rb, ftb, nb, vb⟩ := hb.open
  have ht : nv (og subStep (lim (limbs a) fa) (lim (limbs b) fb)) (limbs a) = a - b := by rw [sub_top fta ftb lb (by omega), va, vb]
  have HT := Lib.hid ht
  have HC := Lib.hid hcmp
  clear ha hb va vb ht hcmp
  generalize limbs a = n at *
  generalize limbs b = m at *
  have hra := Lib.hid (show ∀ w', Drawn w w' → Rd .u32 w' (.slice aa n ca) n fa from fun w' hd => ra.below hd.below)
  have hrb := Lib.hid (show ∀ w', Drawn w w' → Rd .u32 w' (.slice ab m cb) m fb from fun w' hd => rb.below hd.below)
  clear ra rb
  go_enter Tryd.func76, Tryd.ntmps76
  go_wp2_with (first
    | (go_at_call 47; refine HC.out.mono ?_; rintro e w1 ⟨rfl, hd⟩; have HD := Lib.hid hd; clear hd)
    | (go_at_call 98; refine (all_any do_sub sub_ok (k := n) (by omega) (hra.out _ HD.out) (hrb.out _ HD.out) fta ftb).mono ?_; rintro e w2 ⟨v, rfl, hv, hb⟩))
  go_ret2
  exact ⟨v, rfl, by rw [← HT.out]; exact nt_of_trim hv (og_fits sub_ok (lim_lt fta) (lim_lt ftb) _), (HD.out.below).trans (hb.mono (by rw [HD.out.heap]; exact Nat.le_refl _))⟩

theorem sub_no {va vb : Value} {a b : Nat} {w : World} (ha : Nt w va a) (hb : Nt w vb b) (la : limbs a ≤ 536870912) (lb : limbs b ≤ 536870912) (h : a < b) :
    Calls Tryd.prog 76 #[va, vb] w fun e w' => e = .returned (.tuple #[.slice none 0 0, .bool false]) ∧ Drawn w w' := by
  have hcmp := cmp_nt ha hb (by omega) (by omega)
  rw [cmp_less h] at hcmp
  have HC := Lib.hid hcmp
  clear hcmp ha hb
  go_enter Tryd.func76, Tryd.ntmps76
  go_wp2_with (first
    | (go_at_call 47; refine HC.out.mono ?_; rintro e w1 ⟨rfl, hd⟩; have HD := Lib.hid hd; clear hd))
  go_ret2
  exact ⟨rfl, HD.out⟩

/-- nat.Sub, whichever. -/
theorem sub_nt {va vb : Value} {a b : Nat} {w : World} (ha : Nt w va a) (hb : Nt w vb b) (la : limbs a ≤ 536870912) (lb : limbs b ≤ 536870912) :
    Calls Tryd.prog 76 #[va, vb] w fun e w' => ∃ v, e = .returned (.tuple #[v, .bool (decide (b ≤ a))]) ∧ Nt w' v (a - b) ∧ Below w.heap.size w w' := by
  by_cases h : b ≤ a
  · rw [show decide (b ≤ a) = true from by simpa using h]
    exact sub_yes ha hb la h
  · rw [show decide (b ≤ a) = false from by simpa using h, show a - b = 0 from by omega]
    exact (sub_no ha hb la lb (by omega)).mono fun e w' ⟨he, hd⟩ => ⟨_, he, Nt.nil _, hd.below⟩

/-- a row written out in a new block -/
theorem Rd.new {k : IntKind} {w : World} {cs : Array Value} {e : TypeId} {n : Nat} {f : Nat → Nat} (hn : n ≤ maxLen) (h : ∀ j, j < n → cs[j]? = some (.int k (f j))) : Rd k (w.alloc (.cells cs e)) (.slice (some ⟨w.heap.size, 0, none⟩) n n) n f := by
  refine ⟨_, n, rfl, Nat.le_refl _, hn, fun _ => ⟨w.heap.size, 0, rfl, by simp, fun j hj => ?_⟩⟩
  have hb := Blk.new w cs e
  unfold Blk at hb
  simp only [World.cell?, hb, Nat.zero_add]
  simpa using h j hj

/-- two limbs of a number -/
def two (n : Nat) (i : Nat) : Nat := if i = 0 then n % 4294967296 else n / 4294967296

theorem two_nv (n : Nat) : nv (two n) 2 = n := by
  simp only [nv, two]
  simp
  omega

theorem of_nt (n : Nat) (w : World) (hn : n < 18446744073709551616) :
    Calls Tryd.prog 66 #[.int .u64 n] w fun e w' => ∃ v, e = .returned v ∧ Nt w' v n ∧ Below w.heap.size w w' := by
  have h1 : n / 4294967296 < 4294967296 := by omega
  go_enter Tryd.func66, Tryd.ntmps66
  go_wp2_with (go_at_call 86; refine (make_nt (n := 2) (f := two n) (Rd.new (by unfold maxLen; omega) ?h1) (by omega) ?h2).mono ?_)
  case h1 =>
    intro j hj
    have : j = 0 ∨ j = 1 := by omega
    rcases this with rfl | rfl <;> simp [two]
  case h2 =>
    intro j hj
    unfold two
    split <;> omega
  rintro e w' ⟨v, rfl, hv, hb⟩
  go_wp2
  go_ret
  exact ⟨v, rfl, by rw [← two_nv n]; exact hv, ((Below.refl _ w).alloc (Nat.le_refl _) _).trans (hb.mono (by simp))⟩

/-- one limb -/
theorem one_limb {w : World} {e : TypeId} (x : Nat) (hx : x < 4294967296) (h0 : x ≠ 0) : Nt (w.alloc (.cells #[.int .u32 x] e)) (.slice (some ⟨w.heap.size, 0, none⟩) 1 1) x :=
  ⟨1, fun _ => x, Rd.new (by unfold maxLen; omega) (fun j hj => by obtain rfl : j = 0 := by omega
                                                                   rfl), fun _ _ => hx, fun _ => h0, by simp [nv]⟩
end Go.Proofs.YtopbfgmpilnghaaDoor
