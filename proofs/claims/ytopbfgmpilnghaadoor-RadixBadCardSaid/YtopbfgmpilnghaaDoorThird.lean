/- mul.third: over 3, limb by limb from above. -/
import Derived.Test.YtopbfgmpilnghaaDoorPart
set_option linter.unusedVariables false
set_option linter.unusedSimpArgs false
namespace Go.Proofs.YtopbfgmpilnghaaDoor
open Go.RowKit

/-- a division by one limb d, from above: the limbs from k on are divided -/
structure Down (d : Nat) (f F : Nat → Nat) (n k r : Nat) : Prop where
  fits : Fits n F
  zero : ∀ j, j < k → F j = 0
  rest : r < d
  sum : d * nv F n + r * 4294967296 ^ k + nv f k = nv f n

theorem Down.start {d n : Nat} (f : Nat → Nat) (hd : 0 < d) : Down d f (fun _ => 0) n n 0 :=
  ⟨fun _ _ => by omega, fun _ _ => rfl, hd, by rw [nv_zeros, Nat.mul_zero]; omega⟩

theorem Down.step {d n k r : Nat} {f F : Nat → Nat} (h : Down d f F n (k + 1) r) (hk : k < n) (hf : f k < 4294967296) (hd : d ≤ 4294967296) :
    Down d f (upd F k ((r * 4294967296 + f k) / d)) n k ((r * 4294967296 + f k) % d) := by
  obtain ⟨h1, h2, h3, h4⟩ := h
  have hd0 : 0 < d := by omega
  have hq : (r * 4294967296 + f k) / d < 4294967296 := by
    rw [Nat.div_lt_iff_lt_mul hd0]
    have : (r + 1) * 4294967296 ≤ d * 4294967296 := Nat.mul_le_mul_right _ h3
    rw [Nat.mul_comm 4294967296 d]
    omega
  refine ⟨h1.upd _ hq, fun j hj => by rw [upd_other _ _ (by omega)]; exact h2 j (by omega), Nat.mod_lt _ hd0, ?_⟩
  have e := nv_upd F k ((r * 4294967296 + f k) / d) n hk
  rw [h2 k (by omega), Nat.zero_mul, Nat.add_zero] at e
  have e2 := Nat.div_add_mod (r * 4294967296 + f k) d
  simp only [nv] at h4
  rw [e, Nat.mul_add, ← h4, Nat.pow_succ]
  generalize (r * 4294967296 + f k) / d = q at *
  generalize (r * 4294967296 + f k) % d = s at *
  generalize 4294967296 ^ k = P at *
  have e3 := congrArg (· * P) e2
  simp only [Nat.add_mul] at e3
  have e4 : d * (q * P) = d * q * P := by rw [Nat.mul_assoc]
  have e5 : r * (P * 4294967296) = r * 4294967296 * P := by simp only [Nat.mul_comm, Nat.mul_left_comm, Nat.mul_assoc]
  rw [e4, e5]
  omega

theorem Down.done {d n r : Nat} {f F : Nat → Nat} (h : Down d f F n 0 r) : nv F n = nv f n / d ∧ r = nv f n % d := by
  obtain ⟨h1, h2, h3, h4⟩ := h
  simp only [nv, Nat.pow_zero, Nat.mul_one, Nat.add_zero] at h4
  rw [← h4]
  rw [Nat.mul_add_div (by omega), Nat.div_eq_of_lt h3, Nat.mul_add_mod, Nat.mod_eq_of_lt h3]
  exact ⟨rfl, rfl⟩

theorem or_limb (r x : Nat) (hr : r < 4294967296) (hx : x < 4294967296) : bits .or .u64 ((r : Int) * 4294967296) (x : Int) = ((r * 4294967296 + x : Nat) : Int) := by
  have e : (r : Int) * 4294967296 = ((r * 4294967296 : Nat) : Int) := by omega
  rw [e, bits_or_u64_nat _ _ (by omega) (by omega)]
  have := Nat.two_pow_add_eq_or_of_lt (i := 32) (b := x) (by omega) r
  rw [show r * 4294967296 = 2 ^ 32 * r from by omega, ← this]

set_option maxRecDepth 100000 in
set_option maxHeartbeats 2000000 in
theorem third_row {b off n cap : Nat} {f : Nat → Nat} {w : World} (hn : n ≤ 536870912) (h0 : 0 < n) (hf : Hid (Fits n f)) (hB : Hid (b < w.heap.size))
    (hc : Hid (∀ j, j < n → w.cell? ⟨b, off + j, none⟩ = some (.int .u32 (f j)))) :
    Calls Tryd.prog 110 #[.slice (some ⟨b, off, none⟩) n cap] w fun e w' => ∃ v, e = .returned v ∧ Nt w' v (nv f n / 3) ∧ Below w.heap.size w w' := by
  obtain ⟨i0, hi, hz0, hz1, hz2⟩ := info_parts info_u32
  go_enter Tryd.func110, Tryd.ntmps110
  go_wp2_with (at_make; refine wpList_make_row _ rfl _ _ 22 rfl 46 i0 .u32 Tryd.underlying22 hi hz0 hz1 _ _ _ _ n n rfl rfl (by omega) (by omega) (by omega) (by rw [hz2]; omega) (by omega) ?_; intro w1 hown hgrow hsz)
  have hbw : Below w.heap.size w w1 := (Below.refl _ w).grown hgrow (Nat.le_refl _) (fun k e => by cases e)
  have HOWN := Lib.hid hown
  have HBW := Lib.hid hbw
  clear hown hgrow hsz hbw
  go_loopw [4, 5] (fun rs i wr => ∃ (k r : Nat) (F : Nat → Nat), k ≤ n ∧ i = .int .i64 ((k : Int) - 1) ∧ rs = .int .u64 r ∧ Hid (Own .u32 wr w.heap.size 46 n F) ∧ Hid (Down 3 f F n k r) ∧ Hid (Below w.heap.size w wr)) (fun _ i _ => (intOf i + 1).toNat)
  case atStart => exact ⟨n, 0, _, Nat.le_refl _, rfl, rfl, HOWN, Down.start f (by omega), HBW⟩
  case round =>
    obtain ⟨k, r, F, hk, rfl, rfl, hown, hdn, hbw⟩ := hrel
    by_cases hk0 : k = 0
    · subst hk0
      have hmk : Calls Tryd.prog 86 #[.slice (some ⟨w.heap.size, 0, none⟩) n n] wr _ := make_nt (hown.out.rd (Nat.le_refl _) (Nat.le_refl _) (by unfold maxLen; omega)) (by omega) hdn.out.fits
      have HMK := Lib.hid hmk
      clear hmk
      go_wp2_with (go_at_call 86; refine HMK.out.mono ?_; rintro e w3 ⟨v, rfl, hv, hb3⟩)
      go_ret
      exact ⟨v, rfl, by rw [← (hdn.out.done).1]; exact hv, hbw.out.trans (hb3.mono hbw.out.size)⟩
    · obtain ⟨m, rfl⟩ : ∃ m, k = m + 1 := ⟨k - 1, by omega⟩
      have hm : (((m + 1 : Nat) : Int) - 1) = (m : Int) := by omega
      rw [hm]
      have hcell : wr.cell? ⟨b, off + m, none⟩ = _ := (hbw.out.cell (p := ⟨b, off + m, none⟩) hB.out).trans (hc.out m (by omega))
      have hfm := hf.out m (by omega)
      have hr := hdn.out.rest
      have hor := or_limb r (f m) (by omega) hfm
      have hco := hown.out.cell (j := m) (by omega)
      have hfo := hown.out.free m
      go_wp2_with fail
      go_roundw
      case rel => exact ⟨m, (r * 4294967296 + f m) % 3, upd F m ((r * 4294967296 + f m) / 3), Nat.le_of_succ_le hk, rfl, val_eq (by omega), hown.out.put m _ (by omega), hdn.out.step (by omega) hfm (by omega), hbw.out.setCell (Nat.le_refl _) _⟩
      case measure => simp [intOf] <;> omega

set_option maxRecDepth 100000 in
set_option maxHeartbeats 1000000 in
theorem third_none {ao : Option Addr} {cap : Nat} {w : World} :
    Calls Tryd.prog 110 #[.slice ao 0 cap] w fun e w' => ∃ v, e = .returned v ∧ Nt w' v 0 ∧ Below w.heap.size w w' := by
  obtain ⟨i0, hi, hz0, hz1, hz2⟩ := info_parts info_u32
  go_enter Tryd.func110, Tryd.ntmps110
  go_wp2_with (at_make; refine wpList_make_row _ rfl _ _ 22 rfl 46 i0 .u32 Tryd.underlying22 hi hz0 hz1 _ _ _ _ 0 0 rfl rfl (by omega) (by omega) (by omega) (by rw [hz2]; omega) (by omega) ?_; intro w1 hown hgrow hsz)
  have hbw : Below w.heap.size w w1 := (Below.refl _ w).grown hgrow (Nat.le_refl _) (fun k e => by cases e)
  have hmk : Calls Tryd.prog 86 #[.slice (some ⟨w.heap.size, 0, none⟩) 0 0] w1 _ := make_nt (hown.rd (Nat.le_refl _) (Nat.le_refl _) (by unfold maxLen; omega)) (by omega) (fun _ h => absurd h (by omega))
  have HMK := Lib.hid hmk
  have HBW := Lib.hid hbw
  clear hown hgrow hsz hbw hmk
  go_loopw [4, 5] (fun rs i wr => i = .int .i64 (-1) ∧ rs = .int .u64 0 ∧ wr = w1) (fun _ i _ => 0)
  case atStart => exact ⟨rfl, rfl, rfl⟩
  case round =>
    obtain ⟨rfl, rfl, rfl⟩ := hrel
    go_wp2_with (go_at_call 86; refine HMK.out.mono ?_; rintro e w3 ⟨v, rfl, hv, hb3⟩)
    go_ret
    exact ⟨v, rfl, hv, HBW.out.trans (hb3.mono HBW.out.size)⟩

/-- mul.third: over 3, cut. -/
theorem third_nt {v : Value} {a : Nat} {w : World} (ha : Nt w v a) (la : limbs a ≤ 536870912) :
    Calls Tryd.prog 110 #[v] w fun e w' => ∃ v, e = .returned v ∧ Nt w' v (a / 3) ∧ Below w.heap.size w w' := by
  obtain ⟨ao, cap, f, rfl, ra, fta, na, va⟩ := ha.open
  by_cases h0 : limbs a = 0
  · rw [h0] at va ⊢
    obtain rfl : a = 0 := va.symm
    exact third_none
  · obtain ⟨b, off, rfl, hb, hc⟩ := ra.at (by omega)
    have := third_row (cap := cap) la (by omega) fta hb hc
    rw [va] at this
    exact this
end Go.Proofs.YtopbfgmpilnghaaDoor
