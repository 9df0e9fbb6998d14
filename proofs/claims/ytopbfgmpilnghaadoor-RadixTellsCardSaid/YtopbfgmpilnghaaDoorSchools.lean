/- mul.School: the product, limb by limb. mul.part, mul.less, mul.third, mul.apart. mul.third: over 3, limb by limb from above. -/
import Derived.Test.YtopbfgmpilnghaaDoorShifts
set_option linter.unusedVariables false
set_option linter.unusedSimpArgs false
namespace Go.Proofs.YtopbfgmpilnghaaDoor
open Go.RowKit

theorem nv_upd (f : Nat → Nat) (i x : Nat) : ∀ n, i < n → nv (upd f i x) n + f i * 4294967296 ^ i = nv f n + x * 4294967296 ^ i := by
  intro n
  induction n with
  | zero => intro h; omega
  | succ n ih =>
    intro h
    simp only [nv]
    by_cases e : i = n
    · subst e
      have e : nv (upd f i x) i = nv f i := nv_congr (fun j hj => upd_other f x (by omega))
      rw [upd_same, e]
      omega
    · have := ih (by omega)
      rw [upd_other f x (by omega)]
      omega

theorem Fits.upd {n : Nat} {f : Nat → Nat} (h : Fits n f) (i : Nat) {x : Nat} (hx : x < 4294967296) : Fits n (upd f i x) := by
  intro j hj
  unfold Go.Proofs.YtopbfgmpilnghaaDoor.upd
  split
  · exact hx
  · exact h j hj

/-- what the inner loop of School holds: F ahead of it, G now, k rounds over -/
structure SchoolIn (fa fb F G : Nat → Nat) (N i k c : Nat) : Prop where
  fits : Fits N G
  carry : c < 4294967296
  old : ∀ j, i + k ≤ j → G j = F j
  sum : nv G N + c * 4294967296 ^ (i + k) = nv F N + fa i * 4294967296 ^ i * nv fb k

theorem SchoolIn.start {fa fb F : Nat → Nat} {N i : Nat} (hF : Fits N F) : SchoolIn fa fb F F N i 0 0 := ⟨hF, by omega, fun _ _ => rfl, by simp [nv]⟩

theorem SchoolIn.step {fa fb F G : Nat → Nat} {N i k c : Nat} (h : SchoolIn fa fb F G N i k c) (hx : fa i < 4294967296) (hy : fb k < 4294967296) (hk : i + k < N) :
    SchoolIn fa fb F (upd G (i + k) ((c + (fa i * fb k + G (i + k))) % 4294967296)) N i (k + 1) ((c + (fa i * fb k + G (i + k))) / 4294967296) := by
  obtain ⟨hf, hc, ho, hs⟩ := h
  have hg := hf (i + k) hk
  have hp : fa i * fb k ≤ 4294967295 * 4294967295 := Nat.mul_le_mul (by omega) (by omega)
  refine ⟨hf.upd _ (Nat.mod_lt _ (by omega)), ?_, fun j hj => ?_, ?_⟩
  · rw [Nat.div_lt_iff_lt_mul (by omega)]; omega
  · rw [upd_other _ _ (by omega)]; exact ho j (by omega)
  · have h1 := nv_upd G (i + k) ((c + (fa i * fb k + G (i + k))) % 4294967296) N hk
    have h2 := Nat.div_add_mod (c + (fa i * fb k + G (i + k))) 4294967296
    simp only [nv]
    rw [show i + (k + 1) = i + k + 1 from by omega, Nat.pow_succ, Nat.mul_add]
    have e1 : fa i * 4294967296 ^ i * (fb k * 4294967296 ^ k) = fa i * fb k * 4294967296 ^ (i + k) := by rw [Nat.pow_add]; simp only [Nat.mul_comm, Nat.mul_left_comm, Nat.mul_assoc]
    rw [e1, ← Nat.add_assoc (nv F N), ← hs]
    clear e1 hs hp hg hf ho
    generalize (c + (fa i * fb k + G (i + k))) % 4294967296 = r at *
    generalize (c + (fa i * fb k + G (i + k))) / 4294967296 = q at *
    generalize 4294967296 ^ (i + k) = P at *
    generalize fa i * fb k = t at *
    generalize G (i + k) = g at *
    have h3 := congrArg (· * P) h2
    simp only [Nat.add_mul] at h3
    have e2 : q * (P * 4294967296) = 4294967296 * q * P := by simp only [Nat.mul_comm, Nat.mul_left_comm, Nat.mul_assoc]
    rw [e2]
    omega

/-- what the outer loop of School holds -/
structure SchoolOut (fa fb F : Nat → Nat) (n m i : Nat) : Prop where
  fits : Fits (n + m) F
  zero : ∀ j, i + m ≤ j → F j = 0
  prod : nv F (n + m) = nv fa i * nv fb m

theorem SchoolOut.start (fa fb : Nat → Nat) (n m : Nat) : SchoolOut fa fb (fun _ => 0) n m 0 :=
  ⟨fun _ _ => by omega, fun _ _ => rfl, by rw [nv_high_zero (m := 0) (Nat.zero_le _) (fun _ _ _ => rfl)]; simp [nv]⟩

theorem SchoolOut.step {fa fb F G : Nat → Nat} {n m i c : Nat} (h : SchoolOut fa fb F n m i) (hi : i < n) (hin : SchoolIn fa fb F G (n + m) i m c) : SchoolOut fa fb (upd G (i + m) c) n m (i + 1) := by
  obtain ⟨hf, hz, hp⟩ := h
  obtain ⟨hf2, hc, ho, hs⟩ := hin
  refine ⟨hf2.upd _ hc, fun j hj => by rw [upd_other _ _ (by omega), ho j (by omega)]; exact hz j (by omega), ?_⟩
  have h1 := nv_upd G (i + m) c (n + m) (by omega)
  rw [ho (i + m) (Nat.le_refl _), hz (i + m) (Nat.le_refl _), Nat.zero_mul, Nat.add_zero] at h1
  simp only [nv]
  rw [h1, hs, hp, Nat.add_mul]

theorem val_eq {k : IntKind} {a b : Int} (h : a = b) : Value.int k a = Value.int k b := by rw [h]
theorem Own.put {k : IntKind} {W : World} {g : Nat} {e : TypeId} {N : Nat} {f : Nat → Nat} (h : Own k W g e N f) (i x : Nat) {v : Int} (hv : v = (x : Int)) : Own k (W.setCell ⟨g, i, none⟩ (.int k v)) g e N (upd f i x) := by
  subst hv
  exact h.set i x

theorem cell_bound {c x y g : Nat} (hc : c < 4294967296) (hx : x < 4294967296) (hy : y < 4294967296) (hg : g < 4294967296) :
    (0 : Int) ≤ (x : Int) * (y : Int) ∧ (x : Int) * (y : Int) ≤ 18446744065119617025 := by
  have h : x * y ≤ 4294967295 * 4294967295 := Nat.mul_le_mul (by omega) (by omega)
  refine ⟨Int.mul_nonneg (by omega) (by omega), ?_⟩
  rw [← Int.natCast_mul]
  omega

set_option maxRecDepth 100000 in
set_option maxHeartbeats 4000000 in
theorem school_row {ba oa bb ob n m ca cb : Nat} {fa fb : Nat → Nat} {w : World} (hn : n ≤ 268435456) (hm : m ≤ 268435456) (h0 : 0 < n) (h1 : 0 < m) (hfa : Hid (Fits n fa)) (hfb : Hid (Fits m fb)) (hB : Hid (ba < w.heap.size ∧ bb < w.heap.size))
    (ha : Hid (∀ j, j < n → w.cell? ⟨ba, oa + j, none⟩ = some (.int .u32 (fa j)))) (hb : Hid (∀ j, j < m → w.cell? ⟨bb, ob + j, none⟩ = some (.int .u32 (fb j)))) :
    Calls Tryd.prog 90 #[.slice (some ⟨ba, oa, none⟩) n ca, .slice (some ⟨bb, ob, none⟩) m cb] w fun e w' => ∃ v, e = .returned v ∧ Nt w' v (nv fa n * nv fb m) ∧ Below w.heap.size w w' := by
  obtain ⟨i0, hi, hz0, hz1, hz2⟩ := info_parts info_u32
  go_enter Tryd.func90, Tryd.ntmps90
  go_wp2_with (at_make; refine wpList_make_row _ rfl _ _ 22 rfl 46 i0 .u32 Tryd.underlying22 hi hz0 hz1 _ _ _ _ (n + m) (n + m) rfl rfl (by omega) (by omega) (by omega) (by rw [hz2]; omega) (by omega) ?_; intro w1 hown hgrow hsz)
  have hbw : Below w.heap.size w w1 := (Below.refl _ w).grown hgrow (Nat.le_refl _) (fun k e => by cases e)
  have HOWN := Lib.hid hown
  have HBW := Lib.hid hbw
  clear hown hgrow hsz hbw
  go_loopw [19] (fun i wr => ∃ (k : Nat) (F : Nat → Nat), k ≤ n ∧ i = .int .i64 k ∧ Hid (Own .u32 wr w.heap.size 46 (n + m) F) ∧ Hid (SchoolOut fa fb F n m k) ∧ Hid (Below w.heap.size w wr)) (fun i _ => n - (intOf i).toNat)
  case atStart => exact ⟨0, _, Nat.zero_le _, rfl, HOWN, SchoolOut.start fa fb n m, HBW⟩
  case round =>
    obtain ⟨i, F, hin, rfl, hown, hsc, hbw⟩ := hrel
    by_cases hlt : i < n
    · have hcell : wr.cell? ⟨ba, oa + i, none⟩ = _ := (hbw.out.cell (p := ⟨ba, oa + i, none⟩) hB.out.1).trans (ha.out i hlt)
      have hxi := hfa.out i hlt
      go_wp2_with fail
      obtain ⟨wo, hwo⟩ : ∃ wo : World, wo = wr := ⟨_, rfl⟩
      go_loopw [8, 26] (fun cr j wr => ∃ (k c : Nat) (G : Nat → Nat), k ≤ m ∧ j = .int .i64 k ∧ cr = .int .u64 c ∧ Hid (Own .u32 wr w.heap.size 46 (n + m) G) ∧ Hid (SchoolIn fa fb F G (n + m) i k c) ∧ Hid (Below w.heap.size w wr)) (fun _ j _ => m - (intOf j).toNat)
      case atStart => exact ⟨0, 0, F, Nat.zero_le _, rfl, rfl, hown, SchoolIn.start hsc.out.fits, hbw⟩
      case round =>
        obtain ⟨k, c, G, hkm, rfl, rfl, hown, hsi, hbw⟩ := hrel
        by_cases hlt2 : k < m
        · have hcell2 : wr.cell? ⟨bb, ob + k, none⟩ = _ := (hbw.out.cell (p := ⟨bb, ob + k, none⟩) hB.out.2).trans (hb.out k hlt2)
          have hyk := hfb.out k hlt2
          have hgk := hsi.out.fits (i + k) (by omega)
          have hck := hsi.out.carry
          have hbd := cell_bound hck hxi hyk hgk
          have hco := hown.out.cell (j := i + k) (by omega)
          have hfo := hown.out.free (i + k)
          go_wp2_with fail
          go_roundw
          case rel =>
            have e := Int.natCast_mul (fa i) (fb k)
            exact ⟨k + 1, _, _, by omega, by go_num, val_eq (by omega), hown.out.put (i + k) _ (by omega), hsi.out.step hxi hyk (by omega), hbw.out.setCell (Nat.le_refl _) _⟩
          case measure => simp [intOf]; omega
        · obtain rfl : k = m := by omega
          have hck := hsi.out.carry
          have hzero := hown.out.cell (j := i + k) (by omega)
          have hfo := hown.out.free (i + k)
          go_wp2_with fail
          go_roundw
          case rel => exact ⟨i + 1, _, by omega, by go_num, hown.out.put (i + k) c rfl, hsc.out.step hlt hsi.out, hbw.out.setCell (Nat.le_refl _) _⟩
          case measure => simp [intOf]; omega
    · obtain rfl : i = n := by omega
      go_wp2_with (go_at_call 86; refine (make_nt (hown.out.rd (Nat.le_refl _) (Nat.le_refl _) (by unfold maxLen; omega)) (by omega) hsc.out.fits).mono ?_; rintro e w3 ⟨v, rfl, hv, hb3⟩)
      go_ret
      exact ⟨v, rfl, by rw [← hsc.out.prod]; exact hv, hbw.out.trans (hb3.mono hbw.out.size)⟩

theorem nv_zeros (n : Nat) : nv (fun _ => 0) n = 0 := by rw [nv_high_zero (m := 0) (Nat.zero_le _) (fun _ _ _ => rfl)]; rfl

set_option maxRecDepth 100000 in
set_option maxHeartbeats 1000000 in
theorem school_left {aa ab : Option Addr} {m ca cb : Nat} {w : World} (hm : m ≤ 268435456) :
    Calls Tryd.prog 90 #[.slice aa 0 ca, .slice ab m cb] w fun e w' => ∃ v, e = .returned v ∧ Nt w' v 0 ∧ Below w.heap.size w w' := by
  obtain ⟨i0, hi, hz0, hz1, hz2⟩ := info_parts info_u32
  go_enter Tryd.func90, Tryd.ntmps90
  go_wp2_with (at_make; refine wpList_make_row _ rfl _ _ 22 rfl 46 i0 .u32 Tryd.underlying22 hi hz0 hz1 _ _ _ _ m m rfl rfl (by omega) (by omega) (by omega) (by rw [hz2]; omega) (by omega) ?_; intro w1 hown hgrow hsz)
  have hbw : Below w.heap.size w w1 := (Below.refl _ w).grown hgrow (Nat.le_refl _) (fun k e => by cases e)
  have HOWN := Lib.hid hown
  have HBW := Lib.hid hbw
  clear hown hgrow hsz hbw
  go_loopw [19] (fun i wr => i = .int .i64 0 ∧ wr = w1) (fun i _ => 0)
  case atStart => exact ⟨rfl, rfl⟩
  case round =>
    obtain ⟨rfl, rfl⟩ := hrel
    go_wp2_with (go_at_call 86; refine (make_nt (HOWN.out.rd (Nat.le_refl _) (Nat.le_refl _) (by unfold maxLen; omega)) (by omega) (fun _ _ => by omega)).mono ?_; rintro e w3 ⟨v, rfl, hv, hb3⟩)
    go_ret
    exact ⟨v, rfl, by rw [nv_zeros] at hv; exact hv, HBW.out.trans (hb3.mono HBW.out.size)⟩

set_option maxRecDepth 100000 in
set_option maxHeartbeats 2000000 in
theorem school_right {ba oa n ca cb : Nat} {ab : Option Addr} {fa : Nat → Nat} {w : World} (hn : n ≤ 268435456) (h0 : 0 < n) (hB : Hid (ba < w.heap.size))
    (ha : Hid (∀ j, j < n → w.cell? ⟨ba, oa + j, none⟩ = some (.int .u32 (fa j)))) :
    Calls Tryd.prog 90 #[.slice (some ⟨ba, oa, none⟩) n ca, .slice ab 0 cb] w fun e w' => ∃ v, e = .returned v ∧ Nt w' v 0 ∧ Below w.heap.size w w' := by
  obtain ⟨i0, hi, hz0, hz1, hz2⟩ := info_parts info_u32
  go_enter Tryd.func90, Tryd.ntmps90
  go_wp2_with (at_make; refine wpList_make_row _ rfl _ _ 22 rfl 46 i0 .u32 Tryd.underlying22 hi hz0 hz1 _ _ _ _ n n rfl rfl (by omega) (by omega) (by omega) (by rw [hz2]; omega) (by omega) ?_; intro w1 hown hgrow hsz)
  have hbw : Below w.heap.size w w1 := (Below.refl _ w).grown hgrow (Nat.le_refl _) (fun k e => by cases e)
  have HOWN := Lib.hid hown
  have HBW := Lib.hid hbw
  clear hown hgrow hsz hbw
  go_loopw [19] (fun i wr => ∃ k : Nat, k ≤ n ∧ i = .int .i64 k ∧ Hid (Own .u32 wr w.heap.size 46 n (fun _ => 0)) ∧ Hid (Below w.heap.size w wr)) (fun i _ => n - (intOf i).toNat)
  case atStart => exact ⟨0, Nat.zero_le _, rfl, HOWN, HBW⟩
  case round =>
    obtain ⟨i, hin, rfl, hown, hbw⟩ := hrel
    by_cases hlt : i < n
    · have hcell : wr.cell? ⟨ba, oa + i, none⟩ = _ := (hbw.out.cell (p := ⟨ba, oa + i, none⟩) hB.out).trans (ha.out i hlt)
      have hzero := hown.out.cell (j := i) (by omega)
      have hfo := hown.out.free i
      go_wp2_with fail
      obtain ⟨wo, hwo⟩ : ∃ wo : World, wo = wr := ⟨_, rfl⟩
      go_loopw [8, 26] (fun cr j w2 => j = .int .i64 0 ∧ cr = .int .u64 0 ∧ w2 = wr) (fun _ j _ => 0)
      case atStart => exact ⟨rfl, rfl, rfl⟩
      case round =>
        obtain ⟨rfl, rfl, rfl⟩ := hrel
        go_wp2_with fail
        go_roundw
        case rel => exact ⟨i + 1, by omega, by go_num, (hown.out.put i 0 rfl).congr (fun j _ => by unfold upd; split <;> rfl), hbw.out.setCell (Nat.le_refl _) _⟩
        case measure => simp [intOf]; omega
    · obtain rfl : i = n := by omega
      go_wp2_with (go_at_call 86; refine (make_nt (hown.out.rd (Nat.le_refl _) (Nat.le_refl _) (by unfold maxLen; omega)) (by omega) (fun _ _ => by omega)).mono ?_; rintro e w3 ⟨v, rfl, hv, hb3⟩)
      go_ret
      exact ⟨v, rfl, by rw [nv_zeros] at hv; exact hv, hbw.out.trans (hb3.mono hbw.out.size)⟩

/-- mul.School: the product. -/
theorem school_nt {va vb : Value} {a b : Nat} {w : World} (ha : Nt w va a) (hb : Nt w vb b) (la : limbs a ≤ 268435456) (lb : limbs b ≤ 268435456) :
    Calls Tryd.prog 90 #[va, vb] w fun e w' => ∃ v, e = .returned v ∧ Nt w' v (a * b) ∧ Below w.heap.size w w' := by
  obtain ⟨aa, ca, fa, rfl, ra, fta, na, va⟩ := ha.open
  obtain ⟨ab, cb, fb, rfl, rb, ftb, nb, vb⟩ := hb.open
  by_cases h0 : limbs a = 0
  · rw [h0] at va ⊢
    obtain rfl : a = 0 := va.symm
    rw [Nat.zero_mul]
    exact school_left lb
  · obtain ⟨ba, oa, rfl, lt1, hca⟩ := ra.at (by omega)
    by_cases h1 : limbs b = 0
    · rw [h1] at vb ⊢
      obtain rfl : b = 0 := vb.symm
      rw [Nat.mul_zero]
      exact school_right la (by omega) lt1 hca
    · obtain ⟨bb, ob, rfl, lt2, hcb⟩ := rb.at (by omega)
      have := school_row (ca := ca) (cb := cb) la lb (by omega) (by omega) fta ftb ⟨lt1, lt2⟩ hca hcb
      rw [va, vb] at this
      exact this
end Go.Proofs.YtopbfgmpilnghaaDoor

namespace Go.Proofs.YtopbfgmpilnghaaDoor
open Go.RowKit

/-- the limbs from x to y of a value -/
theorem nv_mid {f : Nat → Nat} {n x y : Nat} (hf : Fits n f) (hxy : x ≤ y) (hy : y ≤ n) : nv (fun j => f (x + j)) (y - x) = nv f n / 4294967296 ^ x % 4294967296 ^ (y - x) := by
  have h1 := nv_shift f x (n - x)
  rw [show x + (n - x) = n from by omega] at h1
  have h2 := nv_shift (fun j => f (x + j)) (y - x) (n - y)
  rw [show y - x + (n - y) = n - x from by omega] at h2
  have hp : 0 < 4294967296 ^ x := Nat.pow_pos (by omega)
  rw [h1, Nat.add_mul_div_left _ _ hp, Nat.div_eq_of_lt (nv_lt (hf.mono (show x ≤ n by omega))), Nat.zero_add, h2, Nat.add_mul_mod_self_left]
  rw [Nat.mod_eq_of_lt]
  exact nv_lt (fun j hj => hf (x + j) (by omega))

theorem mid_short {a n x y : Nat} (h : a < 4294967296 ^ n) (hx : x ≤ n) (hy : n ≤ y) : a / 4294967296 ^ x % 4294967296 ^ (y - x) = a / 4294967296 ^ x % 4294967296 ^ (n - x) := by
  have h1 : a / 4294967296 ^ x < 4294967296 ^ (n - x) := by
    rw [Nat.div_lt_iff_lt_mul (Nat.pow_pos (by omega)), ← Nat.pow_add, show n - x + x = n from by omega]; exact h
  have h2 : 4294967296 ^ (n - x) ≤ 4294967296 ^ (y - x) := Nat.pow_le_pow_right (by omega) (by omega)
  rw [Nat.mod_eq_of_lt h1, Nat.mod_eq_of_lt (by omega)]

theorem mid_none {a n x y : Nat} (h : a < 4294967296 ^ n) (hx : n ≤ x) : a / 4294967296 ^ x % 4294967296 ^ (y - x) = 0 := by
  have h2 : 4294967296 ^ n ≤ 4294967296 ^ x := Nat.pow_le_pow_right (by omega) (by omega)
  rw [Nat.div_eq_of_lt (by omega), Nat.zero_mod]

set_option maxRecDepth 100000 in
set_option maxHeartbeats 1000000 in
theorem part_row {b off n cap x y : Nat} {f : Nat → Nat} {w : World} (hn : n ≤ 536870912) (hcap : n ≤ cap) (hm : cap ≤ maxLen) (hy : y ≤ 4611686018427387904) (hx : x < min y n) (hf : Hid (Fits n f)) (hB : Hid (b < w.heap.size))
    (hc : Hid (∀ j, j < n → w.cell? ⟨b, off + j, none⟩ = some (.int .u32 (f j)))) :
    Calls Tryd.prog 104 #[.slice (some ⟨b, off, none⟩) n cap, .int .i64 x, .int .i64 y] w fun e w' => ∃ v, e = .returned v ∧ Nt w' v (nv (fun j => f (x + j)) (min y n - x)) ∧ Below w.heap.size w w' := by
  unfold maxLen at hm
  have hrd : Rd .u32 w (.slice (some ⟨b, off + x, none⟩) (min y n - x) (min y n - x)) (min y n - x) (fun j => f (x + j)) := ⟨_, _, rfl, Nat.le_refl _, by unfold maxLen; omega, fun _ => ⟨b, off + x, rfl, hB.out, fun j hj => by rw [Nat.add_assoc]; exact hc.out (x + j) (by omega)⟩⟩
  have hft : Fits (min y n - x) (fun j => f (x + j)) := fun j hj => hf.out (x + j) (by omega)
  have HRD := Lib.hid hrd
  have HFT := Lib.hid hft
  clear hrd hft
  by_cases hyn : y ≤ n
  · rw [Nat.min_eq_left hyn] at *
    go_enter Tryd.func104, Tryd.ntmps104
    go_wp2_with (go_at_call 86; refine (make_nt HRD.out (by omega) HFT.out).mono ?_; rintro e w1 ⟨v, rfl, hv, hb⟩)
    go_ret
    exact ⟨v, rfl, hv, hb⟩
  · rw [Nat.min_eq_right (by omega)] at *
    go_enter Tryd.func104, Tryd.ntmps104
    go_wp2_with (go_at_call 86; refine (make_nt HRD.out (by omega) HFT.out).mono ?_; rintro e w1 ⟨v, rfl, hv, hb⟩)
    go_ret
    exact ⟨v, rfl, hv, hb⟩

set_option maxRecDepth 100000 in
set_option maxHeartbeats 1000000 in
theorem part_none {ao : Option Addr} {n cap x y : Nat} {w : World} (hn : n ≤ 536870912) (hcap : n ≤ cap) (hm : cap ≤ maxLen) (hxy : x ≤ y) (hy : y ≤ 4611686018427387904) (hx : min y n ≤ x) :
    Calls Tryd.prog 104 #[.slice ao n cap, .int .i64 x, .int .i64 y] w fun e w' => ∃ v, e = .returned v ∧ Nt w' v 0 ∧ Below w.heap.size w w' := by
  unfold maxLen at hm
  have hrd : ∀ ao, Rd .u32 w (.slice ao 0 0) 0 (fun _ => 0) := fun ao => ⟨_, _, rfl, Nat.le_refl _, by unfold maxLen; omega, fun h => absurd h (by omega)⟩
  have HMK : Hid (Calls Tryd.prog 86 #[.slice ao 0 0] w fun e w' => ∃ v, e = .returned v ∧ Nt w' v 0 ∧ Below w.heap.size w w') := make_nt (hrd ao) (by omega) (fun _ h => absurd h (by omega))
  clear hrd
  by_cases hyn : y ≤ n
  · obtain rfl : x = y := by omega
    go_enter Tryd.func104, Tryd.ntmps104
    go_wp2_with (go_at_call 86; refine HMK.out.mono ?_; rintro e w1 ⟨v, rfl, hv, hb⟩)
    all_goals
      go_ret
      exact ⟨v, rfl, hv, hb⟩
  · have hxn : n ≤ x := by omega
    by_cases hxe : x = n
    · subst hxe
      go_enter Tryd.func104, Tryd.ntmps104
      go_wp2_with (go_at_call 86; refine HMK.out.mono ?_; rintro e w1 ⟨v, rfl, hv, hb⟩)
      all_goals
        go_ret
        exact ⟨v, rfl, hv, hb⟩
    have hxl : n < x := by omega
    clear hxe
    go_enter Tryd.func104, Tryd.ntmps104
    go_wp2_with (go_at_call 86; refine HMK.out.mono ?_; rintro e w1 ⟨v, rfl, hv, hb⟩)
    all_goals
      go_ret
      exact ⟨v, rfl, hv, hb⟩

/-- mul.part: the limbs from one place to another one. -/
theorem part_nt {v : Value} {a : Nat} {w : World} (ha : Nt w v a) (la : limbs a ≤ 536870912) (fr to : Int) (x y : Nat) (hf : fr = (x : Int)) (ht : to = (y : Int)) (hxy : x ≤ y) (hy : y ≤ 4611686018427387904) :
    Calls Tryd.prog 104 #[v, .int .i64 fr, .int .i64 to] w fun e w' => ∃ v, e = .returned v ∧ Nt w' v (a / 4294967296 ^ x % 4294967296 ^ (y - x)) ∧ Below w.heap.size w w' := by
  subst hf ht
  obtain ⟨ao, cap, f, rfl, ra, fta, na, va⟩ := ha.open
  have hcap : limbs a ≤ cap ∧ cap ≤ maxLen := by
    obtain ⟨ao1, cp1, e, h1, h2, _⟩ := ra
    cases e
    exact ⟨h1, h2⟩
  have hlt := lt_limbs a
  by_cases hx : x < min y (limbs a)
  · obtain ⟨b, off, rfl, hb, hc⟩ := ra.at (by omega)
    have := part_row la hcap.1 hcap.2 hy hx fta hb hc
    rw [nv_mid fta (by omega) (Nat.min_le_right _ _), va] at this
    by_cases hyn : y ≤ limbs a
    · rw [Nat.min_eq_left hyn] at this; exact this
    · rw [mid_short hlt (by omega) (by omega)]
      rw [Nat.min_eq_right (by omega)] at this; exact this
  · have e : a / 4294967296 ^ x % 4294967296 ^ (y - x) = 0 := by
      by_cases hxn : limbs a ≤ x
      · exact mid_none hlt hxn
      · rw [show y - x = 0 from by omega, Nat.pow_zero, Nat.mod_one]
    rw [e]
    exact part_none la hcap.1 hcap.2 hxy hy (by omega)

/-- mul.less: a difference that is not below 0. -/
theorem less_nt {va vb : Value} {a b : Nat} {w : World} (ha : Nt w va a) (hb : Nt w vb b) (la : limbs a ≤ 536870912) (h : b ≤ a) :
    Calls Tryd.prog 109 #[va, vb] w fun e w' => ∃ v, e = .returned v ∧ Nt w' v (a - b) ∧ Below w.heap.size w w' := by
  have H := Lib.hid (sub_yes ha hb la h)
  clear ha hb
  go_enter Tryd.func109, Tryd.ntmps109
  go_wp2_with (go_at_call 76; refine H.out.mono ?_; rintro e w1 ⟨v, rfl, hv, hb⟩)
  go_ret
  exact ⟨v, rfl, hv, hb⟩

/-- the distance of two naturals -/
def dist (a b : Nat) : Nat := if b ≤ a then a - b else b - a

/-- mul.apart: the size of a difference, and whether it is below 0. -/
theorem apart_nt {va vb : Value} {a b : Nat} {w : World} (ha : Nt w va a) (hb : Nt w vb b) (la : limbs a ≤ 536870912) (lb : limbs b ≤ 536870912) :
    Calls Tryd.prog 125 #[va, vb] w fun e w' => ∃ v, e = .returned (.tuple #[v, .bool (decide (a < b))]) ∧ Nt w' v (dist a b) ∧ Below w.heap.size w w' := by
  unfold dist
  by_cases h : b ≤ a
  · rw [show decide (a < b) = false from by simpa using h, if_pos h]
    have H := Lib.hid (sub_yes ha hb la h)
    clear ha hb
    go_enter Tryd.func125, Tryd.ntmps125
    go_wp2_with (go_at_call 76; refine H.out.mono ?_; rintro e w1 ⟨v, rfl, hv, hb⟩)
    go_ret2
    exact ⟨v, rfl, hv, hb⟩
  · rw [show decide (a < b) = true from by simpa using h, if_neg h]
    have H := Lib.hid (sub_no ha hb la lb (by omega))
    have H2 := Lib.hid (fun (w1 : World) (hd : Drawn w w1) => less_nt (hb.below hd.below) (ha.below hd.below) lb (show a ≤ b by omega))
    clear ha hb
    go_enter Tryd.func125, Tryd.ntmps125
    go_wp2_with (first
      | (go_at_call 76; refine H.out.mono ?_; rintro e w1 ⟨rfl, hd⟩; have HD := Lib.hid hd; clear hd)
      | (go_at_call 109; refine (H2.out _ HD.out).mono ?_; rintro e w2 ⟨v, rfl, hv, hb⟩))
    go_ret2
    exact ⟨v, rfl, hv, (HD.out.below).trans (hb.mono (by rw [HD.out.heap]; exact Nat.le_refl _))⟩
end Go.Proofs.YtopbfgmpilnghaaDoor

namespace Go.Proofs.YtopbfgmpilnghaaDoor
open Go.RowKit

/-- a division by one limb d, from above: the limbs from k on are divided -/
structure Down (d : Nat) (f F : Nat → Nat) (n k r : Nat) : Prop where
  fits : Fits n F
  zero : ∀ j, j < k → F j = 0
  rest : r < d
  sum : d * nv F n + r * 4294967296 ^ k + nv f k = nv f n

theorem Down.start {d n : Nat} (f : Nat → Nat) (hd : 0 < d) : Down d f (fun _ => 0) n n 0 :=
  ⟨fun _ _ => by omega, fun _ _ => rfl, hd, by rw [nv_zeros, Nat.mul_zero]; omega⟩

theorem Down.step {d n k r : Nat} {f F : Nat → Nat} (h : Down d f F n (k + 1) r) (hk : k < n) (hf : f k < 4294967296) (hd : d ≤ 4294967296) :
    Down d f (upd F k ((r * 4294967296 + f k) / d)) n k ((r * 4294967296 + f k) % d) := by
  obtain ⟨h1, h2, h3, h4⟩ := h
  have hd0 : 0 < d := by omega
  have hq : (r * 4294967296 + f k) / d < 4294967296 := by
    rw [Nat.div_lt_iff_lt_mul hd0]
    have : (r + 1) * 4294967296 ≤ d * 4294967296 := Nat.mul_le_mul_right _ h3
    rw [Nat.mul_comm 4294967296 d]
    omega
  refine ⟨h1.upd _ hq, fun j hj => by rw [upd_other _ _ (by omega)]; exact h2 j (by omega), Nat.mod_lt _ hd0, ?_⟩
  have e := nv_upd F k ((r * 4294967296 + f k) / d) n hk
  rw [h2 k (by omega), Nat.zero_mul, Nat.add_zero] at e
  have e2 := Nat.div_add_mod (r * 4294967296 + f k) d
  simp only [nv] at h4
  rw [e, Nat.mul_add, ← h4, Nat.pow_succ]
  generalize (r * 4294967296 + f k) / d = q at *
  generalize (r * 4294967296 + f k) % d = s at *
  generalize 4294967296 ^ k = P at *
  have e3 := congrArg (· * P) e2
  simp only [Nat.add_mul] at e3
  have e4 : d * (q * P) = d * q * P := by rw [Nat.mul_assoc]
  have e5 : r * (P * 4294967296) = r * 4294967296 * P := by simp only [Nat.mul_comm, Nat.mul_left_comm, Nat.mul_assoc]
  rw [e4, e5]
  omega

theorem Down.done {d n r : Nat} {f F : Nat → Nat} (h : Down d f F n 0 r) : nv F n = nv f n / d ∧ r = nv f n % d := by
  obtain ⟨h1, h2, h3, h4⟩ := h
  simp only [nv, Nat.pow_zero, Nat.mul_one, Nat.add_zero] at h4
  rw [← h4]
  rw [Nat.mul_add_div (by omega), Nat.div_eq_of_lt h3, Nat.mul_add_mod, Nat.mod_eq_of_lt h3]
  exact ⟨rfl, rfl⟩

theorem or_limb (r x : Nat) (hr : r < 4294967296) (hx : x < 4294967296) : bits .or .u64 ((r : Int) * 4294967296) (x : Int) = ((r * 4294967296 + x : Nat) : Int) := by
  have e : (r : Int) * 4294967296 = ((r * 4294967296 : Nat) : Int) := by omega
  rw [e, bits_or_u64_nat _ _ (by omega) (by omega)]
  have := Nat.two_pow_add_eq_or_of_lt (i := 32) (b := x) (by omega) r
  rw [show r * 4294967296 = 2 ^ 32 * r from by omega, ← this]

set_option maxRecDepth 100000 in
set_option maxHeartbeats 2000000 in
theorem third_row {b off n cap : Nat} {f : Nat → Nat} {w : World} (hn : n ≤ 536870912) (h0 : 0 < n) (hf : Hid (Fits n f)) (hB : Hid (b < w.heap.size))
    (hc : Hid (∀ j, j < n → w.cell? ⟨b, off + j, none⟩ = some (.int .u32 (f j)))) :
    Calls Tryd.prog 110 #[.slice (some ⟨b, off, none⟩) n cap] w fun e w' => ∃ v, e = .returned v ∧ Nt w' v (nv f n / 3) ∧ Below w.heap.size w w' := by
  obtain ⟨i0, hi, hz0, hz1, hz2⟩ := info_parts info_u32
  go_enter Tryd.func110, Tryd.ntmps110
  go_wp2_with (at_make; refine wpList_make_row _ rfl _ _ 22 rfl 46 i0 .u32 Tryd.underlying22 hi hz0 hz1 _ _ _ _ n n rfl rfl (by omega) (by omega) (by omega) (by rw [hz2]; omega) (by omega) ?_; intro w1 hown hgrow hsz)
  have hbw : Below w.heap.size w w1 := (Below.refl _ w).grown hgrow (Nat.le_refl _) (fun k e => by cases e)
  have HOWN := Lib.hid hown
  have HBW := Lib.hid hbw
  clear hown hgrow hsz hbw
  go_loopw [4, 5] (fun rs i wr => ∃ (k r : Nat) (F : Nat → Nat), k ≤ n ∧ i = .int .i64 ((k : Int) - 1) ∧ rs = .int .u64 r ∧ Hid (Own .u32 wr w.heap.size 46 n F) ∧ Hid (Down 3 f F n k r) ∧ Hid (Below w.heap.size w wr)) (fun _ i _ => (intOf i + 1).toNat)
  case atStart => exact ⟨n, 0, _, Nat.le_refl _, rfl, rfl, HOWN, Down.start f (by omega), HBW⟩
  case round =>
    obtain ⟨k, r, F, hk, rfl, rfl, hown, hdn, hbw⟩ := hrel
    by_cases hk0 : k = 0
    · subst hk0
      have hmk : Calls Tryd.prog 86 #[.slice (some ⟨w.heap.size, 0, none⟩) n n] wr _ := make_nt (hown.out.rd (Nat.le_refl _) (Nat.le_refl _) (by unfold maxLen; omega)) (by omega) hdn.out.fits
      have HMK := Lib.hid hmk
      clear hmk
      go_wp2_with (go_at_call 86; refine HMK.out.mono ?_; rintro e w3 ⟨v, rfl, hv, hb3⟩)
      go_ret
      exact ⟨v, rfl, by rw [← (hdn.out.done).1]; exact hv, hbw.out.trans (hb3.mono hbw.out.size)⟩
    · obtain ⟨m, rfl⟩ : ∃ m, k = m + 1 := ⟨k - 1, by omega⟩
      have hm : (((m + 1 : Nat) : Int) - 1) = (m : Int) := by omega
      rw [hm]
      have hcell : wr.cell? ⟨b, off + m, none⟩ = _ := (hbw.out.cell (p := ⟨b, off + m, none⟩) hB.out).trans (hc.out m (by omega))
      have hfm := hf.out m (by omega)
      have hr := hdn.out.rest
      have hor := or_limb r (f m) (by omega) hfm
      have hco := hown.out.cell (j := m) (by omega)
      have hfo := hown.out.free m
      go_wp2_with fail
      go_roundw
      case rel => exact ⟨m, (r * 4294967296 + f m) % 3, upd F m ((r * 4294967296 + f m) / 3), Nat.le_of_succ_le hk, rfl, val_eq (by omega), hown.out.put m _ (by omega), hdn.out.step (by omega) hfm (by omega), hbw.out.setCell (Nat.le_refl _) _⟩
      case measure => simp [intOf] <;> omega

set_option maxRecDepth 100000 in
set_option maxHeartbeats 1000000 in
theorem third_none {ao : Option Addr} {cap : Nat} {w : World} :
    Calls Tryd.prog 110 #[.slice ao 0 cap] w fun e w' => ∃ v, e = .returned v ∧ Nt w' v 0 ∧ Below w.heap.size w w' := by
  obtain ⟨i0, hi, hz0, hz1, hz2⟩ := info_parts info_u32
  go_enter Tryd.func110, Tryd.ntmps110
  go_wp2_with (at_make; refine wpList_make_row _ rfl _ _ 22 rfl 46 i0 .u32 Tryd.underlying22 hi hz0 hz1 _ _ _ _ 0 0 rfl rfl (by omega) (by omega) (by omega) (by rw [hz2]; omega) (by omega) ?_; intro w1 hown hgrow hsz)
  have hbw : Below w.heap.size w w1 := (Below.refl _ w).grown hgrow (Nat.le_refl _) (fun k e => by cases e)
  have hmk : Calls Tryd.prog 86 #[.slice (some ⟨w.heap.size, 0, none⟩) 0 0] w1 _ := make_nt (hown.rd (Nat.le_refl _) (Nat.le_refl _) (by unfold maxLen; omega)) (by omega) (fun _ h => absurd h (by omega))
  have HMK := Lib.hid hmk
  have HBW := Lib.hid hbw
  clear hown hgrow hsz hbw hmk
  go_loopw [4, 5] (fun rs i wr => i = .int .i64 (-1) ∧ rs = .int .u64 0 ∧ wr = w1) (fun _ i _ => 0)
  case atStart => exact ⟨rfl, rfl, rfl⟩
  case round =>
    obtain ⟨rfl, rfl, rfl⟩ := hrel
    go_wp2_with (go_at_call 86; refine HMK.out.mono ?_; rintro e w3 ⟨v, rfl, hv, hb3⟩)
    go_ret
    exact ⟨v, rfl, hv, HBW.out.trans (hb3.mono HBW.out.size)⟩

/-- mul.third: over 3, cut. -/
theorem third_nt {v : Value} {a : Nat} {w : World} (ha : Nt w v a) (la : limbs a ≤ 536870912) :
    Calls Tryd.prog 110 #[v] w fun e w' => ∃ v, e = .returned v ∧ Nt w' v (a / 3) ∧ Below w.heap.size w w' := by
  obtain ⟨ao, cap, f, rfl, ra, fta, na, va⟩ := ha.open
  by_cases h0 : limbs a = 0
  · rw [h0] at va ⊢
    obtain rfl : a = 0 := va.symm
    exact third_none
  · obtain ⟨b, off, rfl, hb, hc⟩ := ra.at (by omega)
    have := third_row (cap := cap) la (by omega) fta hb hc
    rw [va] at this
    exact this
end Go.Proofs.YtopbfgmpilnghaaDoor
