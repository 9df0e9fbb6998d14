/- mul.School: the product, limb by limb. -/
import Derived.Test.YtopbfgmpilnghaaDoorShr
set_option linter.unusedVariables false
set_option linter.unusedSimpArgs false
namespace Go.Proofs.YtopbfgmpilnghaaDoor
open Go.RowKit

theorem nv_upd (f : Nat → Nat) (i x : Nat) : ∀ n, i < n → nv (upd f i x) n + f i * 4294967296 ^ i = nv f n + x * 4294967296 ^ i := by
  intro n
  induction n with
  | zero => intro h; omega
  | succ n ih =>
    intro h
    simp only [nv]
    by_cases e : i = n
    · subst e
      have e : nv (upd f i x) i = nv f i := nv_congr (fun j hj => upd_other f x (by omega))
      rw [upd_same, e]
      omega
    · have := ih (by omega)
      rw [upd_other f x (by omega)]
      omega

theorem Fits.upd {n : Nat} {f : Nat → Nat} (h : Fits n f) (i : Nat) {x : Nat} (hx : x < 4294967296) : Fits n (upd f i x) := by
  intro j hj
  unfold Go.Proofs.YtopbfgmpilnghaaDoor.upd
  split
  · exact hx
  · exact h j hj

/-- what the inner loop of School holds: F ahead of it, G now, k rounds over -/
structure SchoolIn (fa fb F G : Nat → Nat) (N i k c : Nat) : Prop where
  fits : Fits N G
  carry : c < 4294967296
  old : ∀ j, i + k ≤ j → G j = F j
  sum : nv G N + c * 4294967296 ^ (i + k) = nv F N + fa i * 4294967296 ^ i * nv fb k

theorem SchoolIn.start {fa fb F : Nat → Nat} {N i : Nat} (hF : Fits N F) : SchoolIn fa fb F F N i 0 0 := ⟨hF, by omega, fun _ _ => rfl, by simp [nv]⟩

theorem SchoolIn.step {fa fb F G : Nat → Nat} {N i k c : Nat} (h : SchoolIn fa fb F G N i k c) (hx : fa i < 4294967296) (hy : fb k < 4294967296) (hk : i + k < N) :
    SchoolIn fa fb F (upd G (i + k) ((c + (fa i * fb k + G (i + k))) % 4294967296)) N i (k + 1) ((c + (fa i * fb k + G (i + k))) / 4294967296) := by
  obtain ⟨hf, hc, ho, hs⟩ := h
  have hg := hf (i + k) hk
  have hp : fa i * fb k ≤ 4294967295 * 4294967295 := Nat.mul_le_mul (by omega) (by omega)
  refine ⟨hf.upd _ (Nat.mod_lt _ (by omega)), ?_, fun j hj => ?_, ?_⟩
  · rw [Nat.div_lt_iff_lt_mul (by omega)]; omega
  · rw [upd_other _ _ (by omega)]; exact ho j (by omega)
  · have h1 := nv_upd G (i + k) ((c + (fa i * fb k + G (i + k))) % 4294967296) N hk
    have h2 := Nat.div_add_mod (c + (fa i * fb k + G (i + k))) 4294967296
    simp only [nv]
    rw [show i + (k + 1) = i + k + 1 from by omega, Nat.pow_succ, Nat.mul_add]
    have e1 : fa i * 4294967296 ^ i * (fb k * 4294967296 ^ k) = fa i * fb k * 4294967296 ^ (i + k) := by rw [Nat.pow_add]; simp only [Nat.mul_comm, Nat.mul_left_comm, Nat.mul_assoc]
    rw [e1, ← Nat.add_assoc (nv F N), ← hs]
    clear e1 hs hp hg hf ho
    generalize (c + (fa i * fb k + G (i + k))) % 4294967296 = r at *
    generalize (c + (fa i * fb k + G (i + k))) / 4294967296 = q at *
    generalize 4294967296 ^ (i + k) = P at *
    generalize fa i * fb k = t at *
    generalize G (i + k) = g at *
    have h3 := congrArg (· * P) h2
    simp only [Nat.add_mul] at h3
    have e2 : q * (P * 4294967296) = 4294967296 * q * P := by simp only [Nat.mul_comm, Nat.mul_left_comm, Nat.mul_assoc]
    rw [e2]
    omega

/-- what the outer loop of School holds -/
structure SchoolOut (fa fb F : Nat → Nat) (n m i : Nat) : Prop where
  fits : Fits (n + m) F
  zero : ∀ j, i + m ≤ j → F j = 0
  prod : nv F (n + m) = nv fa i * nv fb m

theorem SchoolOut.start (fa fb : Nat → Nat) (n m : Nat) : SchoolOut fa fb (fun _ => 0) n m 0 :=
  ⟨fun _ _ => by omega, fun _ _ => rfl, by rw [nv_high_zero (m := 0) (Nat.zero_le _) (fun _ _ _ => rfl)]; simp [nv]⟩

theorem SchoolOut.step {fa fb F G : Nat → Nat} {n m i c : Nat} (h : SchoolOut fa fb F n m i) (hi : i < n) (hin : SchoolIn fa fb F G (n + m) i m c) : SchoolOut fa fb (upd G (i + m) c) n m (i + 1) := by
  obtain ⟨hf, hz, hp⟩ := h
  obtain ⟨hf2, hc, ho, hs⟩ := hin
  refine ⟨hf2.upd _ hc, fun j hj => by rw [upd_other _ _ (by omega), ho j (by omega)]; exact hz j (by omega), ?_⟩
  have h1 := nv_upd G (i + m) c (n + m) (by omega)
  rw [ho (i + m) (Nat.le_refl _), hz (i + m) (Nat.le_refl _), Nat.zero_mul, Nat.add_zero] at h1
  simp only [nv]
  rw [h1, hs, hp, Nat.add_mul]

theorem val_eq {k : IntKind} {a b : Int} (h : a = b) : Value.int k a = Value.int k b := by rw [h]
theorem Own.put {k : IntKind} {W : World} {g : Nat} {e : TypeId} {N : Nat} {f : Nat → Nat} (h : Own k W g e N f) (i x : Nat) {v : Int} (hv : v = (x : Int)) : Own k (W.setCell ⟨g, i, none⟩ (.int k v)) g e N (upd f i x) := by
  subst hv
  exact h.set i x

theorem cell_bound {c x y g : Nat} (hc : c < 4294967296) (hx : x < 4294967296) (hy : y < 4294967296) (hg : g < 4294967296) :
    (0 : Int) ≤ (x : Int) * (y : Int) ∧ (x : Int) * (y : Int) ≤ 18446744065119617025 := by
  have h : x * y ≤ 4294967295 * 4294967295 := Nat.mul_le_mul (by omega) (by omega)
  refine ⟨Int.mul_nonneg (by omega) (by omega), ?_⟩
  rw [← Int.natCast_mul]
  omega

set_option maxRecDepth 100000 in
set_option maxHeartbeats 4000000 in
theorem school_row {ba oa bb ob n m ca cb : Nat} {fa fb : Nat → Nat} {w : World} (hn : n ≤ 268435456) (hm : m ≤ 268435456) (h0 : 0 < n) (h1 : 0 < m) (hfa : Hid (Fits n fa)) (hfb : Hid (Fits m fb)) (hB : Hid (ba < w.heap.size ∧ bb < w.heap.size))
    (ha : Hid (∀ j, j < n → w.cell? ⟨ba, oa + j, none⟩ = some (.int .u32 (fa j)))) (hb : Hid (∀ j, j < m → w.cell? ⟨bb, ob + j, none⟩ = some (.int .u32 (fb j)))) :
    Calls Tryd.prog 90 #[.slice (some ⟨ba, oa, none⟩) n ca, .slice (some ⟨bb, ob, none⟩) m cb] w fun e w' => ∃ v, e = .returned v ∧ Nt w' v (nv fa n * nv fb m) ∧ Below w.heap.size w w' := by
  obtain ⟨i0, hi, hz0, hz1, hz2⟩ := info_parts info_u32
  go_enter Tryd.func90, Tryd.ntmps90
  go_wp2_with (at_make; refine wpList_make_row _ rfl _ _ 22 rfl 46 i0 .u32 Tryd.underlying22 hi hz0 hz1 _ _ _ _ (n + m) (n + m) rfl rfl (by omega) (by omega) (by omega) (by rw [hz2]; omega) (by omega) ?_; intro w1 hown hgrow hsz)
  have hbw : Below w.heap.size w w1 := (Below.refl _ w).grown hgrow (Nat.le_refl _) (fun k e => by cases e)
  have HOWN := Lib.hid hown
  have HBW := Lib.hid hbw
  clear hown hgrow hsz hbw
  go_loopw [19] (fun i wr => ∃ (k : Nat) (F : Nat → Nat), k ≤ n ∧ i = .int .i64 k ∧ Hid (Own .u32 wr w.heap.size 46 (n + m) F) ∧ Hid (SchoolOut fa fb F n m k) ∧ Hid (Below w.heap.size w wr)) (fun i _ => n - (intOf i).toNat)
  case atStart => exact ⟨0, _, Nat.zero_le _, rfl, HOWN, SchoolOut.start fa fb n m, HBW⟩
  case round =>
    obtain ⟨i, F, hin, rfl, hown, hsc, hbw⟩ := hrel
    by_cases hlt : i < n
    · have hcell : wr.cell? ⟨ba, oa + i, none⟩ = _ := (hbw.out.cell (p := ⟨ba, oa + i, none⟩) hB.out.1).trans (ha.out i hlt)
      have hxi := hfa.out i hlt
      go_wp2_with fail
      obtain ⟨wo, hwo⟩ : ∃ wo : World, wo = wr := ⟨_, rfl⟩
      go_loopw [8, 26] (fun cr j wr => ∃ (k c : Nat) (G : Nat → Nat), k ≤ m ∧ j = .int .i64 k ∧ cr = .int .u64 c ∧ Hid (Own .u32 wr w.heap.size 46 (n + m) G) ∧ Hid (SchoolIn fa fb F G (n + m) i k c) ∧ Hid (Below w.heap.size w wr)) (fun _ j _ => m - (intOf j).toNat)
      case atStart => exact ⟨0, 0, F, Nat.zero_le _, rfl, rfl, hown, SchoolIn.start hsc.out.fits, hbw⟩
      case round =>
        obtain ⟨k, c, G, hkm, rfl, rfl, hown, hsi, hbw⟩ := hrel
        by_cases hlt2 : k < m
        · have hcell2 : wr.cell? ⟨bb, ob + k, none⟩ = _ := (hbw.out.cell (p := ⟨bb, ob + k, none⟩) hB.out.2).trans (hb.out k hlt2)
          have hyk := hfb.out k hlt2
          have hgk := hsi.out.fits (i + k) (by omega)
          have hck := hsi.out.carry
          have hbd := cell_bound hck hxi hyk hgk
          have hco := hown.out.cell (j := i + k) (by omega)
          have hfo := hown.out.free (i + k)
          go_wp2_with fail
          go_roundw
          case rel =>
            have e := Int.natCast_mul (fa i) (fb k)
            exact ⟨k + 1, _, _, by omega, by go_num, val_eq (by omega), hown.out.put (i + k) _ (by omega), hsi.out.step hxi hyk (by omega), hbw.out.setCell (Nat.le_refl _) _⟩
          case measure => simp [intOf]; omega
        · obtain rfl : k = m := by omega
          have hck := hsi.out.carry
          have hzero := hown.out.cell (j := i + k) (by omega)
          have hfo := hown.out.free (i + k)
          go_wp2_with fail
          go_roundw
          case rel => exact ⟨i + 1, _, by omega, by go_num, hown.out.put (i + k) c rfl, hsc.out.step hlt hsi.out, hbw.out.setCell (Nat.le_refl _) _⟩
          case measure => simp [intOf]; omega
    · obtain rfl : i = n := by omega
      go_wp2_with (go_at_call 86; refine (make_nt (hown.out.rd (Nat.le_refl _) (Nat.le_refl _) (by unfold maxLen; omega)) (by omega) hsc.out.fits).mono ?_; rintro e w3 ⟨v, rfl, hv, hb3⟩)
      go_ret
      exact ⟨v, rfl, by rw [← hsc.out.prod]; exact hv, hbw.out.trans (hb3.mono hbw.out.size)⟩

theorem nv_zeros (n : Nat) : nv (fun _ => 0) n = 0 := by rw [nv_high_zero (m := 0) (Nat.zero_le _) (fun _ _ _ => rfl)]; rfl

set_option maxRecDepth 100000 in
set_option maxHeartbeats 1000000 in
theorem school_left {aa ab : Option Addr} {m ca cb : Nat} {w : World} (hm : m ≤ 268435456) :
    Calls Tryd.prog 90 #[.slice aa 0 ca, .slice ab m cb] w fun e w' => ∃ v, e = .returned v ∧ Nt w' v 0 ∧ Below w.heap.size w w' := by
  obtain ⟨i0, hi, hz0, hz1, hz2⟩ := info_parts info_u32
  go_enter Tryd.func90, Tryd.ntmps90
  go_wp2_with (at_make; refine wpList_make_row _ rfl _ _ 22 rfl 46 i0 .u32 Tryd.underlying22 hi hz0 hz1 _ _ _ _ m m rfl rfl (by omega) (by omega) (by omega) (by rw [hz2]; omega) (by omega) ?_; intro w1 hown hgrow hsz)
  have hbw : Below w.heap.size w w1 := (Below.refl _ w).grown hgrow (Nat.le_refl _) (fun k e => by cases e)
  have HOWN := Lib.hid hown
  have HBW := Lib.hid hbw
  clear hown hgrow hsz hbw
  go_loopw [19] (fun i wr => i = .int .i64 0 ∧ wr = w1) (fun i _ => 0)
  case atStart => exact ⟨rfl, rfl⟩
  case round =>
    obtain ⟨rfl, rfl⟩ := hrel
    go_wp2_with (go_at_call 86; refine (make_nt (HOWN.out.rd (Nat.le_refl _) (Nat.le_refl _) (by unfold maxLen; omega)) (by omega) (fun _ _ => by omega)).mono ?_; rintro e w3 ⟨v, rfl, hv, hb3⟩)
    go_ret
    exact ⟨v, rfl, by rw [nv_zeros] at hv; exact hv, HBW.out.trans (hb3.mono HBW.out.size)⟩

set_option maxRecDepth 100000 in
set_option maxHeartbeats 2000000 in
theorem school_right {ba oa n ca cb : Nat} {ab : Option Addr} {fa : Nat → Nat} {w : World} (hn : n ≤ 268435456) (h0 : 0 < n) (hB : Hid (ba < w.heap.size))
    (ha : Hid (∀ j, j < n → w.cell? ⟨ba, oa + j, none⟩ = some (.int .u32 (fa j)))) :
    Calls Tryd.prog 90 #[.slice (some ⟨ba, oa, none⟩) n ca, .slice ab 0 cb] w fun e w' => ∃ v, e = .returned v ∧ Nt w' v 0 ∧ Below w.heap.size w w' := by
  obtain ⟨i0, hi, hz0, hz1, hz2⟩ := info_parts info_u32
  go_enter Tryd.func90, Tryd.ntmps90
  go_wp2_with (at_make; refine wpList_make_row _ rfl _ _ 22 rfl 46 i0 .u32 Tryd.underlying22 hi hz0 hz1 _ _ _ _ n n rfl rfl (by omega) (by omega) (by omega) (by rw [hz2]; omega) (by omega) ?_; intro w1 hown hgrow hsz)
  have hbw : Below w.heap.size w w1 := (Below.refl _ w).grown hgrow (Nat.le_refl _) (fun k e => by cases e)
  have HOWN := Lib.hid hown
  have HBW := Lib.hid hbw
  clear hown hgrow hsz hbw
  go_loopw [19] (fun i wr => ∃ k : Nat, k ≤ n ∧ i = .int .i64 k ∧ Hid (Own .u32 wr w.heap.size 46 n (fun _ => 0)) ∧ Hid (Below w.heap.size w wr)) (fun i _ => n - (intOf i).toNat)
  case atStart => exact ⟨0, Nat.zero_le _, rfl, HOWN, HBW⟩
  case round =>
    obtain ⟨i, hin, rfl, hown, hbw⟩ := hrel
    by_cases hlt : i < n
    · have hcell : wr.cell? ⟨ba, oa + i, none⟩ = _ := (hbw.out.cell (p := ⟨ba, oa + i, none⟩) hB.out).trans (ha.out i hlt)
      have hzero := hown.out.cell (j := i) (by omega)
      have hfo := hown.out.free i
      go_wp2_with fail
      obtain ⟨wo, hwo⟩ : ∃ wo : World, wo = wr := ⟨_, rfl⟩
      go_loopw [8, 26] (fun cr j w2 => j = .int .i64 0 ∧ cr = .int .u64 0 ∧ w2 = wr) (fun _ j _ => 0)
      case atStart => exact ⟨rfl, rfl, rfl⟩
      case round =>
        obtain ⟨rfl, rfl, rfl⟩ := hrel
        go_wp2_with fail
        go_roundw
        case rel => exact ⟨i + 1, by omega, by go_num, (hown.out.put i 0 rfl).congr (fun j _ => by unfold upd; split <;> rfl), hbw.out.setCell (Nat.le_refl _) _⟩
        case measure => simp [intOf]; omega
    · obtain rfl : i = n := by omega
      go_wp2_with (go_at_call 86; refine (make_nt (hown.out.rd (Nat.le_refl _) (Nat.le_refl _) (by unfold maxLen; omega)) (by omega) (fun _ _ => by omega)).mono ?_; rintro e w3 ⟨v, rfl, hv, hb3⟩)
      go_ret
      exact ⟨v, rfl, by rw [nv_zeros] at hv; exact hv, hbw.out.trans (hb3.mono hbw.out.size)⟩

/-- mul.School: the product. -/
theorem school_nt {va vb : Value} {a b : Nat} {w : World} (ha : Nt w va a) (hb : Nt w vb b) (la : limbs a ≤ 268435456) (lb : limbs b ≤ 268435456) :
    Calls Tryd.prog 90 #[va, vb] w fun e w' => ∃ v, e = .returned v ∧ Nt w' v (a * b) ∧ Below w.heap.size w w' := by
  obtain ⟨aa, ca, fa, rfl, ra, fta, na, va⟩ := ha.open
  obtain ⟨ab, cb, fb, rfl, rb, ftb, nb, vb⟩ := hb.open
  by_cases h0 : limbs a = 0
  · rw [h0] at va ⊢
    obtain rfl : a = 0 := va.symm
    rw [Nat.zero_mul]
    exact school_left lb
  · obtain ⟨ba, oa, rfl, lt1, hca⟩ := ra.at (by omega)
    by_cases h1 : limbs b = 0
    · rw [h1] at vb ⊢
      obtain rfl : b = 0 := vb.symm
      rw [Nat.mul_zero]
      exact school_right la (by omega) lt1 hca
    · obtain ⟨bb, ob, rfl, lt2, hcb⟩ := rb.at (by omega)
      have := school_row (ca := ca) (cb := cb) la lb (by omega) (by omega) fta ftb ⟨lt1, lt2⟩ hca hcb
      rw [va, vb] at this
      exact this
end Go.Proofs.YtopbfgmpilnghaaDoor
