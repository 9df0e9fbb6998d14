/- nat.Shr: over a power of 2, cut. -/
import Derived.Test.YtopbfgmpilnghaaDoorShl
import Derived.Deep.RegionLaw
import Derived.Deep.AppendLies
set_option linter.unusedVariables false
set_option linter.unusedSimpArgs false
namespace Go.Proofs.YtopbfgmpilnghaaDoor
open Go.RowKit

/-- a limb of a natural that is shifted down by q limbs and s bits -/
def shrG (f : Nat → Nat) (q s m : Nat) (j : Nat) : Nat := f (q + j) / 2 ^ s + lim m f (q + j + 1) % 2 ^ s * 2 ^ (32 - s)

theorem pow_parts {s : Nat} (hs : s < 32) : (2 : Nat) ^ s * 2 ^ (32 - s) = 4294967296 := by rw [← Nat.pow_add, show s + (32 - s) = 32 from by omega]

theorem nv_shift (f : Nat → Nat) (q d : Nat) : nv f (q + d) = nv f q + 4294967296 ^ q * nv (fun j => f (q + j)) d := by
  induction d with
  | zero => simp [nv]
  | succ d ih =>
    rw [← Nat.add_assoc]
    simp only [nv]
    rw [ih, Nat.pow_add, Nat.mul_add]
    have : f (q + d) * (4294967296 ^ q * 4294967296 ^ d) = 4294967296 ^ q * (f (q + d) * 4294967296 ^ d) := by simp only [Nat.mul_comm, Nat.mul_left_comm, Nat.mul_assoc]
    omega

theorem shr_one (f : Nat → Nat) (q s m : Nat) (hs : s < 32) (d : Nat) (hd : q + d < m) : shrG f q s m d * 2 ^ s + lim m f (q + d) % 2 ^ s = f (q + d) + lim m f (q + d + 1) % 2 ^ s * 4294967296 := by
  have hl : lim m f (q + d) = f (q + d) := by unfold lim; rw [if_pos hd]
  unfold shrG
  rw [hl, ← pow_parts hs, Nat.add_mul]
  have h1 := Nat.div_add_mod (f (q + d)) (2 ^ s)
  rw [Nat.mul_comm (2 ^ s)] at h1
  have h2 : lim m f (q + d + 1) % 2 ^ s * 2 ^ (32 - s) * 2 ^ s = lim m f (q + d + 1) % 2 ^ s * (2 ^ s * 2 ^ (32 - s)) := by rw [Nat.mul_assoc, Nat.mul_comm (2 ^ (32 - s))]
  omega

theorem shr_part (f : Nat → Nat) (q s m : Nat) (hs : s < 32) (d : Nat) (hd : q + d ≤ m) :
    nv (shrG f q s m) d * 2 ^ s + lim m f q % 2 ^ s = nv (fun j => f (q + j)) d + lim m f (q + d) % 2 ^ s * 4294967296 ^ d := by
  induction d with
  | zero => simp [nv]
  | succ d ih =>
    have ih := ih (by omega)
    have hg := shr_one f q s m hs d (by omega)
    simp only [nv]
    rw [Nat.pow_succ, ← Nat.add_assoc q d 1, Nat.add_mul]
    generalize lim m f (q + d + 1) % 2 ^ s = r' at *
    generalize lim m f (q + d) % 2 ^ s = r at *
    generalize lim m f q % 2 ^ s = r0 at *
    generalize (2 : Nat) ^ s = P at *
    generalize 4294967296 ^ d = Q at *
    have h3 := congrArg (· * Q) hg
    simp only [Nat.add_mul] at h3
    have h4 : shrG f q s m d * Q * P = shrG f q s m d * P * Q := by rw [Nat.mul_right_comm]
    have h5 : r' * (Q * 4294967296) = r' * 4294967296 * Q := by rw [Nat.mul_comm Q, Nat.mul_assoc]
    rw [h4, h5]
    omega

theorem shr_law {f : Nat → Nat} {m n : Nat} (hf : Fits m f) (h : n / 32 ≤ m) : nv (shrG f (n / 32) (n % 32) m) (m - n / 32) = nv f m / 2 ^ n := by
  have hs : n % 32 < 32 := Nat.mod_lt _ (by omega)
  have h1 := shr_part f (n / 32) (n % 32) m hs (m - n / 32) (by omega)
  have h2 := nv_shift f (n / 32) (m - n / 32)
  rw [show n / 32 + (m - n / 32) = m from by omega] at h1 h2
  have h3 : lim m f m = 0 := by unfold lim; rw [if_neg (by omega)]
  rw [h3, Nat.zero_mod, Nat.zero_mul, Nat.add_zero] at h1
  have h4 := nv_lt (hf.mono h)
  have hp : 0 < 4294967296 ^ (n / 32) := Nat.pow_pos (by omega)
  have h5 : (2 : Nat) ^ n = 4294967296 ^ (n / 32) * 2 ^ (n % 32) := by rw [pow32, ← Nat.pow_add, show 32 * (n / 32) + n % 32 = n from by omega]
  have h6 : lim m f (n / 32) % 2 ^ (n % 32) < 2 ^ (n % 32) := Nat.mod_lt _ (Nat.pow_pos (by omega))
  rw [h5, ← Nat.div_div_eq_div_mul, h2, Nat.add_mul_div_left _ _ hp, Nat.div_eq_of_lt h4, Nat.zero_add, ← h1]
  rw [Nat.mul_comm, Nat.mul_add_div (Nat.pow_pos (by omega)), Nat.div_eq_of_lt h6, Nat.add_zero]

theorem shrG_fits {f : Nat → Nat} {q s m : Nat} (hf : Fits m f) (hs : s < 32) : Fits (m - q) (shrG f q s m) := by
  intro j hj
  unfold shrG
  have h1 := hf (q + j) (by omega)
  have h2 := pow_parts hs
  have h3 : f (q + j) / 2 ^ s < 2 ^ (32 - s) := by
    rw [Nat.div_lt_iff_lt_mul (Nat.pow_pos (by omega)), Nat.mul_comm, h2]; exact h1
  have h4 : (lim m f (q + j + 1) % 2 ^ s + 1) * 2 ^ (32 - s) ≤ 2 ^ s * 2 ^ (32 - s) := Nat.mul_le_mul_right _ (Nat.mod_lt _ (Nat.pow_pos (by omega)))
  rw [Nat.add_mul] at h4
  omega

theorem or_high (a x s : Nat) (ha : a < 4294967296) (hs : s < 32) : (a / 2 ^ s) ||| (x * 4294967296 / 2 ^ s % 4294967296) = a / 2 ^ s + x % 2 ^ s * 2 ^ (32 - s) := by
  have h2 := pow_parts hs
  have h3 : a / 2 ^ s < 2 ^ (32 - s) := by
    rw [Nat.div_lt_iff_lt_mul (Nat.pow_pos (by omega)), Nat.mul_comm, h2]; exact ha
  have h4 : x * 4294967296 / 2 ^ s = x * 2 ^ (32 - s) := by
    rw [← h2, Nat.mul_left_comm, Nat.mul_div_cancel_left _ (Nat.pow_pos (by omega))]
  have h5 : x * 2 ^ (32 - s) % 4294967296 = 2 ^ (32 - s) * (x % 2 ^ s) := by
    rw [← h2, Nat.mul_mod_mul_right, Nat.mul_comm]
  rw [h4, h5, Nat.or_comm, ← Nat.two_pow_add_eq_or_of_lt h3, Nat.mul_comm]
  omega

theorem or_high_int (a x s : Nat) (ha : a < 4294967296) (hx : x < 4294967296) (hs : s < 32) : bits .or .u32 ((a : Int) / 2 ^ s) ((x : Int) * 4294967296 / 2 ^ s % 4294967296) = ((a / 2 ^ s + x % 2 ^ s * 2 ^ (32 - s) : Nat) : Int) := by
  have e1 : (a : Int) / 2 ^ s = ((a / 2 ^ s : Nat) : Int) := by simp
  have e2 : (x : Int) * 4294967296 / 2 ^ s % 4294967296 = ((x * 4294967296 / 2 ^ s % 4294967296 : Nat) : Int) := by simp
  have h1 : a / 2 ^ s < 4294967296 := Nat.lt_of_le_of_lt (Nat.div_le_self _ _) ha
  rw [e1, e2, (bits_nat_u32 _ _ h1 (Nat.mod_lt _ (by omega))).2.1, or_high a x s ha hs]

theorem cell_one_drew (w : World) (x : Value) (t : TypeId) : ∀ j u, [x][j]? = some u → (w.alloc (.cells #[x] t)).drew.cell? ((⟨w.heap.size, 0, none⟩ : Addr).add j) = some u := cell_one_new w x t

/-- nat.at, its place as the walk spells it -/
theorem at_int {v : Value} {n : Nat} {f : Nat → Nat} {w : World} (h : Rd .u32 w v n f) (i : Int) (j : Nat) (hj : i = (j : Int)) (hb : j < 4611686018427387904) :
    Calls Tryd.prog 102 #[v, .int .i64 i] w fun e w' => e = .returned (.int .u32 (lim n f j : Int)) ∧ w = w' := by
  subst hj
  exact at_any h j hb

set_option maxRecDepth 100000 in
set_option maxHeartbeats 2000000 in
theorem shr_row {b off m cap n : Nat} {f : Nat → Nat} {w : World} (hm : m ≤ 536870912) (hn : n / 32 < m) (hf : Hid (Fits m f)) (hB : Hid (b < w.heap.size)) (hcap : Hid (m ≤ cap ∧ cap ≤ maxLen))
    (hc : Hid (∀ j, j < m → w.cell? ⟨b, off + j, none⟩ = some (.int .u32 (f j)))) :
    Calls Tryd.prog 80 #[.slice (some ⟨b, off, none⟩) m cap, .int .i64 n] w fun e w' => ∃ v, e = .returned v ∧ Rd .u32 w' v (trim (shrG f (n / 32) (n % 32) m) (m - n / 32)) (shrG f (n / 32) (n % 32) m) ∧ Below w.heap.size w w' := by
  obtain ⟨i0, hi, hz0, hz1, hz2⟩ := info_parts info_u32
  have hd0 : decide ((m : Int) ≤ (n : Int) / 32) = false := by simp; omega
  go_enter Tryd.func80, Tryd.ntmps80
  go_wp2
  go_loopw [7, 21] (fun v i wr => ∃ k : Nat, k ≤ m - n / 32 ∧ i = .int .i64 k ∧
    Hid (wr.ownsRow w.heap.size 46 1 v k (cellsOf .u32 k (shrG f (n / 32) (n % 32) m))) ∧ Hid (Below w.heap.size w wr)) (fun _ i _ => m - n / 32 - (intOf i).toNat)
  case atStart => exact ⟨0, Nat.zero_le _, rfl, World.ownsRow_nil _ _ _ _, Below.refl _ _⟩
  case round =>
    obtain ⟨k, hk, rfl, hown, hbw⟩ := hrel
    by_cases hlt : k < m - n / 32
    · have hcell : wr.cell? ⟨b, off + (n / 32 + k), none⟩ = _ := (hbw.out.cell (p := ⟨b, off + (n / 32 + k), none⟩) hB.out).trans (hc.out (n / 32 + k) (by omega))
      have hfk := hf.out (n / 32 + k) (by omega)
      have hs : n % 32 < 32 := Nat.mod_lt _ (by omega)
      have hd1 : decide ((k : Int) < (m : Int) - (n : Int) / 32) = true := by simp; omega
      have hrd : Hid (∀ W, W = wr.drew → Rd .u32 W (.slice (some ⟨b, off, none⟩) m cap) m f) := fun W h => by
        rw [h]
        exact ⟨_, cap, rfl, hcap.out.1, hcap.out.2, fun _ => ⟨b, off, rfl, Nat.lt_of_lt_of_le hB.out hbw.out.size, fun j hj => (hbw.out.cell (p := ⟨b, off + j, none⟩) hB.out).trans (hc.out j hj)⟩⟩
      have hx : lim m f (n / 32 + k + 1) < 4294967296 := lim_lt hf.out _
      have hor : bits .or .u32 ((f (n / 32 + k) : Int) / 2 ^ (n % 32)) ((lim m f (n / 32 + k + 1) : Int) * 4294967296 / 2 ^ (n % 32) % 4294967296) = (shrG f (n / 32) (n % 32) m k : Int) := or_high_int _ _ _ hfk hx hs
      have t1 : ((n : Int) % 32).toNat = n % 32 := by omega
      have t2 : IntKind.u64.wrap (lim m f (n / 32 + k + 1) : Int) = (lim m f (n / 32 + k + 1) : Int) := by rw [IntKind.wrap_u64]; omega
      have t3 : IntKind.u64.wrap ((lim m f (n / 32 + k + 1) : Int) * 4294967296) = (lim m f (n / 32 + k + 1) : Int) * 4294967296 := by rw [IntKind.wrap_u64]; omega
      have t4 : IntKind.u32.wrap ((lim m f (n / 32 + k + 1) : Int) * 4294967296 / 2 ^ (n % 32)) = (lim m f (n / 32 + k + 1) : Int) * 4294967296 / 2 ^ (n % 32) % 4294967296 := by rw [IntKind.wrap_u32]
      have hbs := hbw.out.size
      have s1 : IntKind.i64.wrap ((n : Int) / 32 + (k : Int)) = (n : Int) / 32 + (k : Int) := IntWalk.i64_in _ (by omega)
      have s2 : ((n : Int) / 32 + (k : Int)).toNat = n / 32 + k := by omega
      have s3 : IntKind.i64.wrap ((n : Int) / 32 + (k : Int) + 1) = (n : Int) / 32 + (k : Int) + 1 := IntWalk.i64_in _ (by omega)
      have s4 : (0 : Int) ≤ (n : Int) / 32 + (k : Int) := by omega
      have s5 : (n : Int) / 32 + (k : Int) < m := by omega
      go_wp2_with fail
      go_region_law (first
        | (refine step_append_lies _ rfl _ _ 22 rfl w.heap.size 46 i0 (.int .u32 0) 1 4 Tryd.underlying22 hi hz0 hz1 hz2 rfl (by decide) _ _ _ rfl (World.ownsRow.drew (hown.out.alloc _)) ⟨_, 0, none⟩ 1 1 [.int .u32 (shrG f (n / 32) (n % 32) m k : Int)] rfl rfl (cell_one_drew _ _ _) (by simp [Value.oneCell']) (by omega) (by unfold maxLen; omega) (by omega) (by simp; omega) _ rfl ?_; intro g c2 w2 hown2 hg2 _ _)
        | (go_simp; go_at_call 102; (with_reducible refine (at_int (hrd.out _ rfl) ((n : Int) / 32 + (k : Int) + 1) (n / 32 + k + 1) (by omega) (by omega)).mono ?_); rintro e w' ⟨rfl, rfl⟩))
      all_goals
        go_wp2
        go_roundw
        case rel => exact ⟨k + 1, by omega, by go_num, by
            have h := hown2
            rw [← cellsOf_snoc] at h
            exact h, Below.grown (Below.drew (hbw.out.alloc hbs _)) hg2 (by simp; omega) (fun j e => (hown.out.lt j e).1)⟩
        case measure => simp [intOf]; omega
    · obtain rfl : k = m - n / 32 := by omega
      have hd1 : decide (((m - n / 32 : Nat) : Int) < (m : Int) - (n : Int) / 32) = false := by simp; omega
      have hs : n % 32 < 32 := Nat.mod_lt _ (by omega)
      go_wp2_with (go_at_call 86; refine (make_any (Rd.of_own hown.out) (by omega)).mono ?_; rintro e w3 ⟨v, rfl, hv, hb3⟩)
      go_ret
      exact ⟨v, rfl, hv, hbw.out.trans (hb3.mono hbw.out.size)⟩

theorem shr_none {ao : Option Addr} {m cap n : Nat} {w : World} (hm : m ≤ 536870912) (hn : m ≤ n / 32) (hb : n ≤ 4611686018427387904) :
    Calls Tryd.prog 80 #[.slice ao m cap, .int .i64 n] w fun e w' => e = .returned (.slice none 0 0) ∧ w = w' := by
  have hd0 : decide ((m : Int) ≤ (n : Int) / 32) = true := by simp; omega
  go_enter Tryd.func80, Tryd.ntmps80
  go_wp2
  go_ret
  exact ⟨rfl, rfl⟩

/-- nat.Shr: over a power of 2, cut. -/
theorem shr_nt {v : Value} {a n : Nat} {w : World} (ha : Nt w v a) (la : limbs a ≤ 536870912) (hn : n ≤ 4611686018427387904) :
    Calls Tryd.prog 80 #[v, .int .i64 n] w fun e w' => ∃ v, e = .returned v ∧ Nt w' v (a / 2 ^ n) ∧ Below w.heap.size w w' := by
  obtain ⟨ao, cap, f, rfl, ra, fta, na, va⟩ := ha.open
  by_cases h0 : n / 32 < limbs a
  · obtain ⟨b, off, rfl, hb, hc⟩ := ra.at (by omega)
    have hcap : limbs a ≤ cap ∧ cap ≤ maxLen := by
      obtain ⟨ao1, cp1, e, h1, h2, _⟩ := ra
      cases e
      exact ⟨h1, h2⟩
    refine (shr_row la h0 fta hb hcap hc).mono fun e w' ⟨v, he, hv, hbl⟩ => ⟨v, he, ?_, hbl⟩
    have := nt_of_trim hv (shrG_fits fta (Nat.mod_lt _ (by omega)))
    rw [shr_law fta (by omega), va] at this
    exact this
  · have h1 : a < 2 ^ n := by
      have h2 := lt_limbs a
      rw [pow32] at h2
      have h3 : 2 ^ (32 * limbs a) ≤ 2 ^ n := Nat.pow_le_pow_right (by omega) (by omega)
      omega
    rw [Nat.div_eq_of_lt h1]
    exact (shr_none la (by omega) hn).mono fun e w' ⟨he, hw⟩ => ⟨_, he, Nt.nil _, by subst hw; exact Below.refl _ _⟩
end Go.Proofs.YtopbfgmpilnghaaDoor
