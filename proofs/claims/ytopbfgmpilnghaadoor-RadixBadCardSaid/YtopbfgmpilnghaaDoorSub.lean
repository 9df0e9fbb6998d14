/- nat.Sub, nat.Of, nat.Right. -/
import Derived.Test.YtopbfgmpilnghaaDoorCmp
set_option linter.unusedVariables false
set_option linter.unusedSimpArgs false
namespace Go.Proofs.YtopbfgmpilnghaaDoor
open Go.RowKit

theorem Nt.zero (w : World) (ao : Option Addr) (cap : Nat) (h : cap ≤ maxLen) : Nt w (.slice ao 0 cap) 0 :=
  ⟨0, fun _ => 0, ⟨ao, cap, rfl, Nat.zero_le _, h, fun h => absurd h (Nat.lt_irrefl _)⟩, fun _ h => absurd h (Nat.not_lt_zero _), fun h => absurd h (Nat.lt_irrefl _), rfl⟩
theorem Nt.nil (w : World) : Nt w (.slice none 0 0) 0 := Nt.zero w none 0 (Nat.zero_le _)

set_option maxHeartbeats 1000000 in
/-- nat.Sub: the difference, if it is not below 0. -/
theorem sub_yes {va vb : Value} {a b : Nat} {w : World} (ha : Nt w va a) (hb : Nt w vb b) (la : limbs a ≤ 536870912) (h : b ≤ a) :
    Calls Tryd.prog 76 #[va, vb] w fun e w' => ∃ v, e = .returned (.tuple #[v, .bool true]) ∧ Nt w' v (a - b) ∧ Below w.heap.size w w' := by
  have lb := limbs_mono h
  have hcmp := cmp_nt ha hb (by omega) (by omega)
  have hc : 0 ≤ cmpI a b := by unfold cmpI; rw [if_neg (by omega)]; split <;> omega
  generalize cmpI a b = c at *
  obtain ⟨aa, ca, fa, rfl, ra, fta, na, va⟩ := ha.open
  obtain ⟨ab, cb, fb, rfl, rb, ftb, nb, vb⟩ := hb.open
  have ht : nv (og subStep (lim (limbs a) fa) (lim (limbs b) fb)) (limbs a) = a - b := by rw [sub_top fta ftb lb (by omega), va, vb]
  have HT := Lib.hid ht
  have HC := Lib.hid hcmp
  clear ha hb va vb ht hcmp
  generalize limbs a = n at *
  generalize limbs b = m at *
  have hra := Lib.hid (show ∀ w', Drawn w w' → Rd .u32 w' (.slice aa n ca) n fa from fun w' hd => ra.below hd.below)
  have hrb := Lib.hid (show ∀ w', Drawn w w' → Rd .u32 w' (.slice ab m cb) m fb from fun w' hd => rb.below hd.below)
  clear ra rb
  go_enter Tryd.func76, Tryd.ntmps76
  go_wp2_with (first
    | (go_at_call 47; refine HC.out.mono ?_; rintro e w1 ⟨rfl, hd⟩; have HD := Lib.hid hd; clear hd)
    | (go_at_call 98; refine (all_any do_sub sub_ok (k := n) (by omega) (hra.out _ HD.out) (hrb.out _ HD.out) fta ftb).mono ?_; rintro e w2 ⟨v, rfl, hv, hb⟩))
  go_ret2
  exact ⟨v, rfl, by rw [← HT.out]; exact nt_of_trim hv (og_fits sub_ok (lim_lt fta) (lim_lt ftb) _), (HD.out.below).trans (hb.mono (by rw [HD.out.heap]; exact Nat.le_refl _))⟩

theorem sub_no {va vb : Value} {a b : Nat} {w : World} (ha : Nt w va a) (hb : Nt w vb b) (la : limbs a ≤ 536870912) (lb : limbs b ≤ 536870912) (h : a < b) :
    Calls Tryd.prog 76 #[va, vb] w fun e w' => e = .returned (.tuple #[.slice none 0 0, .bool false]) ∧ Drawn w w' := by
  have hcmp := cmp_nt ha hb (by omega) (by omega)
  rw [cmp_less h] at hcmp
  have HC := Lib.hid hcmp
  clear hcmp ha hb
  go_enter Tryd.func76, Tryd.ntmps76
  go_wp2_with (first
    | (go_at_call 47; refine HC.out.mono ?_; rintro e w1 ⟨rfl, hd⟩; have HD := Lib.hid hd; clear hd))
  go_ret2
  exact ⟨rfl, HD.out⟩

/-- nat.Sub, whichever. -/
theorem sub_nt {va vb : Value} {a b : Nat} {w : World} (ha : Nt w va a) (hb : Nt w vb b) (la : limbs a ≤ 536870912) (lb : limbs b ≤ 536870912) :
    Calls Tryd.prog 76 #[va, vb] w fun e w' => ∃ v, e = .returned (.tuple #[v, .bool (decide (b ≤ a))]) ∧ Nt w' v (a - b) ∧ Below w.heap.size w w' := by
  by_cases h : b ≤ a
  · rw [show decide (b ≤ a) = true from by simpa using h]
    exact sub_yes ha hb la h
  · rw [show decide (b ≤ a) = false from by simpa using h, show a - b = 0 from by omega]
    exact (sub_no ha hb la lb (by omega)).mono fun e w' ⟨he, hd⟩ => ⟨_, he, Nt.nil _, hd.below⟩

/-- a row written out in a new block -/
theorem Rd.new {k : IntKind} {w : World} {cs : Array Value} {e : TypeId} {n : Nat} {f : Nat → Nat} (hn : n ≤ maxLen) (h : ∀ j, j < n → cs[j]? = some (.int k (f j))) : Rd k (w.alloc (.cells cs e)) (.slice (some ⟨w.heap.size, 0, none⟩) n n) n f := by
  refine ⟨_, n, rfl, Nat.le_refl _, hn, fun _ => ⟨w.heap.size, 0, rfl, by simp, fun j hj => ?_⟩⟩
  have hb := Blk.new w cs e
  unfold Blk at hb
  simp only [World.cell?, hb, Nat.zero_add]
  simpa using h j hj

/-- two limbs of a number -/
def two (n : Nat) (i : Nat) : Nat := if i = 0 then n % 4294967296 else n / 4294967296

theorem two_nv (n : Nat) : nv (two n) 2 = n := by
  simp only [nv, two]
  simp
  omega

theorem of_nt (n : Nat) (w : World) (hn : n < 18446744073709551616) :
    Calls Tryd.prog 66 #[.int .u64 n] w fun e w' => ∃ v, e = .returned v ∧ Nt w' v n ∧ Below w.heap.size w w' := by
  have h1 : n / 4294967296 < 4294967296 := by omega
  go_enter Tryd.func66, Tryd.ntmps66
  go_wp2_with (go_at_call 86; refine (make_nt (n := 2) (f := two n) (Rd.new (by unfold maxLen; omega) ?h1) (by omega) ?h2).mono ?_)
  case h1 =>
    intro j hj
    have : j = 0 ∨ j = 1 := by omega
    rcases this with rfl | rfl <;> simp [two]
  case h2 =>
    intro j hj
    unfold two
    split <;> omega
  rintro e w' ⟨v, rfl, hv, hb⟩
  go_wp2
  go_ret
  exact ⟨v, rfl, by rw [← two_nv n]; exact hv, ((Below.refl _ w).alloc (Nat.le_refl _) _).trans (hb.mono (by simp))⟩

/-- one limb -/
theorem one_limb {w : World} {e : TypeId} (x : Nat) (hx : x < 4294967296) (h0 : x ≠ 0) : Nt (w.alloc (.cells #[.int .u32 x] e)) (.slice (some ⟨w.heap.size, 0, none⟩) 1 1) x :=
  ⟨1, fun _ => x, Rd.new (by unfold maxLen; omega) (fun j hj => by obtain rfl : j = 0 := by omega
                                                                   rfl), fun _ _ => hx, fun _ => h0, by simp [nv]⟩
end Go.Proofs.YtopbfgmpilnghaaDoor
