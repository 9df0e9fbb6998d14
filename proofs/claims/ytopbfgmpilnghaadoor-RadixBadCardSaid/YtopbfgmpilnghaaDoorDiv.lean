/- div.DivMod at all naturals. -/
import Derived.Test.YtopbfgmpilnghaaDoorDivMod
set_option linter.unusedVariables false
set_option linter.unusedSimpArgs false
namespace Go.Proofs.YtopbfgmpilnghaaDoor
open Go.RowKit

set_option maxRecDepth 100000 in
set_option maxHeartbeats 2000000 in
theorem divmod_zero {va : Value} {ab : Option Addr} {cb : Nat} {w : World} :
    Calls Tryd.prog 73 #[va, .slice ab 0 cb] w fun e w' => e = .returned (.tuple #[.slice none 0 0, .slice none 0 0, .int .i64 3]) ∧ w = w' := by
  go_enter Tryd.func73, Tryd.ntmps73
  go_wp2_with fail
  refine bodyPost_ret (v := .tuple #[.slice none 0 0, .slice none 0 0, .int .i64 3]) (by simp [results, Tryd.f73]) rfl ?_
  exact ⟨rfl, rfl⟩

set_option maxRecDepth 100000 in
set_option maxHeartbeats 2000000 in
theorem divmod_less {va vb : Value} {a b : Nat} {w : World} (na : Nt w va a) (nb : Nt w vb b) (lb : limbs b ≤ 100000000) (hab : a < b) :
    Calls Tryd.prog 73 #[va, vb] w fun e w' => e = .returned (.tuple #[.slice none 0 0, va, .int .i64 0]) ∧ Below w.heap.size w w' := by
  have la : limbs a ≤ 100000000 := Nat.le_trans (limbs_mono (Nat.le_of_lt hab)) lb
  have hb0 := limbs_pos (show b ≠ 0 by omega)
  obtain ⟨ab, cb, fb, rfl, -⟩ := nb.open
  have hb1 : (((limbs b : Nat) : Int) == 0) = false := by simp; omega
  have hc := cmp_less hab
  have HC := Lib.hid hc
  clear hc
  go_enter Tryd.func73, Tryd.ntmps73
  go_wp2_with fail
  (with_reducible refine (cmp_nt na nb (by omega) (by omega)).mono ?_)
  rintro e w1 ⟨rfl, hd1⟩
  rw [HC.out]
  have T1 : Hid (Below w.heap.size w w1) := hd1.below
  clear na nb hd1
  go_wp2_with fail
  refine bodyPost_ret (v := .tuple #[.slice none 0 0, va, .int .i64 0]) (by simp [results, Tryd.f73]) rfl ?_
  exact ⟨rfl, T1.out⟩

theorem one_row {w : World} {e : TypeId} (x : Nat) : Rd .u32 (w.alloc (.cells #[.int .u32 x] e)) (.slice (some ⟨w.heap.size, 0, none⟩) 1 1) 1 (fun _ => x) :=
  Rd.new (by unfold maxLen; omega) (fun j hj => by rw [show j = 0 by omega]; rfl)

set_option maxRecDepth 100000 in
set_option maxHeartbeats 2000000 in
theorem divmod_one {va vb : Value} {a b : Nat} {w : World} (na : Nt w va a) (nb : Nt w vb b) (la : limbs a ≤ 100000000) (hlb : limbs b = 1) (hab : b ≤ a) :
    Calls Tryd.prog 73 #[va, vb] w fun e w' => ∃ vq vr, e = .returned (.tuple #[vq, vr, .int .i64 0]) ∧ Nt w' vq (a / b) ∧ Nt w' vr (a % b) ∧ Below w.heap.size w w' := by
  obtain ⟨c, hc, hc0⟩ := cmp_ge hab
  have hcm := cmp_nt na nb (by omega) (by omega)
  obtain ⟨aa, ca, fa, rfl, ra, fta, -, va'⟩ := na.open
  obtain ⟨ab, cb, fb, rfl, rb, ftb, nmb, vb'⟩ := nb.open
  rw [hlb] at rb ftb nmb vb' hcm ⊢
  rw [hc] at hcm
  have HCM := Lib.hid hcm
  clear hcm
  obtain rfl : fb 0 = b := by simpa [nv] using vb'
  have hlab : 1 ≤ limbs a := by rw [← hlb]; exact limbs_mono hab
  obtain ⟨bb, ob, rfl, hbb, hbc⟩ := rb.at (by omega)
  obtain ⟨ba, oa, rfl, hba, hac⟩ := ra.at (by omega)
  have hcell := hbc 0 (by omega)
  have hft := ftb 0 (by omega)
  have hne := nmb (by omega)
  simp only [Nat.add_zero, Nat.sub_self] at hcell hne
  have HF := Lib.hid fta
  have HA := Lib.hid hac
  have HV := Lib.hid va'
  clear hc fta hac va' ra na nb rb hbc ftb nmb vb'
  generalize fb 0 = d at *
  clear fb
  go_enter Tryd.func73, Tryd.ntmps73
  go_wp2_with fail
  (with_reducible refine HCM.out.mono ?_)
  rintro e w1 ⟨rfl, hd1⟩
  have hcell1 : w1.cell? ⟨bb, ob, none⟩ = _ := (hd1.cell _).trans hcell
  have HA1 : Hid (∀ j, j < limbs a → w1.cell? ⟨ba, oa + j, none⟩ = some (.int .u32 (fa j))) := fun j hj => (hd1.cell _).trans (HA.out j hj)
  have T1 : Hid (Below w.heap.size w w1) := hd1.below
  have hz : w1.heap.size = w.heap.size := by rw [hd1.heap]
  clear hd1 hcell HA HCM
  go_wp2_with fail
  (with_reducible refine (small_row (by omega) (by omega) (by omega) hft HF (show Hid (ba < w1.heap.size) from by unfold Hid; omega) HA1).mono ?_)
  rintro e w2 ⟨vq, rfl, hvq, hb2⟩
  rw [HV.out] at hvq ⊢
  have hr : a % d < 4294967296 := Nat.lt_of_lt_of_le (Nat.mod_lt _ (by omega)) (by omega)
  generalize hre : a % d = r at *
  have HRE := Lib.hid hre
  clear hre
  go_wp2_with fail
  have hfit : Fits 1 (fun _ => r) := fun _ _ => hr
  (with_reducible refine (make_nt (one_row r) (by omega) hfit).mono ?_)
  rintro e w3 ⟨vr, rfl, hvr, hb3⟩
  have e1 : nv (fun _ => r) 1 = r := by simp [nv]
  rw [e1] at hvr
  have HVQ : Hid (Nt w3 vq (a / d)) := hvq.below (After.t (After.alloc (After.refl w2) _) hb3)
  have HB : Hid (Below w.heap.size w w3) := T1.out.trans ((After.t (After.t hb2 (After.alloc (After.refl w2) _)) hb3).mono (by omega))
  have HVR := Lib.hid hvr
  clear e1 hvr hvq hb2 hb3 T1 HA1
  go_wp2_with fail
  refine bodyPost_ret (v := .tuple #[vq, vr, .int .i64 0]) (by simp [results, Tryd.f73]) rfl ?_
  exact ⟨vq, vr, rfl, HVQ.out, by rw [HRE.out]; exact HVR.out, HB.out⟩

/-- div.DivMod: the quotient and the rest. -/
theorem divmod_nt {va vb : Value} {a b : Nat} {w : World} (na : Nt w va a) (nb : Nt w vb b) (la : limbs a ≤ 100000000) (lb : limbs b ≤ 100000000) (hb : b ≠ 0) :
    Calls Tryd.prog 73 #[va, vb] w fun e w' => ∃ vq vr, e = .returned (.tuple #[vq, vr, .int .i64 0]) ∧ Nt w' vq (a / b) ∧ Nt w' vr (a % b) ∧ Below w.heap.size w w' := by
  by_cases hab : b ≤ a
  · have := limbs_pos hb
    by_cases h1 : limbs b = 1
    · exact divmod_one na nb la h1 hab
    · exact divmod_big na nb la (by omega) hab
  · refine (divmod_less na nb lb (by omega)).mono fun e w' ⟨he, hbl⟩ => ?_
    exact ⟨_, _, he, by rw [Nat.div_eq_of_lt (by omega)]; exact Nt.nil _, by rw [Nat.mod_eq_of_lt (by omega)]; exact na.below hbl, hbl⟩
theorem divmod_none {va vb : Value} {w : World} (nb : Nt w vb 0) :
    Calls Tryd.prog 73 #[va, vb] w fun e w' => e = .returned (.tuple #[.slice none 0 0, .slice none 0 0, .int .i64 3]) ∧ w = w' := by
  obtain ⟨ab, cb, fb, rfl, -⟩ := nb.open
  exact divmod_zero
end Go.Proofs.YtopbfgmpilnghaaDoor
