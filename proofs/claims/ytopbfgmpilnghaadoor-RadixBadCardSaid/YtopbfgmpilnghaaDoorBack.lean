/- div.back: the divisor is given back to a part of a row. -/
import Derived.Test.YtopbfgmpilnghaaDoorTake
import Derived.Deep.RegionHeld3
set_option linter.unusedVariables false
set_option linter.unusedSimpArgs false
namespace Go.Proofs.YtopbfgmpilnghaaDoor
open Go.RowKit

/-- the row while y is given back: k limbs are done, t is carried -/
structure BackIn (F y : Nat → Nat) (off N k t : Nat) (G : Nat → Nat) : Prop where
  fits : Fits N G
  owed : t ≤ 1
  sum : nv (fun j => F (off + j)) k + nv y k = nv (fun j => G (off + j)) k + t * 4294967296 ^ k
  else' : ∀ j, j < off ∨ off + k ≤ j → G j = F j

theorem BackIn.start {F y : Nat → Nat} {off N : Nat} (hF : Fits N F) : BackIn F y off N 0 0 F := ⟨hF, by omega, by simp [nv], fun _ _ => rfl⟩
theorem BackIn.step {F y G : Nat → Nat} {off N k t : Nat} (h : BackIn F y off N k t G) (hk : off + k < N) (hF : Fits N F) (hy : y k < 4294967296) :
    BackIn F y off N (k + 1) ((F (off + k) + y k + t) / 4294967296) (upd G (off + k) ((F (off + k) + y k + t) % 4294967296)) := by
  obtain ⟨h1, h2, h3, h4⟩ := h
  have hFk := hF (off + k) hk
  refine ⟨h1.upd _ (by omega), by omega, ?_, fun j hj => ?_⟩
  · rw [upd_shift]
    have e1 : nv (upd (fun j => G (off + j)) k ((F (off + k) + y k + t) % 4294967296)) k = nv (fun j => G (off + j)) k := nv_congr (fun j hj => upd_other _ _ (by omega))
    simp only [nv, upd_same, e1, Nat.pow_succ]
    have hk2 : F (off + k) + y k + t = (F (off + k) + y k + t) % 4294967296 + 4294967296 * ((F (off + k) + y k + t) / 4294967296) := by omega
    generalize (F (off + k) + y k + t) % 4294967296 = z at *
    generalize (F (off + k) + y k + t) / 4294967296 = t' at *
    generalize 4294967296 ^ k = P at *
    have hm := congrArg (· * P) hk2
    simp only [Nat.add_mul, Nat.mul_assoc] at hm
    have e5 : t' * (P * 4294967296) = 4294967296 * (t' * P) := by rw [← Nat.mul_assoc, Nat.mul_comm]
    rw [e5]
    clear e5 hk2 e1
    generalize F (off + k) * P = a1 at *
    generalize y k * P = a2 at *
    generalize t * P = a3 at *
    generalize z * P = a4 at *
    generalize t' * P = a5 at *
    omega
  · rw [upd_other _ _ (by omega)]
    exact h4 j (by omega)

theorem cell_apart {W : World} {g bb i j : Nat} {x v : Value} (h : W.cell? ⟨bb, j, none⟩ = some x) (hn : bb ≠ g) : (W.setCell ⟨g, i, none⟩ v).cell? ⟨bb, j, none⟩ = some x :=
  (World.cell?_of_block (w := W) (Below.heap_setCell W ⟨g, i, none⟩ v bb hn)).trans h

set_option maxRecDepth 100000 in
set_option maxHeartbeats 2000000 in
theorem back_any {g off m N bb ob cx cb : Nat} {e : TypeId} {F fb : Nat → Nat} {w : World} (hm : m ≤ 1000000000) (hN : Hid (off + m + 1 ≤ N)) (hr : Hid (Row .u32 w g e N F)) (hF : Hid (Fits N F)) (hf : Hid (Fits m fb)) (hb : Hid (bb < w.heap.size ∧ bb ≠ g))
    (hc : Hid (∀ j, j < m → w.cell? ⟨bb, ob + j, none⟩ = some (.int .u32 (fb j)))) :
    Calls Tryd.prog 97 #[.slice (some ⟨g, off, none⟩) (m + 1) cx, .slice (some ⟨bb, ob, none⟩) m cb] w fun e1 w' =>
      ∃ (s : Nat) (G : Nat → Nat), e1 = .returned (.tuple #[]) ∧ Row .u32 w' g e N G ∧ BackIn F (ext fb m) off N (m + 1) s G ∧ Only g w w' := by
  go_enter Tryd.func97, Tryd.ntmps97
  go_wp2_with fail
  go_loopw [4, 8] (fun tv i wr => ∃ (k t : Nat) (G : Nat → Nat), k ≤ m ∧ i = .int .i64 k ∧ tv = .int .u32 t ∧ Hid (Row .u32 wr g e N G) ∧ Hid (BackIn F (ext fb m) off N k t G) ∧ Hid (Only g w wr)) (fun _ i _ => m - (intOf i).toNat)
  case atStart => exact ⟨0, 0, F, by omega, rfl, rfl, hr, BackIn.start hF.out, Only.refl _ _⟩
  case round =>
    obtain ⟨k, t, G, hk, rfl, rfl, hrow, hti, hon⟩ := hrel
    have htt := hti.out.owed
    have hGF := hti.out.else' (off + k) (by omega)
    have hx := hrow.out.cell (j := off + k) (by have := hN.out; omega)
    rw [hGF] at hx
    have hFk := hF.out (off + k) (by have := hN.out; omega)
    have hfree := hrow.out.free (off + k)
    have hne := Lib.hid hb.out.2
    by_cases hlt : k < m
    · have hcell : wr.cell? ⟨bb, ob + k, none⟩ = _ := (hon.out.cell (p := ⟨bb, ob + k, none⟩) hb.out.1 hb.out.2).trans (hc.out k hlt)
      have hfk := hf.out k hlt
      have hstep := Lib.hid (hti.out.step (by have := hN.out; omega) hF.out (show ext fb m k < 4294967296 by unfold ext; rw [if_pos hlt]; exact hfk))
      rw [show ext fb m k = fb k by unfold ext; rw [if_pos hlt]] at hstep
      clear hGF
      generalize F (off + k) = x at *
      generalize fb k = y at *
      go_wp2_with fail
      have hx' : wr.drew.cell? ⟨g, off + k, none⟩ = some (.int .u32 x) := hx
      have hfree' : wr.drew.frozen? ⟨g, off + k, none⟩ = false := hfree
      have hcell' : wr.drew.cell? ⟨bb, ob + k, none⟩ = some (.int .u32 y) := hcell
      go_region_with (first
          | (go_at_call 99; (with_reducible refine (add32_any x y t _ hFk hfk (by omega)).mono ?_); rintro e1 w2 ⟨rfl, rfl⟩))
      all_goals
        go_wp2_with fail
        go_roundw
        case rel => exact ⟨k + 1, (x + y + t) / 4294967296, _, by omega, by go_num, val_eq (by omega), (hrow.out.put (off + k) ((x + y + t) % 4294967296) (by omega)).same rfl, hstep.out, (hon.out.set _ _).drawn ⟨1, rfl⟩⟩
        case measure => simp [intOf] <;> omega
    · obtain rfl : k = m := by omega
      have hstep := Lib.hid (hti.out.step (by have := hN.out; omega) hF.out (show ext fb k k < 4294967296 by unfold ext; rw [if_neg (by omega)]; omega))
      rw [show ext fb k k = 0 by unfold ext; rw [if_neg (by omega)], Nat.add_zero] at hstep
      clear hGF
      generalize F (off + k) = x at *
      go_wp2_with fail
      refine bodyPost_end (results_none rfl _ _ _) rfl ?_
      exact ⟨(x + t) / 4294967296, _, rfl, hrow.out.put (off + k) ((x + t) % 4294967296) (by omega), hstep.out, hon.out.set _ _⟩
end Go.Proofs.YtopbfgmpilnghaaDoor
