/- nat.Of, nat.Low; radix.may, radix.worth. -/
import Derived.Test.YtopbfgmpilnghaaDoorBack
set_option linter.unusedVariables false
set_option linter.unusedSimpArgs false
namespace Go.Proofs.YtopbfgmpilnghaaDoor
open Go.RowKit

/-- the two limbs of a number -/
def duo (x : Nat) (j : Nat) : Nat := if j = 0 then x % 4294967296 else x / 4294967296
theorem duo_nv (x : Nat) : nv (duo x) 2 = x := by simp [nv, duo]; omega
theorem duo_fits {x : Nat} (h : x < 18446744073709551616) : Fits 2 (duo x) := fun j _ => by unfold duo; split <;> omega
theorem duo_rd (w : World) (x : Nat) (t : TypeId) (lo hi : Int) (hl : lo = ((x % 4294967296 : Nat) : Int)) (hh : hi = ((x / 4294967296 : Nat) : Int)) : Rd .u32 (w.alloc (.cells #[.int .u32 lo, .int .u32 hi] t)) (.slice (some ⟨w.heap.size, 0, none⟩) 2 2) 2 (duo x) := by
  have h := heap_alloc_new w (.cells #[.int .u32 lo, .int .u32 hi] t)
  refine ⟨_, 2, rfl, Nat.le_refl _, by unfold maxLen; omega, fun _ => ⟨w.heap.size, 0, rfl, (Array.getElem?_eq_some_iff.1 h).1, fun j hj => ?_⟩⟩
  simp only [World.cell?]
  rw [h]
  subst hl hh
  rcases j with _ | _ | j
  · rfl
  · rfl
  · omega

set_option maxRecDepth 100000 in
set_option maxHeartbeats 2000000 in
/-- nat.Of: the natural. -/
theorem of_any {x : Nat} (hx : x < 18446744073709551616) (i : Int) (hi : i = (x : Int)) (w : World) :
    Calls Tryd.prog 66 #[.int .u64 i] w fun e w' => ∃ v, e = .returned v ∧ Nt w' v x ∧ Below w.heap.size w w' := by
  subst hi
  go_enter Tryd.func66, Tryd.ntmps66
  go_wp2_with fail
  (with_reducible refine (make_nt (duo_rd w x _ _ _ (by omega) (by omega)) (by omega) (duo_fits hx)).mono ?_)
  rintro e w3 ⟨v, rfl, hv, hb⟩
  rw [duo_nv] at hv
  go_wp2_with fail
  go_ret
  exact ⟨v, rfl, hv, After.t (After.alloc (After.refl w) _) hb⟩

/-- what bases there are -/
theorem may_any (b : Int) (w : World) : Calls Tryd.prog 61 #[.int .i64 b] w fun e w' => e = .returned (.bool (decide (2 ≤ b ∧ b ≤ 36))) ∧ w' = w := by
  by_cases h1 : 2 ≤ b
  · have hd : decide (2 ≤ b) = true := decide_eq_true h1
    rw [show decide (2 ≤ b ∧ b ≤ 36) = decide (b ≤ 36) by simp [h1]]
    go_enter Tryd.func61, Tryd.ntmps61
    go_wp2_with fail
    go_ret
    exact ⟨rfl, rfl⟩
  · have hd : decide (2 ≤ b) = false := decide_eq_false h1
    rw [show decide (2 ≤ b ∧ b ≤ 36) = false by simp [h1]]
    go_enter Tryd.func61, Tryd.ntmps61
    go_wp2_with fail
    go_ret
    exact ⟨rfl, rfl⟩
end Go.Proofs.YtopbfgmpilnghaaDoor
