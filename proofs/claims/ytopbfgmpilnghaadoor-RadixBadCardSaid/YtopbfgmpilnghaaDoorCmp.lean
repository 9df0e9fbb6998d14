/- nat.Cmp and nat.Sub: of naturals. -/
import Derived.Test.YtopbfgmpilnghaaDoorAdd
set_option linter.unusedVariables false
set_option linter.unusedSimpArgs false
namespace Go.Proofs.YtopbfgmpilnghaaDoor
open Go.RowKit

theorem nv_split (f : Nat → Nat) (k : Nat) : ∀ n, k ≤ n → ∃ h, nv f n = nv f k + h * 4294967296 ^ k ∧ ∀ g : Nat → Nat, (∀ j, k ≤ j → j < n → f j = g j) → nv g n = nv g k + h * 4294967296 ^ k := by
  intro n
  induction n with
  | zero =>
    intro h
    obtain rfl : k = 0 := by omega
    exact ⟨0, by simp, fun g _ => by simp [nv]⟩
  | succ n ih =>
    intro hk
    by_cases e : k = n + 1
    · subst e; exact ⟨0, by simp, fun g _ => by simp⟩
    · obtain ⟨h, h1, h2⟩ := ih (by omega)
      obtain ⟨d, rfl⟩ : ∃ d, n = k + d := ⟨n - k, by omega⟩
      have e2 : ∀ x, x * 4294967296 ^ (k + d) = x * 4294967296 ^ d * 4294967296 ^ k := fun x => by rw [Nat.pow_add, Nat.mul_assoc, Nat.mul_comm (4294967296 ^ k)]
      refine ⟨h + f (k + d) * 4294967296 ^ d, ?_, fun g hg => ?_⟩
      · simp only [nv]; rw [h1, e2, Nat.add_mul]; omega
      · simp only [nv]; rw [h2 g (fun j a b => hg j a (by omega)), ← hg (k + d) (by omega) (by omega), e2, Nat.add_mul]; omega

/-- the first limb from above that differs decides -/
theorem nv_less {f g : Nat → Nat} {n k : Nat} (hf : Fits n f) (hk : k < n) (h : ∀ j, k + 1 ≤ j → j < n → f j = g j) (hlt : f k < g k) : nv f n < nv g n := by
  obtain ⟨h0, h1, h2⟩ := nv_split f (k + 1) n (by omega)
  rw [h1, h2 g h]
  have h3 := nv_lt (hf.mono (show k ≤ n by omega))
  simp only [nv]
  have h4 : (f k + 1) * 4294967296 ^ k ≤ g k * 4294967296 ^ k := Nat.mul_le_mul_right _ hlt
  rw [Nat.add_mul] at h4
  omega

theorem cmp_less {a b : Nat} (h : a < b) : cmpI a b = -1 := by unfold cmpI; rw [if_pos h]
theorem cmp_more {a b : Nat} (h : b < a) : cmpI a b = 1 := by unfold cmpI; rw [if_neg (by omega), if_neg (by omega)]
theorem cmp_same (a : Nat) : cmpI a a = 0 := by unfold cmpI; rw [if_neg (by omega), if_pos rfl]

theorem less_of_limbs {a b : Nat} (h : limbs a < limbs b) : a < b := by
  apply Classical.byContradiction
  intro hn
  have := limbs_mono (show b ≤ a by omega)
  omega

theorem ret_i {k : IntKind} {a b : Int} (h : a = b) : Ending.returned (.int k a) = .returned (.int k b) := by rw [h]

set_option maxRecDepth 100000 in
set_option maxHeartbeats 1000000 in
theorem cmp_row {ba oa bb ob n ca cb : Nat} {fa fb : Nat → Nat} {w : World} (hn : n ≤ 1073741824) (h0 : 0 < n)
    (ha : Hid (∀ j, j < n → w.cell? ⟨ba, oa + j, none⟩ = some (.int .u32 (fa j)))) (hb : Hid (∀ j, j < n → w.cell? ⟨bb, ob + j, none⟩ = some (.int .u32 (fb j)))) (hfa : Hid (Fits n fa)) (hfb : Hid (Fits n fb)) :
    Calls Tryd.prog 47 #[.slice (some ⟨ba, oa, none⟩) n ca, .slice (some ⟨bb, ob, none⟩) n cb] w fun e w' => e = .returned (.int .i64 (cmpI (nv fa n) (nv fb n))) ∧ Drawn w w' := by
  go_enter Tryd.func47, Tryd.ntmps47
  go_wp2
  go_loopw [5] (fun i wr => ∃ k : Nat, k ≤ n ∧ i = .int .i64 ((k : Int) - 1) ∧ Hid (∀ j, k ≤ j → j < n → fa j = fb j) ∧ Drawn w wr) (fun i _ => (intOf i + 1).toNat)
  case atStart => exact ⟨n, Nat.le_refl _, rfl, fun j h1 h2 => by omega, Drawn.refl _⟩
  case round =>
    obtain ⟨k, hk, rfl, hsame, hd⟩ := hrel
    have HD := Lib.hid hd
    have hheap := hd.heap
    by_cases hk0 : k = 0
    · subst hk0
      clear hheap hd
      go_wp2
      go_ret
      refine ⟨ret_i ?_, HD.out⟩
      rw [nv_congr (fun j hj => hsame.out j (by omega) hj), cmp_same]
    · have c1 : wr.cell? ⟨ba, oa + (k - 1), none⟩ = _ := (World.cell?_of_block (w := w) (by rw [hheap])).trans (ha.out (k - 1) (by omega))
      have c2 : wr.cell? ⟨bb, ob + (k - 1), none⟩ = _ := (World.cell?_of_block (w := w) (by rw [hheap])).trans (hb.out (k - 1) (by omega))
      clear hheap hd
      have t : Hid (∀ j, k - 1 + 1 ≤ j → j < n → fa j = fb j) := fun j a b => hsame.out j (by omega) b
      by_cases hlt : fa (k - 1) < fb (k - 1)
      · go_wp2
        go_quiet (fail)
        go_wp2
        go_ret
        exact ⟨ret_i (cmp_less (nv_less hfa.out (by omega) t.out hlt)).symm, by repeat (first | exact HD.out | refine Drawn.n ?_ _ | refine Drawn.d ?_)⟩
      · by_cases hgt : fb (k - 1) < fa (k - 1)
        · go_wp2
          go_quiet (fail)
          go_wp2
          go_quiet (fail)
          go_wp2
          go_ret
          exact ⟨ret_i (cmp_more (nv_less hfb.out (by omega) (fun j a b => (t.out j a b).symm) hgt)).symm, by repeat (first | exact HD.out | refine Drawn.n ?_ _ | refine Drawn.d ?_)⟩
        · go_wp2
          go_quiet (fail)
          go_wp2
          go_quiet (fail)
          go_wp2
          go_roundw
          case rel => exact ⟨k - 1, by omega, by go_num, fun j h1 h2 => by
              by_cases e : j = k - 1
              · subst e; omega
              · exact hsame.out j (by omega) h2, by repeat (first | exact HD.out | refine Drawn.n ?_ _ | refine Drawn.d ?_)⟩
          case measure => simp [intOf]; omega

set_option maxRecDepth 100000 in
set_option maxHeartbeats 1000000 in
theorem cmp_short {aa ab : Option Addr} {n m ca cb : Nat} {w : World} (hn : n ≤ 1073741824) (hm : m ≤ 1073741824) (h : n ≠ m) :
    Calls Tryd.prog 47 #[.slice aa n ca, .slice ab m cb] w fun e w' => e = .returned (.int .i64 (if n < m then -1 else 1)) ∧ Drawn w w' := by
  by_cases hlt : n < m
  · rw [if_pos hlt]
    go_enter Tryd.func47, Tryd.ntmps47
    go_wp2
    go_ret
    exact ⟨rfl, Drawn.refl _⟩
  · rw [if_neg hlt]
    have hgt : m < n := by omega
    go_enter Tryd.func47, Tryd.ntmps47
    go_wp2
    all_goals
      go_ret
      exact ⟨ret_i (by omega), Drawn.refl _⟩

set_option maxRecDepth 100000 in
theorem cmp_none {aa ab : Option Addr} {ca cb : Nat} {w : World} :
    Calls Tryd.prog 47 #[.slice aa 0 ca, .slice ab 0 cb] w fun e w' => e = .returned (.int .i64 0) ∧ Drawn w w' := by
  go_enter Tryd.func47, Tryd.ntmps47
  go_wp2
  go_loop [5] (fun i => i = .int .i64 (-1)) (fun i => (intOf i).toNat)
  case atStart => rfl
  case round =>
    subst hrel
    go_wp2
    go_ret
    exact ⟨rfl, Drawn.refl _⟩

/-- nat.Cmp: which of two naturals is the lesser one. -/
theorem cmp_nt {va vb : Value} {a b : Nat} {w : World} (ha : Nt w va a) (hb : Nt w vb b) (la : limbs a ≤ 1073741824) (lb : limbs b ≤ 1073741824) :
    Calls Tryd.prog 47 #[va, vb] w fun e w' => e = .returned (.int .i64 (cmpI a b)) ∧ Drawn w w' := by
  obtain ⟨aa, ca, fa, rfl, ra, fta, na, va⟩ := ha.open
  obtain ⟨ab, cb, fb, rfl, rb, ftb, nb, vb⟩ := hb.open
  by_cases h : limbs a = limbs b
  · by_cases h0 : limbs a = 0
    · have h1 : limbs b = 0 := by omega
      rw [h0] at va
      rw [h1] at vb
      obtain rfl : a = 0 := va.symm
      obtain rfl : b = 0 := vb.symm
      exact cmp_none
    · obtain ⟨ba, oa, rfl, lt1, hca⟩ := ra.at (by omega)
      obtain ⟨bb, ob, rfl, lt2, hcb⟩ := rb.at (by omega)
      rw [← h] at ftb vb hcb ⊢
      have := cmp_row (ca := ca) (cb := cb) la (by omega) hca hcb fta ftb
      rw [va, vb] at this
      exact this
  · have := cmp_short (aa := aa) (ab := ab) (ca := ca) (cb := cb) (w := w) la lb h
    refine this.mono fun e w' ⟨he, hd⟩ => ⟨?_, hd⟩
    rw [he]
    by_cases hlt : limbs a < limbs b
    · rw [if_pos hlt, cmp_less (less_of_limbs hlt)]
    · rw [if_neg hlt, cmp_more (less_of_limbs (by omega))]
end Go.Proofs.YtopbfgmpilnghaaDoor
