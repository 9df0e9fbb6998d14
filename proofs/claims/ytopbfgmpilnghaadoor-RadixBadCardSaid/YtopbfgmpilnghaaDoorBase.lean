/- The words in which all contracts of this seat are stated: what a slice reads as (Rd), what a natural is (Nt); how they are carried from world to world. No function of the program stands here. -/
import Derived.Test.YtopbfgmpilnghaaDoorProg
import Derived.WalkKit
import Derived.Deep.QuietTactic
import Derived.BigQuiet
import Derived.Deep.LoopGhost
import Derived.WalkSpells
import Derived.Lib.Hide
import Derived.Deep.Draws
import Derived.Laws.EntriesVeiled
set_option linter.unusedVariables false
namespace Go.Proofs.YtopbfgmpilnghaaDoor
open Go.RowKit

/-- the world has been asked for orders, no more -/
def Drawn (w w' : World) : Prop := ∃ q, w' = w.drewN q
theorem Drawn.refl (w : World) : Drawn w w := ⟨0, rfl⟩
theorem Drawn.n {w w' : World} (h : Drawn w w') (q : Nat) : Drawn w (w'.drewN q) := by
  obtain ⟨r, rfl⟩ := h
  exact ⟨r + q, by simp⟩
theorem Drawn.d {w w' : World} (h : Drawn w w') : Drawn w w'.drew := by
  obtain ⟨r, rfl⟩ := h
  exact ⟨r + 1, rfl⟩
theorem Drawn.trans {a b c : World} (h : Drawn a b) (k : Drawn b c) : Drawn a c := by
  obtain ⟨q, rfl⟩ := k
  exact h.n q
theorem Drawn.below {B : Nat} {w w' : World} (h : Drawn w w') : Below B w w' := by
  obtain ⟨q, rfl⟩ := h
  exact ⟨rfl, rfl, rfl, Nat.le_refl _, fun _ _ => rfl⟩
theorem Drawn.heap {w w' : World} (h : Drawn w w') : w'.heap = w.heap := by
  obtain ⟨q, rfl⟩ := h
  rfl

/-- the value of the n lowest limbs -/
def nv (f : Nat → Nat) : Nat → Nat
  | 0 => 0
  | n + 1 => nv f n + f n * 4294967296 ^ n

/-- a slice of n elements of kind k: f tells them -/
def Rd (k : IntKind) (w : World) (v : Value) (n : Nat) (f : Nat → Nat) : Prop :=
  ∃ ao cap, v = .slice ao n cap ∧ n ≤ cap ∧ cap ≤ maxLen ∧ (0 < n → ∃ b off, ao = some ⟨b, off, none⟩ ∧ b < w.heap.size ∧ ∀ j, j < n → w.cell? ⟨b, off + j, none⟩ = some (.int k (f j)))

/-- the numbers fit into a limb -/
def Fits (n : Nat) (f : Nat → Nat) : Prop := ∀ j, j < n → f j < 4294967296

/-- limbs without noughts at their end -/
def Norm (n : Nat) (f : Nat → Nat) : Prop := 0 < n → f (n - 1) ≠ 0

/-- the value reads as the natural a -/
def Nt (w : World) (v : Value) (a : Nat) : Prop := ∃ n f, Rd .u32 w v n f ∧ Fits n f ∧ Norm n f ∧ nv f n = a

/-- the cells of a row that the call itself made -/
def cellsOf (k : IntKind) (n : Nat) (f : Nat → Nat) : List Value := (List.range n).map fun j => .int k (f j)

theorem cellsOf_length (k : IntKind) (n : Nat) (f : Nat → Nat) : (cellsOf k n f).length = n := by simp [cellsOf]
theorem cellsOf_get (k : IntKind) (n : Nat) (f : Nat → Nat) (j : Nat) (h : j < n) : (cellsOf k n f)[j]? = some (.int k (f j)) := by
  simp [cellsOf, List.getElem?_range h]
theorem cellsOf_snoc (k : IntKind) (n : Nat) (f : Nat → Nat) : cellsOf k (n + 1) f = cellsOf k n f ++ [.int k (f n)] := by
  simp [cellsOf, List.range_succ]
theorem cellsOf_congr (k : IntKind) (n : Nat) (f g : Nat → Nat) (h : ∀ j, j < n → f j = g j) : cellsOf k n f = cellsOf k n g := by
  unfold cellsOf
  apply List.map_congr_left
  intro j hj
  rw [h j (List.mem_range.1 hj)]

theorem Rd.below {k : IntKind} {w w' : World} {v : Value} {n : Nat} {f : Nat → Nat} (h : Rd k w v n f) (hb : Below w.heap.size w w') : Rd k w' v n f := by
  obtain ⟨ao, cap, hv, hn, hc, hcells⟩ := h
  refine ⟨ao, cap, hv, hn, hc, fun h0 => ?_⟩
  obtain ⟨b, off, ha, hbl, hcl⟩ := hcells h0
  exact ⟨b, off, ha, Nat.lt_of_lt_of_le hbl hb.size, fun j hj => (hb.cell (p := ⟨b, off + j, none⟩) hbl).trans (hcl j hj)⟩

theorem Nt.below {w w' : World} {v : Value} {a : Nat} (h : Nt w v a) (hb : Below w.heap.size w w') : Nt w' v a := by
  obtain ⟨n, f, hr, hf, hn, hv⟩ := h
  exact ⟨n, f, hr.below hb, hf, hn, hv⟩

theorem Rd.congr {k : IntKind} {w : World} {v : Value} {n : Nat} {f g : Nat → Nat} (h : Rd k w v n f) (hfg : ∀ j, j < n → f j = g j) : Rd k w v n g := by
  obtain ⟨ao, cap, hv, hn, hc, hcells⟩ := h
  refine ⟨ao, cap, hv, hn, hc, fun h0 => ?_⟩
  obtain ⟨b, off, ha, hbl, hcl⟩ := hcells h0
  exact ⟨b, off, ha, hbl, fun j hj => by rw [← hfg j hj]; exact hcl j hj⟩

theorem Rd.nil (k : IntKind) (w : World) (f : Nat → Nat) : Rd k w (.slice none 0 0) 0 f := ⟨none, 0, rfl, Nat.le_refl _, by unfold maxLen; omega, fun h => absurd h (by omega)⟩

/-- the cells of a row that is not empty -/
theorem Rd.at {k : IntKind} {w : World} {ao : Option Addr} {n cap : Nat} {f : Nat → Nat} (h : Rd k w (.slice ao n cap) n f) (h0 : 0 < n) :
    ∃ b off, ao = some ⟨b, off, none⟩ ∧ b < w.heap.size ∧ ∀ j, j < n → w.cell? ⟨b, off + j, none⟩ = some (.int k (f j)) := by
  obtain ⟨ao1, cp1, e, _, _, hc⟩ := h
  cases e
  exact hc h0

/-- what the call made reads as what it wrote -/
theorem Rd.of_own {k : IntKind} {w : World} {base : Nat} {e : TypeId} {v : Value} {n : Nat} {f : Nat → Nat} (h : w.ownsRow base e 1 v n (cellsOf k n f)) : Rd k w v n f := by
  rcases h.2 with ⟨rfl, rfl⟩ | ⟨g, cap, cur, rfl, _, hg, hn, hm, hs, ht⟩
  · exact Rd.nil k w f
  · refine ⟨some ⟨g, 0, none⟩, cap, rfl, hn, hm, fun _ => ⟨g, 0, rfl, (Array.getElem?_eq_some_iff.1 hg).1, fun j hj => ?_⟩⟩
    have hq := cellsOf_get k n f j hj
    rw [← ht, List.getElem?_take] at hq
    rw [Nat.zero_add, cell_of_row w g j cur e (0, 0) hg]
    split at hq
    · simpa using hq
    · cases hq

theorem nv_congr {f g : Nat → Nat} {n : Nat} (h : ∀ j, j < n → f j = g j) : nv f n = nv g n := by
  induction n with
  | zero => rfl
  | succ n ih => simp only [nv]; rw [ih (fun j hj => h j (by omega)), h n (by omega)]

theorem nv_lt {f : Nat → Nat} {n : Nat} (h : Fits n f) : nv f n < 4294967296 ^ n := by
  induction n with
  | zero => simp [nv]
  | succ n ih =>
    have h1 := ih (fun j hj => h j (by omega))
    have h2 := h n (by omega)
    simp only [nv]
    have h3 : f n * 4294967296 ^ n ≤ 4294967295 * 4294967296 ^ n := Nat.mul_le_mul_right _ (by omega)
    rw [Nat.pow_succ]
    omega

theorem Fits.mono {n m : Nat} {f : Nat → Nat} (h : Fits n f) (hm : m ≤ n) : Fits m f := fun j hj => h j (by omega)

theorem nv_ge {f : Nat → Nat} {n : Nat} (hn : Norm n f) (h0 : 0 < n) : 4294967296 ^ (n - 1) ≤ nv f n := by
  obtain ⟨m, rfl⟩ : ∃ m, n = m + 1 := ⟨n - 1, by omega⟩
  have h1 := hn h0
  simp only [Nat.add_sub_cancel] at h1 ⊢
  simp only [nv]
  have : 1 * 4294967296 ^ m ≤ f m * 4294967296 ^ m := Nat.mul_le_mul_right _ (by omega)
  omega

/-- how many limbs a natural has -/
def limbs (a : Nat) : Nat := if a = 0 then 0 else Nat.log2 a / 32 + 1

theorem pow32 (n : Nat) : 4294967296 ^ n = 2 ^ (32 * n) := by
  rw [show (4294967296 : Nat) = 2 ^ 32 from rfl, ← Nat.pow_mul]

theorem lt_limbs (a : Nat) : a < 4294967296 ^ limbs a := by
  unfold limbs
  split
  · subst a; simp
  · rename_i h
    rw [pow32]
    have h1 : a < 2 ^ (Nat.log2 a + 1) := Nat.lt_log2_self
    have h2 : 2 ^ (Nat.log2 a + 1) ≤ 2 ^ (32 * (Nat.log2 a / 32 + 1)) := Nat.pow_le_pow_right (by omega) (by omega)
    omega

theorem ge_limbs {a : Nat} (h : a ≠ 0) : 4294967296 ^ (limbs a - 1) ≤ a := by
  unfold limbs
  rw [if_neg h, pow32, Nat.add_sub_cancel]
  have h1 : 2 ^ Nat.log2 a ≤ a := Nat.log2_self_le h
  have h2 : 2 ^ (32 * (Nat.log2 a / 32)) ≤ 2 ^ Nat.log2 a := Nat.pow_le_pow_right (by omega) (by omega)
  omega

theorem limbs_le {a n : Nat} (h : a < 4294967296 ^ n) : limbs a ≤ n := by
  by_cases h0 : a = 0
  · simp [limbs, h0]
  · have h1 := ge_limbs h0
    apply Classical.byContradiction
    intro hn
    have : 4294967296 ^ n ≤ 4294967296 ^ (limbs a - 1) := Nat.pow_le_pow_right (by omega) (by omega)
    omega

theorem limbs_mono {a b : Nat} (h : a ≤ b) : limbs a ≤ limbs b := limbs_le (Nat.lt_of_le_of_lt h (lt_limbs b))
theorem limbs_zero : limbs 0 = 0 := rfl
theorem limbs_pos {a : Nat} (h : a ≠ 0) : 0 < limbs a := by unfold limbs; rw [if_neg h]; omega
theorem limbs_add (a b : Nat) : limbs (a + b) ≤ max (limbs a) (limbs b) + 1 := by
  apply limbs_le
  have h1 := lt_limbs a
  have h2 := lt_limbs b
  have h3 : 4294967296 ^ limbs a ≤ 4294967296 ^ max (limbs a) (limbs b) := Nat.pow_le_pow_right (by omega) (by omega)
  have h4 : 4294967296 ^ limbs b ≤ 4294967296 ^ max (limbs a) (limbs b) := Nat.pow_le_pow_right (by omega) (by omega)
  rw [Nat.pow_succ]
  omega
theorem limbs_mul (a b : Nat) : limbs (a * b) ≤ limbs a + limbs b := by
  apply limbs_le
  rw [Nat.pow_add]
  have h1 := lt_limbs a
  have h2 := lt_limbs b
  exact Nat.mul_lt_mul'' h1 h2
theorem limbs_sub (a b : Nat) : limbs (a - b) ≤ limbs a := limbs_mono (Nat.sub_le _ _)
theorem limbs_div (a b : Nat) : limbs (a / b) ≤ limbs a := limbs_mono (Nat.div_le_self _ _)
theorem limbs_mod (a b : Nat) : limbs (a % b) ≤ limbs a := limbs_mono (Nat.mod_le _ _)

/-- a right natural has as many limbs as its value -/
theorem limbs_nv {f : Nat → Nat} {n : Nat} (hf : Fits n f) (hn : Norm n f) : limbs (nv f n) = n := by
  by_cases h0 : n = 0
  · subst h0; rfl
  · have h1 := nv_lt hf
    have h2 := nv_ge hn (by omega)
    have h3 := limbs_le h1
    apply Classical.byContradiction
    intro hne
    have h4 := lt_limbs (nv f n)
    have : 4294967296 ^ limbs (nv f n) ≤ 4294967296 ^ (n - 1) := Nat.pow_le_pow_right (by omega) (by omega)
    omega

/-- a natural's limbs out of its value -/
theorem nv_limb {f : Nat → Nat} {n : Nat} (hf : Fits n f) {j : Nat} (hj : j < n) : f j = nv f n / 4294967296 ^ j % 4294967296 := by
  induction n with
  | zero => omega
  | succ n ih =>
    simp only [nv]
    by_cases h : j = n
    · subst h
      have h1 := nv_lt (hf.mono (Nat.le_succ j))
      have h2 := hf j (by omega)
      have hp : 0 < 4294967296 ^ j := Nat.pow_pos (by omega)
      rw [Nat.mul_comm (f j), Nat.add_mul_div_left _ _ hp, Nat.div_eq_of_lt h1, Nat.zero_add, Nat.mod_eq_of_lt h2]
    · have h1 := ih (hf.mono (Nat.le_succ n)) (by omega)
      rw [h1]
      obtain ⟨d, rfl⟩ : ∃ d, n = j + 1 + d := ⟨n - (j + 1), by omega⟩
      have hp : 0 < 4294967296 ^ j := Nat.pow_pos (by omega)
      have e : f (j + 1 + d) * 4294967296 ^ (j + 1 + d) = 4294967296 ^ j * (4294967296 * (f (j + 1 + d) * 4294967296 ^ d)) := by
        rw [Nat.pow_add, Nat.pow_succ]; grind
      rw [e, Nat.add_mul_div_left _ _ hp, Nat.add_mul_mod_self_left]

theorem nv_inj {f g : Nat → Nat} {n : Nat} (hf : Fits n f) (hg : Fits n g) (h : nv f n = nv g n) {j : Nat} (hj : j < n) : f j = g j := by
  rw [nv_limb hf hj, nv_limb hg hj, h]

/-- what lies behind is nought: the value is the lower limbs' -/
theorem nv_high_zero {f : Nat → Nat} {n m : Nat} (hm : m ≤ n) (h : ∀ j, m ≤ j → j < n → f j = 0) : nv f n = nv f m := by
  induction n with
  | zero => rw [show m = 0 from by omega]
  | succ n ih =>
    by_cases e : m = n + 1
    · rw [e]
    · simp only [nv]
      rw [ih (by omega) (fun j h1 h2 => h j h1 (by omega)), h n (by omega) (by omega)]
      omega
end Go.Proofs.YtopbfgmpilnghaaDoor
