/- The words in which all contracts of this seat are stated: what a slice reads as (Rd), what a natural is (Nt); how they are carried from world to world. No function of the program stands here. slices.Clone and nat.Make at every row of limbs: what comes back reads as the row without noughts at its end. math/bits.Add32 and Sub32: sum and carry, difference and borrow. -/
import Derived.Test.YtopbfgmpilnghaaDoorProg
import Derived.WalkKit
import Derived.Deep.QuietTactic
import Derived.BigQuiet
import Derived.Deep.LoopGhost
import Derived.WalkSpells
import Derived.Lib.Hide
import Derived.Deep.Draws
import Derived.Laws.EntriesVeiled
set_option linter.unusedVariables false
set_option linter.unusedSimpArgs false
namespace Go.Proofs.YtopbfgmpilnghaaDoor
open Go.RowKit

/-- the world has been asked for orders, no more -/
def Drawn (w w' : World) : Prop := ∃ q, w' = w.drewN q
theorem Drawn.refl (w : World) : Drawn w w := ⟨0, rfl⟩
theorem Drawn.n {w w' : World} (h : Drawn w w') (q : Nat) : Drawn w (w'.drewN q) := by
  obtain ⟨r, rfl⟩ := h
  exact ⟨r + q, by simp⟩
theorem Drawn.d {w w' : World} (h : Drawn w w') : Drawn w w'.drew := by
  obtain ⟨r, rfl⟩ := h
  exact ⟨r + 1, rfl⟩
theorem Drawn.trans {a b c : World} (h : Drawn a b) (k : Drawn b c) : Drawn a c := by
  obtain ⟨q, rfl⟩ := k
  exact h.n q
theorem Drawn.below {B : Nat} {w w' : World} (h : Drawn w w') : Below B w w' := by
  obtain ⟨q, rfl⟩ := h
  exact ⟨rfl, rfl, rfl, Nat.le_refl _, fun _ _ => rfl⟩
theorem Drawn.heap {w w' : World} (h : Drawn w w') : w'.heap = w.heap := by
  obtain ⟨q, rfl⟩ := h
  rfl

/-- the value of the n lowest limbs -/
def nv (f : Nat → Nat) : Nat → Nat
  | 0 => 0
  | n + 1 => nv f n + f n * 4294967296 ^ n

/-- a slice of n elements of kind k: f tells them -/
def Rd (k : IntKind) (w : World) (v : Value) (n : Nat) (f : Nat → Nat) : Prop :=
  ∃ ao cap, v = .slice ao n cap ∧ n ≤ cap ∧ cap ≤ maxLen ∧ (0 < n → ∃ b off, ao = some ⟨b, off, none⟩ ∧ b < w.heap.size ∧ ∀ j, j < n → w.cell? ⟨b, off + j, none⟩ = some (.int k (f j)))

/-- the numbers fit into a limb -/
def Fits (n : Nat) (f : Nat → Nat) : Prop := ∀ j, j < n → f j < 4294967296

/-- limbs without noughts at their end -/
def Norm (n : Nat) (f : Nat → Nat) : Prop := 0 < n → f (n - 1) ≠ 0

/-- the value reads as the natural a -/
def Nt (w : World) (v : Value) (a : Nat) : Prop := ∃ n f, Rd .u32 w v n f ∧ Fits n f ∧ Norm n f ∧ nv f n = a

/-- the cells of a row that the call itself made -/
def cellsOf (k : IntKind) (n : Nat) (f : Nat → Nat) : List Value := (List.range n).map fun j => .int k (f j)

theorem cellsOf_length (k : IntKind) (n : Nat) (f : Nat → Nat) : (cellsOf k n f).length = n := by simp [cellsOf]
theorem cellsOf_get (k : IntKind) (n : Nat) (f : Nat → Nat) (j : Nat) (h : j < n) : (cellsOf k n f)[j]? = some (.int k (f j)) := by
  simp [cellsOf, List.getElem?_range h]
theorem cellsOf_snoc (k : IntKind) (n : Nat) (f : Nat → Nat) : cellsOf k (n + 1) f = cellsOf k n f ++ [.int k (f n)] := by
  simp [cellsOf, List.range_succ]
theorem cellsOf_congr (k : IntKind) (n : Nat) (f g : Nat → Nat) (h : ∀ j, j < n → f j = g j) : cellsOf k n f = cellsOf k n g := by
  unfold cellsOf
  apply List.map_congr_left
  intro j hj
  rw [h j (List.mem_range.1 hj)]

theorem Rd.below {k : IntKind} {w w' : World} {v : Value} {n : Nat} {f : Nat → Nat} (h : Rd k w v n f) (hb : Below w.heap.size w w') : Rd k w' v n f := by
  obtain ⟨ao, cap, hv, hn, hc, hcells⟩ := h
  refine ⟨ao, cap, hv, hn, hc, fun h0 => ?_⟩
  obtain ⟨b, off, ha, hbl, hcl⟩ := hcells h0
  exact ⟨b, off, ha, Nat.lt_of_lt_of_le hbl hb.size, fun j hj => (hb.cell (p := ⟨b, off + j, none⟩) hbl).trans (hcl j hj)⟩

theorem Nt.below {w w' : World} {v : Value} {a : Nat} (h : Nt w v a) (hb : Below w.heap.size w w') : Nt w' v a := by
  obtain ⟨n, f, hr, hf, hn, hv⟩ := h
  exact ⟨n, f, hr.below hb, hf, hn, hv⟩

theorem Rd.congr {k : IntKind} {w : World} {v : Value} {n : Nat} {f g : Nat → Nat} (h : Rd k w v n f) (hfg : ∀ j, j < n → f j = g j) : Rd k w v n g := by
  obtain ⟨ao, cap, hv, hn, hc, hcells⟩ := h
  refine ⟨ao, cap, hv, hn, hc, fun h0 => ?_⟩
  obtain ⟨b, off, ha, hbl, hcl⟩ := hcells h0
  exact ⟨b, off, ha, hbl, fun j hj => by rw [← hfg j hj]; exact hcl j hj⟩

theorem Rd.nil (k : IntKind) (w : World) (f : Nat → Nat) : Rd k w (.slice none 0 0) 0 f := ⟨none, 0, rfl, Nat.le_refl _, by unfold maxLen; omega, fun h => absurd h (by omega)⟩

/-- the cells of a row that is not empty -/
theorem Rd.at {k : IntKind} {w : World} {ao : Option Addr} {n cap : Nat} {f : Nat → Nat} (h : Rd k w (.slice ao n cap) n f) (h0 : 0 < n) :
    ∃ b off, ao = some ⟨b, off, none⟩ ∧ b < w.heap.size ∧ ∀ j, j < n → w.cell? ⟨b, off + j, none⟩ = some (.int k (f j)) := by
  obtain ⟨ao1, cp1, e, _, _, hc⟩ := h
  cases e
  exact hc h0

/-- what the call made reads as what it wrote -/
theorem Rd.of_own {k : IntKind} {w : World} {base : Nat} {e : TypeId} {v : Value} {n : Nat} {f : Nat → Nat} (h : w.ownsRow base e 1 v n (cellsOf k n f)) : Rd k w v n f := by
  rcases h.2 with ⟨rfl, rfl⟩ | ⟨g, cap, cur, rfl, _, hg, hn, hm, hs, ht⟩
  · exact Rd.nil k w f
  · refine ⟨some ⟨g, 0, none⟩, cap, rfl, hn, hm, fun _ => ⟨g, 0, rfl, (Array.getElem?_eq_some_iff.1 hg).1, fun j hj => ?_⟩⟩
    have hq := cellsOf_get k n f j hj
    rw [← ht, List.getElem?_take] at hq
    rw [Nat.zero_add, cell_of_row w g j cur e (0, 0) hg]
    split at hq
    · simpa using hq
    · cases hq

theorem nv_congr {f g : Nat → Nat} {n : Nat} (h : ∀ j, j < n → f j = g j) : nv f n = nv g n := by
  induction n with
  | zero => rfl
  | succ n ih => simp only [nv]; rw [ih (fun j hj => h j (by omega)), h n (by omega)]

theorem nv_lt {f : Nat → Nat} {n : Nat} (h : Fits n f) : nv f n < 4294967296 ^ n := by
  induction n with
  | zero => simp [nv]
  | succ n ih =>
    have h1 := ih (fun j hj => h j (by omega))
    have h2 := h n (by omega)
    simp only [nv]
    have h3 : f n * 4294967296 ^ n ≤ 4294967295 * 4294967296 ^ n := Nat.mul_le_mul_right _ (by omega)
    rw [Nat.pow_succ]
    omega

theorem Fits.mono {n m : Nat} {f : Nat → Nat} (h : Fits n f) (hm : m ≤ n) : Fits m f := fun j hj => h j (by omega)

theorem nv_ge {f : Nat → Nat} {n : Nat} (hn : Norm n f) (h0 : 0 < n) : 4294967296 ^ (n - 1) ≤ nv f n := by
  obtain ⟨m, rfl⟩ : ∃ m, n = m + 1 := ⟨n - 1, by omega⟩
  have h1 := hn h0
  simp only [Nat.add_sub_cancel] at h1 ⊢
  simp only [nv]
  have : 1 * 4294967296 ^ m ≤ f m * 4294967296 ^ m := Nat.mul_le_mul_right _ (by omega)
  omega

/-- how many limbs a natural has -/
def limbs (a : Nat) : Nat := if a = 0 then 0 else Nat.log2 a / 32 + 1

theorem pow32 (n : Nat) : 4294967296 ^ n = 2 ^ (32 * n) := by
  rw [show (4294967296 : Nat) = 2 ^ 32 from rfl, ← Nat.pow_mul]

theorem lt_limbs (a : Nat) : a < 4294967296 ^ limbs a := by
  unfold limbs
  split
  · subst a; simp
  · rename_i h
    rw [pow32]
    have h1 : a < 2 ^ (Nat.log2 a + 1) := Nat.lt_log2_self
    have h2 : 2 ^ (Nat.log2 a + 1) ≤ 2 ^ (32 * (Nat.log2 a / 32 + 1)) := Nat.pow_le_pow_right (by omega) (by omega)
    omega

theorem ge_limbs {a : Nat} (h : a ≠ 0) : 4294967296 ^ (limbs a - 1) ≤ a := by
  unfold limbs
  rw [if_neg h, pow32, Nat.add_sub_cancel]
  have h1 : 2 ^ Nat.log2 a ≤ a := Nat.log2_self_le h
  have h2 : 2 ^ (32 * (Nat.log2 a / 32)) ≤ 2 ^ Nat.log2 a := Nat.pow_le_pow_right (by omega) (by omega)
  omega

theorem limbs_le {a n : Nat} (h : a < 4294967296 ^ n) : limbs a ≤ n := by
  by_cases h0 : a = 0
  · simp [limbs, h0]
  · have h1 := ge_limbs h0
    apply Classical.byContradiction
    intro hn
    have : 4294967296 ^ n ≤ 4294967296 ^ (limbs a - 1) := Nat.pow_le_pow_right (by omega) (by omega)
    omega

theorem limbs_mono {a b : Nat} (h : a ≤ b) : limbs a ≤ limbs b := limbs_le (Nat.lt_of_le_of_lt h (lt_limbs b))
theorem limbs_zero : limbs 0 = 0 := rfl
theorem limbs_pos {a : Nat} (h : a ≠ 0) : 0 < limbs a := by unfold limbs; rw [if_neg h]; omega
theorem limbs_add (a b : Nat) : limbs (a + b) ≤ max (limbs a) (limbs b) + 1 := by
  apply limbs_le
  have h1 := lt_limbs a
  have h2 := lt_limbs b
  have h3 : 4294967296 ^ limbs a ≤ 4294967296 ^ max (limbs a) (limbs b) := Nat.pow_le_pow_right (by omega) (by omega)
  have h4 : 4294967296 ^ limbs b ≤ 4294967296 ^ max (limbs a) (limbs b) := Nat.pow_le_pow_right (by omega) (by omega)
  rw [Nat.pow_succ]
  omega
theorem limbs_mul (a b : Nat) : limbs (a * b) ≤ limbs a + limbs b := by
  apply limbs_le
  rw [Nat.pow_add]
  have h1 := lt_limbs a
  have h2 := lt_limbs b
  exact Nat.mul_lt_mul'' h1 h2
theorem limbs_sub (a b : Nat) : limbs (a - b) ≤ limbs a := limbs_mono (Nat.sub_le _ _)
theorem limbs_div (a b : Nat) : limbs (a / b) ≤ limbs a := limbs_mono (Nat.div_le_self _ _)
theorem limbs_mod (a b : Nat) : limbs (a % b) ≤ limbs a := limbs_mono (Nat.mod_le _ _)

/-- a right natural has as many limbs as its value -/
theorem limbs_nv {f : Nat → Nat} {n : Nat} (hf : Fits n f) (hn : Norm n f) : limbs (nv f n) = n := by
  by_cases h0 : n = 0
  · subst h0; rfl
  · have h1 := nv_lt hf
    have h2 := nv_ge hn (by omega)
    have h3 := limbs_le h1
    apply Classical.byContradiction
    intro hne
    have h4 := lt_limbs (nv f n)
    have : 4294967296 ^ limbs (nv f n) ≤ 4294967296 ^ (n - 1) := Nat.pow_le_pow_right (by omega) (by omega)
    omega

/-- a natural's limbs out of its value -/
theorem nv_limb {f : Nat → Nat} {n : Nat} (hf : Fits n f) {j : Nat} (hj : j < n) : f j = nv f n / 4294967296 ^ j % 4294967296 := by
  induction n with
  | zero => omega
  | succ n ih =>
    simp only [nv]
    by_cases h : j = n
    · subst h
      have h1 := nv_lt (hf.mono (Nat.le_succ j))
      have h2 := hf j (by omega)
      have hp : 0 < 4294967296 ^ j := Nat.pow_pos (by omega)
      rw [Nat.mul_comm (f j), Nat.add_mul_div_left _ _ hp, Nat.div_eq_of_lt h1, Nat.zero_add, Nat.mod_eq_of_lt h2]
    · have h1 := ih (hf.mono (Nat.le_succ n)) (by omega)
      rw [h1]
      obtain ⟨d, rfl⟩ : ∃ d, n = j + 1 + d := ⟨n - (j + 1), by omega⟩
      have hp : 0 < 4294967296 ^ j := Nat.pow_pos (by omega)
      have e : f (j + 1 + d) * 4294967296 ^ (j + 1 + d) = 4294967296 ^ j * (4294967296 * (f (j + 1 + d) * 4294967296 ^ d)) := by
        rw [Nat.pow_add, Nat.pow_succ]; grind
      rw [e, Nat.add_mul_div_left _ _ hp, Nat.add_mul_mod_self_left]

theorem nv_inj {f g : Nat → Nat} {n : Nat} (hf : Fits n f) (hg : Fits n g) (h : nv f n = nv g n) {j : Nat} (hj : j < n) : f j = g j := by
  rw [nv_limb hf hj, nv_limb hg hj, h]

/-- what lies behind is nought: the value is the lower limbs' -/
theorem nv_high_zero {f : Nat → Nat} {n m : Nat} (hm : m ≤ n) (h : ∀ j, m ≤ j → j < n → f j = 0) : nv f n = nv f m := by
  induction n with
  | zero => rw [show m = 0 from by omega]
  | succ n ih =>
    by_cases e : m = n + 1
    · rw [e]
    · simp only [nv]
      rw [ih (by omega) (fun j h1 h2 => h j h1 (by omega)), h n (by omega) (by omega)]
      omega
end Go.Proofs.YtopbfgmpilnghaaDoor

namespace Go.Proofs.YtopbfgmpilnghaaDoor
open Go.RowKit

theorem info_u32 : (Tryd.prog.info? 46).map (fun i => (i.zero, i.size, i.bytes)) = some (some (.int .u32 0), 1, 4) := by kernel_rfl

set_option maxHeartbeats 400000 in
theorem clone_some (b off n cap : Nat) (f : Nat → Nat) (w : World) (hn : n * 4 ≤ 140737488355328) (hc : Hid (∀ j, j < n → w.cell? ⟨b, off + j, none⟩ = some (.int .u32 (f j)))) :
    Calls Tryd.prog 103 #[.slice (some ⟨b, off, none⟩) n cap] w fun e w' => ∃ v, e = .returned v ∧ Rd .u32 w' v n f ∧ Below w.heap.size w w' := by
  obtain ⟨i0, hi, hz0, hz1, hz2⟩ := info_parts info_u32
  have q22 : ∀ (w : World) (a : Option Addr) (n c n' c' : Nat), (binOp .eql 22 (.slice a n c) (.slice none n' c')).run Tryd.prog w = .ok (.bool a.isNone) w := fun w a n c n' c' => Lib.run_eql_slice_nil w _ _ a n c n' c' Tryd.underlying22
  go_enter Tryd.func103, Tryd.ntmps103
  go_wp2_with (at_builtin; refine wpList_append_own _ rfl _ _ 22 rfl w.heap.size 46 i0 (.int .u32 0) 1 4 Tryd.underlying22 hi hz0 hz1 hz2 rfl (by decide) _ _ _ rfl (World.ownsRow_made w #[] 0 (Nat.le_refl _) (Nat.zero_le _) rfl) ⟨b, off, none⟩ n cap (cellsOf .u32 n f) rfl ?qc1 ?qc2 ?qc3 ?qc4 ?qc5 ?qc6 ?_)
  case qc1 => rw [cellsOf_length]; omega
  case qc2 =>
    intro j u hj
    have hjn : j < n := by
      have := (List.getElem?_eq_some_iff.1 hj).1
      rw [cellsOf_length] at this
      omega
    rw [Addr.add_lit]
    refine Lib.cell?_alloc_some _ ?_
    rw [hc.out j hjn, ← hj, cellsOf_get _ _ _ _ hjn]
  case qc3 => intro u hu; unfold cellsOf at hu; obtain ⟨x, _, rfl⟩ := List.mem_map.1 hu; rfl
  case qc4 => unfold maxLen; omega
  case qc5 => omega
  case qc6 => simp
  intro v' w1 hown hgrow hnil
  go_wp2
  go_ret
  refine ⟨v', rfl, ?_, ?_⟩
  · refine Rd.of_own (base := w.heap.size) (e := 46) ?_
    simpa using hown
  · exact ((Below.refl _ w).alloc (Nat.le_refl _) _).grown hgrow (by simp) (by intro k hk; simp [Value.ownBlock] at hk; omega)

set_option maxHeartbeats 400000 in
theorem clone_zero (ad : Addr) (cap : Nat) (f : Nat → Nat) (w : World) :
    Calls Tryd.prog 103 #[.slice (some ad) 0 cap] w fun e w' => ∃ v, e = .returned v ∧ Rd .u32 w' v 0 f ∧ Below w.heap.size w w' := by
  obtain ⟨i0, hi, hz0, hz1, hz2⟩ := info_parts info_u32
  have q22 : ∀ (w : World) (a : Option Addr) (n c n' c' : Nat), (binOp .eql 22 (.slice a n c) (.slice none n' c')).run Tryd.prog w = .ok (.bool a.isNone) w := fun w a n c n' c' => Lib.run_eql_slice_nil w _ _ a n c n' c' Tryd.underlying22
  go_enter Tryd.func103, Tryd.ntmps103
  go_wp2_with (at_builtin; refine wpList_append_own _ rfl _ _ 22 rfl w.heap.size 46 i0 (.int .u32 0) 1 4 Tryd.underlying22 hi hz0 hz1 hz2 rfl (by decide) _ _ _ rfl (World.ownsRow_made w #[] 0 (Nat.le_refl _) (Nat.zero_le _) rfl) ad 0 cap [] rfl rfl (by intro j u hj; simp at hj) (by intro u hu; cases hu) (by unfold maxLen; omega) (by omega) (by simp) ?_)
  intro v' w1 hown hgrow hnil
  go_wp2
  go_ret
  refine ⟨v', rfl, ?_, ?_⟩
  · refine Rd.of_own (base := w.heap.size) (e := 46) ?_
    simpa [cellsOf] using hown
  · exact ((Below.refl _ w).alloc (Nat.le_refl _) _).grown hgrow (by simp) (by intro k hk; simp [Value.ownBlock] at hk; omega)

theorem clone_nil (cap n : Nat) (f : Nat → Nat) (w : World) :
    Calls Tryd.prog 103 #[.slice none n cap] w fun e w' => ∃ v, e = .returned v ∧ Rd .u32 w' v 0 f ∧ Below w.heap.size w w' := by
  have q22 : ∀ (w : World) (a : Option Addr) (n c n' c' : Nat), (binOp .eql 22 (.slice a n c) (.slice none n' c')).run Tryd.prog w = .ok (.bool a.isNone) w := fun w a n c n' c' => Lib.run_eql_slice_nil w _ _ a n c n' c' Tryd.underlying22
  go_enter Tryd.func103, Tryd.ntmps103
  go_wp2
  go_ret
  exact ⟨_, rfl, Rd.nil _ _ _, Below.refl _ _⟩

/-- slices.Clone: the same elements in memory of its own. -/
theorem clone_any {v : Value} {n : Nat} {f : Nat → Nat} {w : World} (h : Rd .u32 w v n f) (hn : n * 4 ≤ 140737488355328) :
    Calls Tryd.prog 103 #[v] w fun e w' => ∃ v, e = .returned v ∧ Rd .u32 w' v n f ∧ Below w.heap.size w w' := by
  obtain ⟨ao, cap, rfl, hcap, hm, hc⟩ := h
  by_cases h0 : n = 0
  · subst h0
    cases ao with
    | none => exact clone_nil cap 0 f w
    | some ad => exact clone_zero ad cap f w
  · obtain ⟨b, off, rfl, hb, hcl⟩ := hc (by omega)
    exact clone_some b off n cap f w hn hcl

theorem sl_to {b off n cap : Nat} {f : Nat → Nat} {w : World} {k : Nat} (hk : k ≤ n) (hcap : n ≤ cap) (hm : cap ≤ maxLen) (hb : b < w.heap.size) (hc : ∀ j, j < n → w.cell? ⟨b, off + j, none⟩ = some (.int .u32 (f j))) :
    Rd .u32 w (.slice (some ⟨b, off, none⟩) k cap) k f := ⟨_, cap, rfl, by omega, hm, fun _ => ⟨b, off, rfl, hb, fun j hj => hc j (by omega)⟩⟩

/-- without the noughts at its end -/
def trim (f : Nat → Nat) : Nat → Nat
  | 0 => 0
  | n + 1 => if f n = 0 then trim f n else n + 1

theorem trim_le (f : Nat → Nat) (n : Nat) : trim f n ≤ n := by
  induction n with
  | zero => exact Nat.le_refl _
  | succ n ih => simp only [trim]; split <;> omega

theorem trim_norm (f : Nat → Nat) (n : Nat) : Norm (trim f n) f := by
  induction n with
  | zero => intro h; simp [trim] at h
  | succ n ih =>
    simp only [trim]
    split
    · exact ih
    · intro _; simpa using ‹_›

theorem trim_zero (f : Nat → Nat) (n : Nat) : ∀ j, trim f n ≤ j → j < n → f j = 0 := by
  induction n with
  | zero => intro j _ h; omega
  | succ n ih =>
    intro j h1 h2
    simp only [trim] at h1
    split at h1
    · by_cases e : j = n
      · subst e; assumption
      · exact ih j h1 (by omega)
    · omega

theorem trim_nv (f : Nat → Nat) (n : Nat) : nv f (trim f n) = nv f n := (nv_high_zero (trim_le f n) (trim_zero f n)).symm

theorem trim_same (f : Nat → Nat) (n k : Nat) (hk : k ≤ n) (h : ∀ j, k ≤ j → j < n → f j = 0) : trim f n = trim f k := by
  induction n with
  | zero => rw [show k = 0 from by omega]
  | succ n ih =>
    by_cases e : k = n + 1
    · rw [e]
    · simp only [trim]
      rw [if_pos (h n (by omega) (by omega))]
      exact ih (by omega) (fun j h1 h2 => h j h1 (by omega))

set_option maxRecDepth 100000 in
set_option maxHeartbeats 400000 in
theorem make_some (b off n cap : Nat) (f : Nat → Nat) (w : World) (hn : n * 4 ≤ 140737488355328) (hcap : n ≤ cap) (hm : cap ≤ maxLen) (hb : b < w.heap.size) (hc : Hid (∀ j, j < n → w.cell? ⟨b, off + j, none⟩ = some (.int .u32 (f j)))) :
    Calls Tryd.prog 86 #[.slice (some ⟨b, off, none⟩) n cap] w fun e w' => ∃ v, e = .returned v ∧ Rd .u32 w' v (trim f n) f ∧ Below w.heap.size w w' := by
  go_enter Tryd.func86, Tryd.ntmps86
  go_wp2
  go_loop [3] (fun i => ∃ k : Nat, k ≤ n ∧ i = .int .i64 k ∧ Hid (trim f n = trim f k)) (fun i => (intOf i).toNat)
  case atStart => exact ⟨n, Nat.le_refl _, rfl, rfl⟩
  case round =>
    obtain ⟨k, hk, rfl, hz⟩ := hrel
    unfold maxLen at hm
    by_cases h0 : k = 0
    · subst h0
      go_wp2_with (go_at_call 103; refine (clone_any (sl_to (Nat.zero_le n) hcap (by unfold maxLen; omega) hb hc.out) (by omega)).mono ?_; rintro e w' ⟨v, rfl, hv, hbl⟩)
      go_ret
      exact ⟨v, rfl, by rw [hz.out]; exact hv, hbl⟩
    · have hcell := hc.out (k - 1) (by omega)
      by_cases hf : f (k - 1) = 0
      · go_wp2
        go_round
        case rel => exact ⟨k - 1, by omega, by go_num, by unfold Hid; rw [hz.out]; exact trim_same f k (k - 1) (by omega) (fun j h1 h2 => by rw [show j = k - 1 from by omega]; exact hf)⟩
        case measure => simp [intOf]; omega
      · go_wp2_with (go_at_call 103; refine (clone_any (sl_to hk hcap (by unfold maxLen; omega) hb hc.out) (by omega)).mono ?_; rintro e w' ⟨v, rfl, hv, hbl⟩)
        go_ret
        have e : trim f k = k := by
          obtain ⟨m, rfl⟩ : ∃ m, k = m + 1 := ⟨k - 1, by omega⟩
          rw [Nat.add_sub_cancel] at hf
          simp only [trim]
          rw [if_neg hf]
        exact ⟨v, rfl, by rw [hz.out, e]; exact hv, hbl⟩

/-- nat.Make: the row without the noughts at its end. -/
theorem make_any {v : Value} {n : Nat} {f : Nat → Nat} {w : World} (h : Rd .u32 w v n f) (hn : n * 4 ≤ 140737488355328) :
    Calls Tryd.prog 86 #[v] w fun e w' => ∃ v, e = .returned v ∧ Rd .u32 w' v (trim f n) f ∧ Below w.heap.size w w' := by
  obtain ⟨ao, cap, rfl, hcap, hm, hc⟩ := h
  by_cases h0 : n = 0
  · subst h0
    go_enter Tryd.func86, Tryd.ntmps86
    go_wp2
    go_loop [3] (fun i => i = .int .i64 0) (fun i => (intOf i).toNat)
    case atStart => rfl
    case round =>
      subst hrel
      unfold maxLen at hm
      go_wp2_with (go_at_call 103; refine (clone_any (f := f) ⟨ao, cap, rfl, by omega, (by unfold maxLen; omega), fun h => absurd h (by omega)⟩ (by omega)).mono ?_; rintro e w' ⟨v, rfl, hv, hbl⟩)
      go_ret
      exact ⟨v, rfl, hv, hbl⟩
  · obtain ⟨b, off, rfl, hb, hcl⟩ := hc (by omega)
    exact make_some b off n cap f w hn hcap hm hb hcl

/-- nat.Make of limbs: the natural. -/
theorem make_nt {v : Value} {n : Nat} {f : Nat → Nat} {w : World} (h : Rd .u32 w v n f) (hn : n * 4 ≤ 140737488355328) (hf : Fits n f) :
    Calls Tryd.prog 86 #[v] w fun e w' => ∃ v, e = .returned v ∧ Nt w' v (nv f n) ∧ Below w.heap.size w w' :=
  (make_any h hn).mono fun e w' ⟨v, he, hv, hb⟩ => ⟨v, he, ⟨trim f n, f, hv, hf.mono (trim_le f n), trim_norm f n, trim_nv f n⟩, hb⟩
end Go.Proofs.YtopbfgmpilnghaaDoor

namespace Go.Proofs.YtopbfgmpilnghaaDoor
open Go.RowKit

theorem ret_two {a b c d : Int} {k l : IntKind} (h : a = c) (h' : b = d) : Ending.returned (.tuple #[.int k a, .int l b]) = .returned (.tuple #[.int k c, .int l d]) := by rw [h, h']

theorem wrap_u32 (n : Nat) (h : n < 4294967296) : IntKind.u32.wrap (n : Int) = n := by
  simp [IntKind.wrap, IntKind.bits, IntKind.signed]; omega

theorem bits_nat_u32 (a b : Nat) (ha : a < 4294967296) (hb : b < 4294967296) :
    bits .and .u32 a b = ((a &&& b : Nat) : Int) ∧ bits .or .u32 a b = ((a ||| b : Nat) : Int) ∧ bits .xor .u32 a b = ((a ^^^ b : Nat) : Int) := by
  have hk := fun (n : Int) (h0 : 0 ≤ n) (h1 : n < 2 ^ 32) => show IntKind.u32.wrap n = n by
    obtain ⟨m, rfl⟩ := Int.eq_ofNat_of_zero_le h0
    exact wrap_u32 m (by omega)
  have h1 := bits_nat .u32 32 (by decide) hk a b (by omega) (by omega)
  refine ⟨h1.1, h1.2, ?_⟩
  have ha' : a % 2 ^ IntKind.u32.bits = a := Nat.mod_eq_of_lt (show a < 2 ^ 32 by omega)
  have hb' : b % 2 ^ IntKind.u32.bits = b := Nat.mod_eq_of_lt (show b < 2 ^ 32 by omega)
  simp only [bits, BitVec.ofInt_natCast, BitVec.toNat_xor, BitVec.toNat_ofNat, ha', hb']
  exact wrap_u32 _ (Nat.xor_lt_two_pow (n := 32) (by omega) (by omega))

theorem top_and (a b : Nat) : (a &&& b) / 2147483648 = (a / 2147483648) &&& (b / 2147483648) := by
  rw [show 2147483648 = 2 ^ 31 from rfl, ← Nat.shiftRight_eq_div_pow, ← Nat.shiftRight_eq_div_pow, ← Nat.shiftRight_eq_div_pow, Nat.shiftRight_and_distrib]
theorem top_or (a b : Nat) : (a ||| b) / 2147483648 = (a / 2147483648) ||| (b / 2147483648) := by
  rw [show 2147483648 = 2 ^ 31 from rfl, ← Nat.shiftRight_eq_div_pow, ← Nat.shiftRight_eq_div_pow, ← Nat.shiftRight_eq_div_pow, Nat.shiftRight_or_distrib]
theorem top_xor (a b : Nat) : (a ^^^ b) / 2147483648 = (a / 2147483648) ^^^ (b / 2147483648) := by
  rw [show 2147483648 = 2 ^ 31 from rfl, ← Nat.shiftRight_eq_div_pow, ← Nat.shiftRight_eq_div_pow, ← Nat.shiftRight_eq_div_pow, Nat.shiftRight_xor_distrib]

theorem borrow_bit (x y d c : Nat) (hx : x < 4294967296) (hy : y < 4294967296) (hc : c ≤ 1) (hd : d = (x + 4294967296 - y - c) % 4294967296) :
    (((4294967295 ^^^ x) &&& y) ||| ((4294967295 ^^^ (x ^^^ y)) &&& d)) / 2147483648 = if x < y + c then 1 else 0 := by
  have hd' : d < 4294967296 := by omega
  rw [top_or, top_and, top_and, top_xor, top_xor, top_xor, show 4294967295 / 2147483648 = 1 from rfl]
  have h1 : x / 2147483648 = 0 ∨ x / 2147483648 = 1 := by omega
  have h2 : y / 2147483648 = 0 ∨ y / 2147483648 = 1 := by omega
  have h3 : d / 2147483648 = 0 ∨ d / 2147483648 = 1 := by omega
  rcases h1 with h1 | h1 <;> rcases h2 with h2 | h2 <;> rcases h3 with h3 | h3 <;> rw [h1, h2, h3] <;> split <;> first | rfl | omega

theorem borrow_int (x y c : Nat) (hx : x < 4294967296) (hy : y < 4294967296) (hc : c ≤ 1) :
    bits .or .u32 (bits .and .u32 (bits .xor .u32 IntKind.u32.max (x : Int)) (y : Int)) (bits .and .u32 (bits .xor .u32 IntKind.u32.max (bits .xor .u32 (x : Int) (y : Int))) (((x : Int) - y - c) % 4294967296)) / 2147483648 = ((if x < y + c then 1 else 0 : Nat) : Int) := by
  have hm : IntKind.u32.max = ((4294967295 : Nat) : Int) := rfl
  have hd : ((x : Int) - y - c) % 4294967296 = (((x + 4294967296 - y - c) % 4294967296 : Nat) : Int) := by omega
  generalize hD : (x + 4294967296 - y - c) % 4294967296 = d at *
  have lx : 4294967295 ^^^ x < 4294967296 := Nat.xor_lt_two_pow (n := 32) (by omega) (by omega)
  have lxy : x ^^^ y < 4294967296 := Nat.xor_lt_two_pow (n := 32) (by omega) (by omega)
  have lz : 4294967295 ^^^ (x ^^^ y) < 4294967296 := Nat.xor_lt_two_pow (n := 32) (by omega) (by omega)
  have la : (4294967295 ^^^ x) &&& y < 4294967296 := Nat.lt_of_le_of_lt Nat.and_le_right hy
  have lb : (4294967295 ^^^ (x ^^^ y)) &&& d < 4294967296 := Nat.lt_of_le_of_lt Nat.and_le_right (by omega)
  rw [hm, hd, (bits_nat_u32 _ x (by omega) hx).2.2, (bits_nat_u32 x y hx hy).2.2, (bits_nat_u32 _ _ (by omega) lxy).2.2, (bits_nat_u32 _ y lx hy).1, (bits_nat_u32 _ d lz (by omega)).1, (bits_nat_u32 _ _ la lb).2.1]
  have := borrow_bit x y d c hx hy hc hD.symm
  omega

theorem add32_any (x y c : Nat) (w : World) (hx : x < 4294967296) (hy : y < 4294967296) (hc : c < 4294967296) :
    Calls Tryd.prog 99 #[.int .u32 x, .int .u32 y, .int .u32 c] w fun e w' =>
      e = .returned (.tuple #[.int .u32 (((x + y + c) % 4294967296 : Nat) : Int), .int .u32 (((x + y + c) / 4294967296 : Nat) : Int)]) ∧ w = w' := by
  go_enter Tryd.func99, Tryd.ntmps99
  go_wp2
  go_ret2
  exact ⟨ret_two (by omega) (by omega), rfl⟩

/-- what is borrowed -/
def borrow (x y c : Nat) : Nat := if x < y + c then 1 else 0

theorem sub32_any (x y c : Nat) (w : World) (hx : x < 4294967296) (hy : y < 4294967296) (hc : c ≤ 1) :
    Calls Tryd.prog 100 #[.int .u32 x, .int .u32 y, .int .u32 c] w fun e w' =>
      e = .returned (.tuple #[.int .u32 (((x + 4294967296 - y - c) % 4294967296 : Nat) : Int), .int .u32 (borrow x y c : Int)]) ∧ w = w' := by
  go_enter Tryd.func100, Tryd.ntmps100
  go_wp2
  go_ret2
  exact ⟨ret_two (by omega) (borrow_int x y c hx hy hc), rfl⟩
end Go.Proofs.YtopbfgmpilnghaaDoor
