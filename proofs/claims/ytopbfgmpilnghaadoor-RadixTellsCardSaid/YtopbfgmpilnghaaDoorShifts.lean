/- nat.Shl, nat.Shr: shifts of naturals. nat.Shr: over a power of 2, cut. -/
import Derived.Test.YtopbfgmpilnghaaDoorSums
import Derived.Deep.RegionLaw
import Derived.Deep.AppendLies
set_option linter.unusedVariables false
set_option linter.unusedSimpArgs false
namespace Go.Proofs.YtopbfgmpilnghaaDoor
open Go.RowKit

/-- a block of N numbers that the call itself made -/
def Own (k : IntKind) (W : World) (g : Nat) (e : TypeId) (N : Nat) (f : Nat → Nat) : Prop :=
  ∃ cs : Array Value, W.heap[g]? = some (.cells cs e (0, 0)) ∧ cs.size = N ∧ ∀ j, j < N → cs[j]? = some (.int k (f j))

theorem Own.lt {k : IntKind} {W : World} {g : Nat} {e : TypeId} {N : Nat} {f : Nat → Nat} (h : Own k W g e N f) : g < W.heap.size := by
  obtain ⟨cs, hb, _⟩ := h
  exact (Array.getElem?_eq_some_iff.1 hb).1
theorem Own.cell {k : IntKind} {W : World} {g : Nat} {e : TypeId} {N : Nat} {f : Nat → Nat} (h : Own k W g e N f) {j : Nat} (hj : j < N) : W.cell? ⟨g, j, none⟩ = some (.int k (f j)) := by
  obtain ⟨cs, hb, hs, hc⟩ := h
  simp only [World.cell?, hb]
  simpa using hc j hj
theorem Own.free {k : IntKind} {W : World} {g : Nat} {e : TypeId} {N : Nat} {f : Nat → Nat} (h : Own k W g e N f) (j : Nat) : W.frozen? ⟨g, j, none⟩ = false := by
  obtain ⟨cs, hb, hs, hc⟩ := h
  simp [World.frozen?, hb]
theorem Own.same {k : IntKind} {W W' : World} {g : Nat} {e : TypeId} {N : Nat} {f : Nat → Nat} (h : Own k W g e N f) (hb : W'.heap[g]? = W.heap[g]?) : Own k W' g e N f := by
  obtain ⟨cs, hc, r⟩ := h
  exact ⟨cs, hb.trans hc, r⟩
theorem Own.below {k : IntKind} {W W' : World} {g : Nat} {e : TypeId} {N : Nat} {f : Nat → Nat} {B : Nat} (h : Own k W g e N f) (hb : Below B W W') (hg : g < B) : Own k W' g e N f := h.same (hb.block g hg)
theorem Own.alloc {k : IntKind} {W : World} {g : Nat} {e : TypeId} {N : Nat} {f : Nat → Nat} (h : Own k W g e N f) (o : Obj) : Own k (W.alloc o) g e N f := h.same (heap_alloc_old W o h.lt)
theorem Own.drew {k : IntKind} {W : World} {g : Nat} {e : TypeId} {N : Nat} {f : Nat → Nat} (h : Own k W g e N f) : Own k W.drew g e N f := h
theorem Own.drawn {k : IntKind} {W W' : World} {g : Nat} {e : TypeId} {N : Nat} {f : Nat → Nat} (h : Own k W g e N f) (hd : Drawn W W') : Own k W' g e N f := h.same (by rw [hd.heap])
theorem Own.congr {k : IntKind} {W : World} {g : Nat} {e : TypeId} {N : Nat} {f f' : Nat → Nat} (h : Own k W g e N f) (hf : ∀ j, j < N → f j = f' j) : Own k W g e N f' := by
  obtain ⟨cs, hb, hs, hc⟩ := h
  exact ⟨cs, hb, hs, fun j hj => by rw [← hf j hj]; exact hc j hj⟩
/-- one number turned -/
def upd (f : Nat → Nat) (i x : Nat) : Nat → Nat := fun j => if j = i then x else f j
theorem upd_same (f : Nat → Nat) (i x : Nat) : upd f i x i = x := by simp [upd]
theorem upd_other (f : Nat → Nat) {i j : Nat} (x : Nat) (h : j ≠ i) : upd f i x j = f j := by simp [upd, h]
theorem Own.set {k : IntKind} {W : World} {g : Nat} {e : TypeId} {N : Nat} {f : Nat → Nat} (h : Own k W g e N f) (i x : Nat) : Own k (W.setCell ⟨g, i, none⟩ (.int k x)) g e N (upd f i x) := by
  obtain ⟨cs, hb, hs, hc⟩ := h
  refine ⟨cs.setIfInBounds i (.int k x), ?_, by simp [hs], fun j hj => ?_⟩
  · simp [World.setCell, Array.getElem?_modify, hb]
  · rw [Array.getElem?_setIfInBounds]
    by_cases e : i = j
    · subst e; simp [upd, hs, hj]
    · rw [if_neg e, hc j hj, upd_other f x (Ne.symm e)]
theorem Own.other {k : IntKind} {W : World} {g : Nat} {e : TypeId} {N : Nat} {f : Nat → Nat} (h : Own k W g e N f) {p : Addr} (hp : g ≠ p.block) (v : Value) : Own k (W.setCell p v) g e N f := h.same (Below.heap_setCell W p v g hp)
theorem Own.rd {k : IntKind} {W : World} {g : Nat} {e : TypeId} {N : Nat} {f : Nat → Nat} (h : Own k W g e N f) {n c : Nat} (hn : n ≤ N) (hc : n ≤ c) (hm : c ≤ maxLen) : Rd k W (.slice (some ⟨g, 0, none⟩) n c) n f :=
  ⟨_, c, rfl, hc, hm, fun _ => ⟨g, 0, rfl, h.lt, fun j hj => by rw [Nat.zero_add]; exact h.cell (by omega)⟩⟩
theorem Own.owns {k : IntKind} {W : World} {g : Nat} {e : TypeId} {N : Nat} {f : Nat → Nat} (h : Own k W g e N f) {n base : Nat} (hn : n ≤ N) (hm : N ≤ maxLen) (hb : base ≤ g) : W.ownsRow base e 1 (.slice (some ⟨g, 0, none⟩) n N) n (cellsOf k n f) := by
  obtain ⟨cs, hbk, hs, hc⟩ := h
  refine ⟨by simp [cellsOf_length], .inr ⟨g, N, cs, rfl, hb, hbk, hn, hm, by rw [hs, Nat.mul_one], ?_⟩⟩
  apply List.ext_getElem?
  intro j
  rw [List.getElem?_take, Nat.mul_one]
  split
  · rename_i hj
    rw [cellsOf_get _ _ _ _ hj]
    simpa using hc j (by omega)
  · rename_i hj
    rw [List.getElem?_eq_none (by rw [cellsOf_length]; omega)]

/-- 'make([]T, n, m)': the numbers are nought -/
theorem wpList_make_row {P : Program} (w : World) {ops : Array Oper} {rest : List Oper} {o : Oper} {a : Act} {Q : Exit → Act → World → Prop}
    (hg : o.guard = none) (l c : Operand) (t : TypeId) (hop : o.op = Op.makeSlice t l c) (e : TypeId) (i : TypeInfo) (k : IntKind) (h1 : P.underlying t = some (.slice e)) (h2 : P.info? e = some i) (h3 : i.zero = some (.int k 0)) (h4 : i.size = 1)
    (kl kc : IntKind) (L C : Int) (n m : Nat) (hl : a.eval l = .int kl L) (hc : a.eval c = .int kc C) (hL : L = (n : Int)) (hC : C = (m : Int)) (hnm : n ≤ m) (b2 : i.bytes * m ≤ 281474976710656) (b3 : m ≤ 9223372036854775807)
    (hK : ∀ w', Own k w' w.heap.size e m (fun _ => 0) → w.grownBy w' none → w'.heap.size = w.heap.size + 1 → wpList P ops Q rest (a.put o.dst (.slice (some ⟨w.heap.size, 0, none⟩) n m)) w') :
    wpList P ops Q (o :: rest) a w := by
  refine wpList_plain hg fun K hK' => ?_
  subst hL
  subst hC
  have hb2 : (i.bytes : Int) * (m : Int) ≤ 281474976710656 := by rw [← Int.natCast_mul]; omega
  have hrun := run_make (P := P) w t e i (.int k 0) h1 h2 h3 kl kc (n : Int) (m : Int) (by omega) (by omega) hb2 (by omega)
  unfold Oper.wp
  simp [execOp, hop, hl, hc, hrun, Result.andThen]
  refine hK' _ _ (hK _ ?_ (World.grownBy_alloc w _ none) (World.size_alloc _ _))
  refine ⟨_, heap_alloc_new w _, ?_, fun j hj => ?_⟩
  · simp [madeCells, Value.cells, h4]
  · simp [madeCells, Value.cells, h4, hj, Nat.mod_one]

/-- the lower limb of a shifted one, and what is carried -/
def shlLow (f : Nat → Nat) (s : Nat) : Nat → Nat
  | 0 => 0
  | i + 1 => f i * 2 ^ s / 4294967296
/-- a limb of a natural that is shifted by q limbs and s bits -/
def shlG (f : Nat → Nat) (q s m : Nat) (j : Nat) : Nat := if j < q then 0 else if j < q + m then f (j - q) * 2 ^ s % 4294967296 + shlLow f s (j - q) else shlLow f s m

theorem pow_le_31 {s : Nat} (h : s < 32) : 1 ≤ 2 ^ s ∧ 2 ^ s ≤ 2147483648 := by
  have h1 : 2 ^ s ≤ 2 ^ 31 := Nat.pow_le_pow_right (by omega) (by omega)
  have h2 : 0 < 2 ^ s := Nat.pow_pos (by omega)
  omega

theorem shlLow_lt {f : Nat → Nat} {s m : Nat} (hf : Fits m f) (hs : s < 32) {i : Nat} (hi : i ≤ m) : shlLow f s i < 2 ^ s := by
  cases i with
  | zero => exact Nat.pow_pos (by omega)
  | succ i =>
    simp only [shlLow]
    have := hf i (by omega)
    have hp := (pow_le_31 hs).1
    generalize 2 ^ s = P at *
    rw [Nat.div_lt_iff_lt_mul (by omega), Nat.mul_comm P]
    exact Nat.mul_lt_mul_of_pos_right this (by omega)

theorem shlG_fits {f : Nat → Nat} {q s m : Nat} (hf : Fits m f) (hs : s < 32) : Fits (q + m + 1) (shlG f q s m) := by
  intro j hj
  have hp := pow_le_31 hs
  unfold shlG
  split
  · omega
  · split
    · have h1 := shlLow_lt hf hs (i := j - q) (by omega)
      obtain ⟨d, hd⟩ : ∃ d, f (j - q) * 2 ^ s % 4294967296 = 2 ^ s * d ∧ d < 2 ^ (32 - s) := by
        have h1 : (2 : Nat) ^ 32 = 2 ^ s * 2 ^ (32 - s) := by rw [← Nat.pow_add, show s + (32 - s) = 32 from by omega]
        refine ⟨f (j - q) % 2 ^ (32 - s), ?_, Nat.mod_lt _ (Nat.pow_pos (by omega))⟩
        rw [show (4294967296 : Nat) = 2 ^ s * 2 ^ (32 - s) from h1, Nat.mul_comm (f _), Nat.mul_mod_mul_left]
      have h2 : (2 : Nat) ^ s * 2 ^ (32 - s) = 4294967296 := by rw [← Nat.pow_add, show s + (32 - s) = 32 from by omega]
      have h3 : 2 ^ s * (d + 1) ≤ 2 ^ s * 2 ^ (32 - s) := Nat.mul_le_mul_left _ hd.2
      rw [hd.1]
      rw [Nat.mul_add] at h3
      omega
    · have := shlLow_lt hf hs (i := m) (Nat.le_refl _)
      omega

theorem shl_part (f : Nat → Nat) (q s m : Nat) (k : Nat) (hk : k ≤ m) : nv (shlG f q s m) (q + k) + shlLow f s k * 4294967296 ^ (q + k) = nv f k * (2 ^ s * 4294967296 ^ q) := by
  induction k with
  | zero =>
    simp only [Nat.add_zero, shlLow, nv, Nat.zero_mul]
    rw [nv_high_zero (m := 0) (Nat.zero_le _) (fun j _ h => by unfold shlG; rw [if_pos h])]
    rfl
  | succ k ih =>
    have ih := ih (by omega)
    rw [← Nat.add_assoc]
    simp only [nv]
    have hg : shlG f q s m (q + k) = f k * 2 ^ s % 4294967296 + shlLow f s k := by
      unfold shlG; rw [if_neg (by omega), if_pos (by omega), Nat.add_sub_cancel_left]
    have hl : shlLow f s (k + 1) = f k * 2 ^ s / 4294967296 := rfl
    rw [hg, hl, Nat.pow_succ, Nat.add_mul (nv f k)]
    have h1 := Nat.div_add_mod (f k * 2 ^ s) 4294967296
    rw [Nat.pow_add] at ih ⊢
    generalize f k * 2 ^ s / 4294967296 = d at *
    generalize f k * 2 ^ s % 4294967296 = r at *
    generalize shlLow f s k = l at *
    generalize nv (shlG f q s m) (q + k) = x at *
    generalize 4294967296 ^ q = P at *
    generalize 4294967296 ^ k = Q at *
    have h2 : f k * Q * (2 ^ s * P) = (4294967296 * d + r) * (P * Q) := by rw [h1]; simp only [Nat.mul_comm, Nat.mul_left_comm, Nat.mul_assoc]
    rw [h2, ← ih, Nat.add_mul, Nat.add_mul]
    have h3 : d * (P * Q * 4294967296) = 4294967296 * d * (P * Q) := by simp only [Nat.mul_comm, Nat.mul_left_comm, Nat.mul_assoc]
    rw [h3]
    omega

theorem shl_law {f : Nat → Nat} {m n : Nat} (hf : Fits m f) : nv (shlG f (n / 32) (n % 32) m) (n / 32 + m + 1) = nv f m * 2 ^ n := by
  have h := shl_part f (n / 32) (n % 32) m m (Nat.le_refl _)
  have hg : shlG f (n / 32) (n % 32) m (n / 32 + m) = shlLow f (n % 32) m := by unfold shlG; rw [if_neg (by omega), if_neg (by omega)]
  simp only [nv]
  rw [hg, h, pow32, ← Nat.pow_add, show n % 32 + 32 * (n / 32) = n from by omega]

theorem or_low (a s l : Nat) (ha : a < 4294967296) (hs : s < 32) (hl : l < 2 ^ s) : a * 2 ^ s % 4294967296 ||| l = a * 2 ^ s % 4294967296 + l := by
  obtain ⟨d, hd⟩ : ∃ d, a * 2 ^ s % 4294967296 = 2 ^ s * d := by
    have h1 : (2 : Nat) ^ 32 = 2 ^ s * 2 ^ (32 - s) := by rw [← Nat.pow_add, show s + (32 - s) = 32 from by omega]
    refine ⟨a % 2 ^ (32 - s), ?_⟩
    rw [show (4294967296 : Nat) = 2 ^ s * 2 ^ (32 - s) from h1, Nat.mul_comm a, Nat.mul_mod_mul_left]
  rw [hd, Nat.two_pow_add_eq_or_of_lt hl]

theorem or_low_int (a s l : Nat) (ha : a < 4294967296) (hs : s < 32) (hl : l < 2 ^ s) : bits .or .u32 ((a : Int) * 2 ^ s % 4294967296) (l : Int) = ((a * 2 ^ s % 4294967296 + l : Nat) : Int) := by
  have e : (a : Int) * 2 ^ s % 4294967296 = ((a * 2 ^ s % 4294967296 : Nat) : Int) := by simp
  have h2 := (pow_le_31 hs).2
  rw [e, (bits_nat_u32 _ l (Nat.mod_lt _ (by omega)) (by omega)).2.1, or_low a s l ha hs hl]

set_option maxRecDepth 100000 in
set_option maxHeartbeats 1000000 in
theorem shl_row {b off m cap n : Nat} {f : Nat → Nat} {w : World} (hm : m ≤ 536870912) (hm0 : 0 < m) (hn : n ≤ 17179869184) (hf : Hid (Fits m f)) (hB : Hid (b < w.heap.size))
    (hc : Hid (∀ j, j < m → w.cell? ⟨b, off + j, none⟩ = some (.int .u32 (f j)))) :
    Calls Tryd.prog 79 #[.slice (some ⟨b, off, none⟩) m cap, .int .i64 n] w fun e w' => ∃ v, e = .returned v ∧ Rd .u32 w' v (trim (shlG f (n / 32) (n % 32) m) (n / 32 + m + 1)) (shlG f (n / 32) (n % 32) m) ∧ Below w.heap.size w w' := by
  obtain ⟨i0, hi, hz0, hz1, hz2⟩ := info_parts info_u32
  have hm1 : ((m : Int) == 0) = false := by simp; omega
  have hq : n / 32 ≤ 536870912 := by omega
  go_enter Tryd.func79, Tryd.ntmps79
  go_wp2_with (at_make; refine wpList_make_row _ rfl _ _ 22 rfl 46 i0 .u32 Tryd.underlying22 hi hz0 hz1 _ _ _ _ (n / 32) (n / 32 + m + 1) rfl rfl (by omega) (by omega) (by omega) (by rw [hz2]; omega) (by omega) ?_; intro w1 hown hgrow hsz)
  have hrow : w1.ownsRow w.heap.size 46 1 (.slice (some ⟨w.heap.size, 0, none⟩) (n / 32) (n / 32 + m + 1)) (n / 32) (cellsOf .u32 (n / 32) (shlG f (n / 32) (n % 32) m)) := by
    rw [cellsOf_congr _ _ _ (fun _ => 0) (fun j hj => by unfold shlG; rw [if_pos hj])]
    exact hown.owns (by omega) (by unfold maxLen; omega) (Nat.le_refl _)
  have hbw : Below w.heap.size w w1 := (Below.refl _ w).grown hgrow (Nat.le_refl _) (fun k e => by cases e)
  have HROW := Lib.hid hrow
  have HBW := Lib.hid hbw
  clear hown hgrow hsz hrow hbw hq
  go_loopw [5, 7, 26] (fun v lo i wr => ∃ k : Nat, k ≤ m ∧ i = .int .i64 k ∧ v = .slice (some ⟨w.heap.size, 0, none⟩) (n / 32 + k) (n / 32 + m + 1) ∧ lo = .int .u32 (shlLow f (n % 32) k) ∧
    Hid (wr.ownsRow w.heap.size 46 1 (.slice (some ⟨w.heap.size, 0, none⟩) (n / 32 + k) (n / 32 + m + 1)) (n / 32 + k) (cellsOf .u32 (n / 32 + k) (shlG f (n / 32) (n % 32) m))) ∧ Hid (Below w.heap.size w wr)) (fun _ _ i _ => m - (intOf i).toNat)
  case atStart => exact ⟨0, Nat.zero_le _, rfl, rfl, rfl, HROW, HBW⟩
  case round =>
    obtain ⟨k, hk, rfl, rfl, rfl, hown, hbw⟩ := hrel
    by_cases hlt : k < m
    · have hcell : wr.cell? ⟨b, off + k, none⟩ = _ := (hbw.out.cell (p := ⟨b, off + k, none⟩) hB.out).trans (hc.out k hlt)
      have hfk := hf.out k hlt
      have hs : n % 32 < 32 := Nat.mod_lt _ (by omega)
      have hor : bits .or .u32 ((f k : Int) * 2 ^ (n % 32) % 4294967296) (shlLow f (n % 32) k : Int) = (shlG f (n / 32) (n % 32) m (n / 32 + k) : Int) := by
        rw [or_low_int _ _ _ hfk hs (shlLow_lt hf.out hs (by omega))]
        unfold shlG
        rw [if_neg (by omega), if_pos (by omega), Nat.add_sub_cancel_left]
      have hp0 : (0 : Int) ≤ (f k : Int) * 2 ^ (n % 32) := Int.mul_nonneg (by omega) (Int.le_of_lt (Int.pow_pos (by omega)))
      have hp1 : (f k : Int) * 2 ^ (n % 32) ≤ 9223372034707292160 := by
        have h1 : f k * 2 ^ (n % 32) ≤ 4294967295 * 2147483648 := Nat.mul_le_mul (by omega) (pow_le_31 hs).2
        have h2 : ((f k * 2 ^ (n % 32) : Nat) : Int) ≤ 9223372034707292160 := by omega
        simpa using h2
      go_wp2_with (at_builtin; go_must (refine wpList_append_fits _ rfl _ _ 22 rfl w.heap.size 46 i0 1 Tryd.underlying22 hi hz1 w.heap.size (n / 32 + k) (n / 32 + m + 1) _ rfl (hown.out.alloc _) ⟨_, 0, none⟩ 1 1 [.int .u32 (shlG f (n / 32) (n % 32) m (n / 32 + k) : Int)] rfl rfl (cell_one_new _ _ _) (by simp [Value.oneCell']) (by omega) ?_); intro w2 hown2 hg2)
      have hbs := hbw.out.size
      go_roundw
      case rel => exact ⟨k + 1, by omega, by go_num, rfl, by simp [shlLow], by
          have := hown2
          rw [← cellsOf_snoc] at this
          exact this, Below.grown (hbw.out.alloc hbs _) hg2 (by simp; omega) (fun j e => by cases e; omega)⟩
      case measure => simp [intOf]; omega
    · obtain rfl : k = m := by omega
      have hlow : (shlLow f (n % 32) k : Int) = (shlG f (n / 32) (n % 32) k (n / 32 + k) : Int) := by
        unfold shlG
        rw [if_neg (by omega), if_neg (by omega)]
      have hbs := Lib.hid hbw.out.size
      have hg : Hid (Fits (n / 32 + k + 1) (shlG f (n / 32) (n % 32) k)) := shlG_fits hf.out (Nat.mod_lt _ (by omega))
      go_wp2_with (first
        | (at_builtin; refine wpList_append_fits _ rfl _ _ 22 rfl w.heap.size 46 i0 1 Tryd.underlying22 hi hz1 w.heap.size (n / 32 + k) (n / 32 + k + 1) _ rfl (hown.out.alloc _) ⟨_, 0, none⟩ 1 1 [.int .u32 (shlG f (n / 32) (n % 32) k (n / 32 + k) : Int)] rfl rfl (cell_one_new _ _ _) (by simp [Value.oneCell']) (by omega) ?_; intro w2 hown2 hg2; rw [← cellsOf_snoc] at hown2; have HO2 := Lib.hid hown2; have HG2 := Lib.hid hg2; clear hown2 hg2)
        | (go_at_call 86; refine (make_any (Rd.of_own HO2.out) (by omega)).mono ?_; rintro e w3 ⟨v, rfl, hv, hb3⟩))
      go_ret
      have hb2 : Below w.heap.size w w2 := Below.grown (hbw.out.alloc hbs.out _) HG2.out (by have := hbs.out; simp; omega) (fun j e => by cases e; omega)
      exact ⟨v, rfl, hv, hb2.trans (hb3.mono hb2.size)⟩

theorem shl_none {ao : Option Addr} {cap n : Nat} {w : World} (hn : n ≤ 17179869184) :
    Calls Tryd.prog 79 #[.slice ao 0 cap, .int .i64 n] w fun e w' => e = .returned (.slice none 0 0) ∧ w = w' := by
  go_enter Tryd.func79, Tryd.ntmps79
  go_wp2
  go_ret
  exact ⟨rfl, rfl⟩

/-- nat.Shl: times a power of 2. -/
theorem shl_nt {v : Value} {a n : Nat} {w : World} (ha : Nt w v a) (la : limbs a ≤ 536870912) (hn : n ≤ 17179869184) :
    Calls Tryd.prog 79 #[v, .int .i64 n] w fun e w' => ∃ v, e = .returned v ∧ Nt w' v (a * 2 ^ n) ∧ Below w.heap.size w w' := by
  obtain ⟨ao, cap, f, rfl, ra, fta, na, va⟩ := ha.open
  by_cases h0 : limbs a = 0
  · rw [h0] at va ⊢
    obtain rfl : a = 0 := va.symm
    exact (shl_none hn).mono fun e w' ⟨he, hw⟩ => ⟨_, he, by rw [Nat.zero_mul]; exact Nt.nil _, by subst hw; exact Below.refl _ _⟩
  · obtain ⟨b, off, rfl, hb, hc⟩ := ra.at (by omega)
    refine (shl_row la (by omega) hn fta hb hc).mono fun e w' ⟨v, he, hv, hbl⟩ => ⟨v, he, ?_, hbl⟩
    have := nt_of_trim hv (shlG_fits fta (Nat.mod_lt _ (by omega)))
    rw [shl_law fta, va] at this
    exact this
end Go.Proofs.YtopbfgmpilnghaaDoor

namespace Go.Proofs.YtopbfgmpilnghaaDoor
open Go.RowKit

/-- a limb of a natural that is shifted down by q limbs and s bits -/
def shrG (f : Nat → Nat) (q s m : Nat) (j : Nat) : Nat := f (q + j) / 2 ^ s + lim m f (q + j + 1) % 2 ^ s * 2 ^ (32 - s)

theorem pow_parts {s : Nat} (hs : s < 32) : (2 : Nat) ^ s * 2 ^ (32 - s) = 4294967296 := by rw [← Nat.pow_add, show s + (32 - s) = 32 from by omega]

theorem nv_shift (f : Nat → Nat) (q d : Nat) : nv f (q + d) = nv f q + 4294967296 ^ q * nv (fun j => f (q + j)) d := by
  induction d with
  | zero => simp [nv]
  | succ d ih =>
    rw [← Nat.add_assoc]
    simp only [nv]
    rw [ih, Nat.pow_add, Nat.mul_add]
    have : f (q + d) * (4294967296 ^ q * 4294967296 ^ d) = 4294967296 ^ q * (f (q + d) * 4294967296 ^ d) := by simp only [Nat.mul_comm, Nat.mul_left_comm, Nat.mul_assoc]
    omega

theorem shr_one (f : Nat → Nat) (q s m : Nat) (hs : s < 32) (d : Nat) (hd : q + d < m) : shrG f q s m d * 2 ^ s + lim m f (q + d) % 2 ^ s = f (q + d) + lim m f (q + d + 1) % 2 ^ s * 4294967296 := by
  have hl : lim m f (q + d) = f (q + d) := by unfold lim; rw [if_pos hd]
  unfold shrG
  rw [hl, ← pow_parts hs, Nat.add_mul]
  have h1 := Nat.div_add_mod (f (q + d)) (2 ^ s)
  rw [Nat.mul_comm (2 ^ s)] at h1
  have h2 : lim m f (q + d + 1) % 2 ^ s * 2 ^ (32 - s) * 2 ^ s = lim m f (q + d + 1) % 2 ^ s * (2 ^ s * 2 ^ (32 - s)) := by rw [Nat.mul_assoc, Nat.mul_comm (2 ^ (32 - s))]
  omega

theorem shr_part (f : Nat → Nat) (q s m : Nat) (hs : s < 32) (d : Nat) (hd : q + d ≤ m) :
    nv (shrG f q s m) d * 2 ^ s + lim m f q % 2 ^ s = nv (fun j => f (q + j)) d + lim m f (q + d) % 2 ^ s * 4294967296 ^ d := by
  induction d with
  | zero => simp [nv]
  | succ d ih =>
    have ih := ih (by omega)
    have hg := shr_one f q s m hs d (by omega)
    simp only [nv]
    rw [Nat.pow_succ, ← Nat.add_assoc q d 1, Nat.add_mul]
    generalize lim m f (q + d + 1) % 2 ^ s = r' at *
    generalize lim m f (q + d) % 2 ^ s = r at *
    generalize lim m f q % 2 ^ s = r0 at *
    generalize (2 : Nat) ^ s = P at *
    generalize 4294967296 ^ d = Q at *
    have h3 := congrArg (· * Q) hg
    simp only [Nat.add_mul] at h3
    have h4 : shrG f q s m d * Q * P = shrG f q s m d * P * Q := by rw [Nat.mul_right_comm]
    have h5 : r' * (Q * 4294967296) = r' * 4294967296 * Q := by rw [Nat.mul_comm Q, Nat.mul_assoc]
    rw [h4, h5]
    omega

theorem shr_law {f : Nat → Nat} {m n : Nat} (hf : Fits m f) (h : n / 32 ≤ m) : nv (shrG f (n / 32) (n % 32) m) (m - n / 32) = nv f m / 2 ^ n := by
  have hs : n % 32 < 32 := Nat.mod_lt _ (by omega)
  have h1 := shr_part f (n / 32) (n % 32) m hs (m - n / 32) (by omega)
  have h2 := nv_shift f (n / 32) (m - n / 32)
  rw [show n / 32 + (m - n / 32) = m from by omega] at h1 h2
  have h3 : lim m f m = 0 := by unfold lim; rw [if_neg (by omega)]
  rw [h3, Nat.zero_mod, Nat.zero_mul, Nat.add_zero] at h1
  have h4 := nv_lt (hf.mono h)
  have hp : 0 < 4294967296 ^ (n / 32) := Nat.pow_pos (by omega)
  have h5 : (2 : Nat) ^ n = 4294967296 ^ (n / 32) * 2 ^ (n % 32) := by rw [pow32, ← Nat.pow_add, show 32 * (n / 32) + n % 32 = n from by omega]
  have h6 : lim m f (n / 32) % 2 ^ (n % 32) < 2 ^ (n % 32) := Nat.mod_lt _ (Nat.pow_pos (by omega))
  rw [h5, ← Nat.div_div_eq_div_mul, h2, Nat.add_mul_div_left _ _ hp, Nat.div_eq_of_lt h4, Nat.zero_add, ← h1]
  rw [Nat.mul_comm, Nat.mul_add_div (Nat.pow_pos (by omega)), Nat.div_eq_of_lt h6, Nat.add_zero]

theorem shrG_fits {f : Nat → Nat} {q s m : Nat} (hf : Fits m f) (hs : s < 32) : Fits (m - q) (shrG f q s m) := by
  intro j hj
  unfold shrG
  have h1 := hf (q + j) (by omega)
  have h2 := pow_parts hs
  have h3 : f (q + j) / 2 ^ s < 2 ^ (32 - s) := by
    rw [Nat.div_lt_iff_lt_mul (Nat.pow_pos (by omega)), Nat.mul_comm, h2]; exact h1
  have h4 : (lim m f (q + j + 1) % 2 ^ s + 1) * 2 ^ (32 - s) ≤ 2 ^ s * 2 ^ (32 - s) := Nat.mul_le_mul_right _ (Nat.mod_lt _ (Nat.pow_pos (by omega)))
  rw [Nat.add_mul] at h4
  omega

theorem or_high (a x s : Nat) (ha : a < 4294967296) (hs : s < 32) : (a / 2 ^ s) ||| (x * 4294967296 / 2 ^ s % 4294967296) = a / 2 ^ s + x % 2 ^ s * 2 ^ (32 - s) := by
  have h2 := pow_parts hs
  have h3 : a / 2 ^ s < 2 ^ (32 - s) := by
    rw [Nat.div_lt_iff_lt_mul (Nat.pow_pos (by omega)), Nat.mul_comm, h2]; exact ha
  have h4 : x * 4294967296 / 2 ^ s = x * 2 ^ (32 - s) := by
    rw [← h2, Nat.mul_left_comm, Nat.mul_div_cancel_left _ (Nat.pow_pos (by omega))]
  have h5 : x * 2 ^ (32 - s) % 4294967296 = 2 ^ (32 - s) * (x % 2 ^ s) := by
    rw [← h2, Nat.mul_mod_mul_right, Nat.mul_comm]
  rw [h4, h5, Nat.or_comm, ← Nat.two_pow_add_eq_or_of_lt h3, Nat.mul_comm]
  omega

theorem or_high_int (a x s : Nat) (ha : a < 4294967296) (hx : x < 4294967296) (hs : s < 32) : bits .or .u32 ((a : Int) / 2 ^ s) ((x : Int) * 4294967296 / 2 ^ s % 4294967296) = ((a / 2 ^ s + x % 2 ^ s * 2 ^ (32 - s) : Nat) : Int) := by
  have e1 : (a : Int) / 2 ^ s = ((a / 2 ^ s : Nat) : Int) := by simp
  have e2 : (x : Int) * 4294967296 / 2 ^ s % 4294967296 = ((x * 4294967296 / 2 ^ s % 4294967296 : Nat) : Int) := by simp
  have h1 : a / 2 ^ s < 4294967296 := Nat.lt_of_le_of_lt (Nat.div_le_self _ _) ha
  rw [e1, e2, (bits_nat_u32 _ _ h1 (Nat.mod_lt _ (by omega))).2.1, or_high a x s ha hs]

theorem cell_one_drew (w : World) (x : Value) (t : TypeId) : ∀ j u, [x][j]? = some u → (w.alloc (.cells #[x] t)).drew.cell? ((⟨w.heap.size, 0, none⟩ : Addr).add j) = some u := cell_one_new w x t

/-- nat.at, its place as the walk spells it -/
theorem at_int {v : Value} {n : Nat} {f : Nat → Nat} {w : World} (h : Rd .u32 w v n f) (i : Int) (j : Nat) (hj : i = (j : Int)) (hb : j < 4611686018427387904) :
    Calls Tryd.prog 102 #[v, .int .i64 i] w fun e w' => e = .returned (.int .u32 (lim n f j : Int)) ∧ w = w' := by
  subst hj
  exact at_any h j hb

set_option maxRecDepth 100000 in
set_option maxHeartbeats 2000000 in
theorem shr_row {b off m cap n : Nat} {f : Nat → Nat} {w : World} (hm : m ≤ 536870912) (hn : n / 32 < m) (hf : Hid (Fits m f)) (hB : Hid (b < w.heap.size)) (hcap : Hid (m ≤ cap ∧ cap ≤ maxLen))
    (hc : Hid (∀ j, j < m → w.cell? ⟨b, off + j, none⟩ = some (.int .u32 (f j)))) :
    Calls Tryd.prog 80 #[.slice (some ⟨b, off, none⟩) m cap, .int .i64 n] w fun e w' => ∃ v, e = .returned v ∧ Rd .u32 w' v (trim (shrG f (n / 32) (n % 32) m) (m - n / 32)) (shrG f (n / 32) (n % 32) m) ∧ Below w.heap.size w w' := by
  obtain ⟨i0, hi, hz0, hz1, hz2⟩ := info_parts info_u32
  have hd0 : decide ((m : Int) ≤ (n : Int) / 32) = false := by simp; omega
  go_enter Tryd.func80, Tryd.ntmps80
  go_wp2
  go_loopw [7, 21] (fun v i wr => ∃ k : Nat, k ≤ m - n / 32 ∧ i = .int .i64 k ∧
    Hid (wr.ownsRow w.heap.size 46 1 v k (cellsOf .u32 k (shrG f (n / 32) (n % 32) m))) ∧ Hid (Below w.heap.size w wr)) (fun _ i _ => m - n / 32 - (intOf i).toNat)
  case atStart => exact ⟨0, Nat.zero_le _, rfl, World.ownsRow_nil _ _ _ _, Below.refl _ _⟩
  case round =>
    obtain ⟨k, hk, rfl, hown, hbw⟩ := hrel
    by_cases hlt : k < m - n / 32
    · have hcell : wr.cell? ⟨b, off + (n / 32 + k), none⟩ = _ := (hbw.out.cell (p := ⟨b, off + (n / 32 + k), none⟩) hB.out).trans (hc.out (n / 32 + k) (by omega))
      have hfk := hf.out (n / 32 + k) (by omega)
      have hs : n % 32 < 32 := Nat.mod_lt _ (by omega)
      have hd1 : decide ((k : Int) < (m : Int) - (n : Int) / 32) = true := by simp; omega
      have hrd : Hid (∀ W, W = wr.drew → Rd .u32 W (.slice (some ⟨b, off, none⟩) m cap) m f) := fun W h => by
        rw [h]
        exact ⟨_, cap, rfl, hcap.out.1, hcap.out.2, fun _ => ⟨b, off, rfl, Nat.lt_of_lt_of_le hB.out hbw.out.size, fun j hj => (hbw.out.cell (p := ⟨b, off + j, none⟩) hB.out).trans (hc.out j hj)⟩⟩
      have hx : lim m f (n / 32 + k + 1) < 4294967296 := lim_lt hf.out _
      have hor : bits .or .u32 ((f (n / 32 + k) : Int) / 2 ^ (n % 32)) ((lim m f (n / 32 + k + 1) : Int) * 4294967296 / 2 ^ (n % 32) % 4294967296) = (shrG f (n / 32) (n % 32) m k : Int) := or_high_int _ _ _ hfk hx hs
      have t1 : ((n : Int) % 32).toNat = n % 32 := by omega
      have t2 : IntKind.u64.wrap (lim m f (n / 32 + k + 1) : Int) = (lim m f (n / 32 + k + 1) : Int) := by rw [IntKind.wrap_u64]; omega
      have t3 : IntKind.u64.wrap ((lim m f (n / 32 + k + 1) : Int) * 4294967296) = (lim m f (n / 32 + k + 1) : Int) * 4294967296 := by rw [IntKind.wrap_u64]; omega
      have t4 : IntKind.u32.wrap ((lim m f (n / 32 + k + 1) : Int) * 4294967296 / 2 ^ (n % 32)) = (lim m f (n / 32 + k + 1) : Int) * 4294967296 / 2 ^ (n % 32) % 4294967296 := by rw [IntKind.wrap_u32]
      have hbs := hbw.out.size
      have s1 : IntKind.i64.wrap ((n : Int) / 32 + (k : Int)) = (n : Int) / 32 + (k : Int) := IntWalk.i64_in _ (by omega)
      have s2 : ((n : Int) / 32 + (k : Int)).toNat = n / 32 + k := by omega
      have s3 : IntKind.i64.wrap ((n : Int) / 32 + (k : Int) + 1) = (n : Int) / 32 + (k : Int) + 1 := IntWalk.i64_in _ (by omega)
      have s4 : (0 : Int) ≤ (n : Int) / 32 + (k : Int) := by omega
      have s5 : (n : Int) / 32 + (k : Int) < m := by omega
      go_wp2_with fail
      go_region_law (first
        | (refine step_append_lies _ rfl _ _ 22 rfl w.heap.size 46 i0 (.int .u32 0) 1 4 Tryd.underlying22 hi hz0 hz1 hz2 rfl (by decide) _ _ _ rfl (World.ownsRow.drew (hown.out.alloc _)) ⟨_, 0, none⟩ 1 1 [.int .u32 (shrG f (n / 32) (n % 32) m k : Int)] rfl rfl (cell_one_drew _ _ _) (by simp [Value.oneCell']) (by omega) (by unfold maxLen; omega) (by omega) (by simp; omega) _ rfl ?_; intro g c2 w2 hown2 hg2 _ _)
        | (go_simp; go_at_call 102; (with_reducible refine (at_int (hrd.out _ rfl) ((n : Int) / 32 + (k : Int) + 1) (n / 32 + k + 1) (by omega) (by omega)).mono ?_); rintro e w' ⟨rfl, rfl⟩))
      all_goals
        go_wp2
        go_roundw
        case rel => exact ⟨k + 1, by omega, by go_num, by
            have h := hown2
            rw [← cellsOf_snoc] at h
            exact h, Below.grown (Below.drew (hbw.out.alloc hbs _)) hg2 (by simp; omega) (fun j e => (hown.out.lt j e).1)⟩
        case measure => simp [intOf]; omega
    · obtain rfl : k = m - n / 32 := by omega
      have hd1 : decide (((m - n / 32 : Nat) : Int) < (m : Int) - (n : Int) / 32) = false := by simp; omega
      have hs : n % 32 < 32 := Nat.mod_lt _ (by omega)
      go_wp2_with (go_at_call 86; refine (make_any (Rd.of_own hown.out) (by omega)).mono ?_; rintro e w3 ⟨v, rfl, hv, hb3⟩)
      go_ret
      exact ⟨v, rfl, hv, hbw.out.trans (hb3.mono hbw.out.size)⟩

theorem shr_none {ao : Option Addr} {m cap n : Nat} {w : World} (hm : m ≤ 536870912) (hn : m ≤ n / 32) (hb : n ≤ 4611686018427387904) :
    Calls Tryd.prog 80 #[.slice ao m cap, .int .i64 n] w fun e w' => e = .returned (.slice none 0 0) ∧ w = w' := by
  have hd0 : decide ((m : Int) ≤ (n : Int) / 32) = true := by simp; omega
  go_enter Tryd.func80, Tryd.ntmps80
  go_wp2
  go_ret
  exact ⟨rfl, rfl⟩

/-- nat.Shr: over a power of 2, cut. -/
theorem shr_nt {v : Value} {a n : Nat} {w : World} (ha : Nt w v a) (la : limbs a ≤ 536870912) (hn : n ≤ 4611686018427387904) :
    Calls Tryd.prog 80 #[v, .int .i64 n] w fun e w' => ∃ v, e = .returned v ∧ Nt w' v (a / 2 ^ n) ∧ Below w.heap.size w w' := by
  obtain ⟨ao, cap, f, rfl, ra, fta, na, va⟩ := ha.open
  by_cases h0 : n / 32 < limbs a
  · obtain ⟨b, off, rfl, hb, hc⟩ := ra.at (by omega)
    have hcap : limbs a ≤ cap ∧ cap ≤ maxLen := by
      obtain ⟨ao1, cp1, e, h1, h2, _⟩ := ra
      cases e
      exact ⟨h1, h2⟩
    refine (shr_row la h0 fta hb hcap hc).mono fun e w' ⟨v, he, hv, hbl⟩ => ⟨v, he, ?_, hbl⟩
    have := nt_of_trim hv (shrG_fits fta (Nat.mod_lt _ (by omega)))
    rw [shr_law fta (by omega), va] at this
    exact this
  · have h1 : a < 2 ^ n := by
      have h2 := lt_limbs a
      rw [pow32] at h2
      have h3 : 2 ^ (32 * limbs a) ≤ 2 ^ n := Nat.pow_le_pow_right (by omega) (by omega)
      omega
    rw [Nat.div_eq_of_lt h1]
    exact (shr_none la (by omega) hn).mono fun e w' ⟨he, hw⟩ => ⟨_, he, Nt.nil _, by subst hw; exact Below.refl _ _⟩
end Go.Proofs.YtopbfgmpilnghaaDoor
