/- mul.Toom: the product by five thirds. -/
import Derived.Test.YtopbfgmpilnghaaDoorCuts
set_option linter.unusedVariables false
set_option linter.unusedSimpArgs false
namespace Go.Proofs.YtopbfgmpilnghaaDoor
open Go.RowKit

theorem two_alloc {w : World} (x y : Value) (t : TypeId) : Below w.heap.size w ((w.alloc (.cells #[x] t)).alloc (.cells #[y] t)) ∧
    ((w.alloc (.cells #[x] t)).alloc (.cells #[y] t)).cell? ⟨w.heap.size + 1, 0, none⟩ = some y ∧ ((w.alloc (.cells #[x] t)).alloc (.cells #[y] t)).cell? ⟨w.heap.size, 0, none⟩ = some x ∧
    w.heap.size + 1 < ((w.alloc (.cells #[x] t)).alloc (.cells #[y] t)).heap.size ∧ w.heap.size < ((w.alloc (.cells #[x] t)).alloc (.cells #[y] t)).heap.size := by
  have s1 : (w.alloc (.cells #[x] t)).heap.size = w.heap.size + 1 := by first | exact Array.size_push _ | (show (w.heap.push _).size = _; simp)
  have s2 : ((w.alloc (.cells #[x] t)).alloc (.cells #[y] t)).heap.size = w.heap.size + 2 := (Array.size_push _).trans (by rw [s1])
  have h1 := heap_alloc_new (w.alloc (.cells #[x] t)) (.cells #[y] t)
  have h2 := heap_alloc_old (w.alloc (.cells #[x] t)) (.cells #[y] t) (show w.heap.size < (w.alloc (.cells #[x] t)).heap.size by omega)
  rw [heap_alloc_new] at h2
  rw [s1] at h1
  refine ⟨((Below.refl _ w).alloc (Nat.le_refl _) _).alloc (by omega) _, ?_, ?_, by omega, by omega⟩
  · simp only [World.cell?]; rw [h1]; rfl
  · simp only [World.cell?]; rw [h2]; rfl

theorem trio_two {w : World} (x0 x1 x2 y0 y1 y2 : Value) (t : TypeId) : Below w.heap.size w ((w.alloc (.cells #[x0, x1, x2] t)).alloc (.cells #[y0, y1, y2] t)) ∧
    (w.heap.size < ((w.alloc (.cells #[x0, x1, x2] t)).alloc (.cells #[y0, y1, y2] t)).heap.size ∧ ((w.alloc (.cells #[x0, x1, x2] t)).alloc (.cells #[y0, y1, y2] t)).cell? ⟨w.heap.size, 0, none⟩ = some x0 ∧
      ((w.alloc (.cells #[x0, x1, x2] t)).alloc (.cells #[y0, y1, y2] t)).cell? ⟨w.heap.size, 1, none⟩ = some x1 ∧ ((w.alloc (.cells #[x0, x1, x2] t)).alloc (.cells #[y0, y1, y2] t)).cell? ⟨w.heap.size, 2, none⟩ = some x2) ∧
    (w.heap.size + 1 < ((w.alloc (.cells #[x0, x1, x2] t)).alloc (.cells #[y0, y1, y2] t)).heap.size ∧ ((w.alloc (.cells #[x0, x1, x2] t)).alloc (.cells #[y0, y1, y2] t)).cell? ⟨w.heap.size + 1, 0, none⟩ = some y0 ∧
      ((w.alloc (.cells #[x0, x1, x2] t)).alloc (.cells #[y0, y1, y2] t)).cell? ⟨w.heap.size + 1, 1, none⟩ = some y1 ∧ ((w.alloc (.cells #[x0, x1, x2] t)).alloc (.cells #[y0, y1, y2] t)).cell? ⟨w.heap.size + 1, 2, none⟩ = some y2) := by
  have s1 : (w.alloc (.cells #[x0, x1, x2] t)).heap.size = w.heap.size + 1 := by first | exact Array.size_push _ | (show (w.heap.push _).size = _; simp)
  have h1 := trio_alloc (W := w) (t := t) x0 x1 x2
  have h2 := trio_alloc (W := w.alloc (.cells #[x0, x1, x2] t)) (t := t) y0 y1 y2
  rw [s1] at h2
  exact ⟨((Below.refl _ w).alloc (Nat.le_refl _) _).alloc (by omega) _, trio_below h1 (After.alloc (After.refl _) _).out, h2⟩

theorem trios_below {W W' : World} {H G : Nat} {v0 v1 v2 u0 u1 u2 : Value} (h : (H < W.heap.size ∧ W.cell? ⟨H, 0, none⟩ = some v0 ∧ W.cell? ⟨H, 1, none⟩ = some v1 ∧ W.cell? ⟨H, 2, none⟩ = some v2) ∧
      (G < W.heap.size ∧ W.cell? ⟨G, 0, none⟩ = some u0 ∧ W.cell? ⟨G, 1, none⟩ = some u1 ∧ W.cell? ⟨G, 2, none⟩ = some u2)) (t : Below W.heap.size W W') :
    (H < W'.heap.size ∧ W'.cell? ⟨H, 0, none⟩ = some v0 ∧ W'.cell? ⟨H, 1, none⟩ = some v1 ∧ W'.cell? ⟨H, 2, none⟩ = some v2) ∧
      (G < W'.heap.size ∧ W'.cell? ⟨G, 0, none⟩ = some u0 ∧ W'.cell? ⟨G, 1, none⟩ = some u1 ∧ W'.cell? ⟨G, 2, none⟩ = some u2) := ⟨trio_below h.1 t, trio_below h.2 t⟩
theorem MulOk.use {fn N : Nat} (h : MulOk fn N) {va vb : Value} {a b : Nat} {w : World} (ha : Nt w va a) (hb : Nt w vb b) (la : limbs a ≤ N) (lb : limbs b ≤ N) :
    Calls Tryd.prog fn #[va, vb] w fun e w' => ∃ v, e = .returned v ∧ Nt w' v (a * b) ∧ Below w.heap.size w w' := h va vb a b w ha hb la lb
theorem Nt.as {w : World} {v : Value} {a b : Nat} (h : Nt w v a) (e : a = b) : Nt w v b := e ▸ h
theorem shr_int {v : Value} {a : Nat} {w : World} (ha : Nt w v a) (la : limbs a ≤ 536870912) (i : Int) (n : Nat) (hi : i = (n : Int)) (hn : n ≤ 4611686018427387904) :
    Calls Tryd.prog 80 #[v, .int .i64 i] w fun e w' => ∃ v, e = .returned v ∧ Nt w' v (a / 2 ^ n) ∧ Below w.heap.size w w' := by
  subst hi
  exact shr_nt ha la hn
theorem lt_of_limbs {x k : Nat} (h : limbs x ≤ k) : x < 4294967296 ^ k :=
  Nat.lt_of_lt_of_le (lt_limbs x) (Nat.pow_le_pow_right (by omega) h)
theorem point_limbs {x0 x1 x2 k : Nat} (h0 : limbs x0 ≤ k) (h1 : limbs x1 ≤ k) (h2 : limbs x2 ≤ k) :
    limbs (x0 + x2 + x1) ≤ k + 1 ∧ limbs (dist (x0 + x2) x1) ≤ k + 1 ∧ limbs (x0 + (x1 * 2 ^ 1 + x2 * 2 ^ 2)) ≤ k + 1 := by
  have e0 := lt_of_limbs h0
  have e1 := lt_of_limbs h1
  have e2 := lt_of_limbs h2
  have e3 : (4294967296 : Nat) ^ (k + 1) = 4294967296 ^ k * 4294967296 := Nat.pow_succ ..
  refine ⟨limbs_le ?_, limbs_le ?_, limbs_le ?_⟩
  · omega
  · unfold dist; split <;> omega
  · omega

def pick5 {α : Type} (x0 x1 x2 x3 x4 : α) : Nat → α
  | 0 => x0
  | 1 => x1
  | 2 => x2
  | 3 => x3
  | _ => x4
/-- The sum of parts, each k limbs above the one before. -/
def tsum (c : Nat → Nat) (k : Nat) : Nat → Nat
  | 0 => 0
  | n + 1 => tsum c k n + c n * 2 ^ (32 * k * n)
theorem tsum5 (c0 c1 c2 c3 c4 k : Nat) : tsum (pick5 c0 c1 c2 c3 c4) k 5 = c0 + c1 * 4294967296 ^ k + c2 * (4294967296 ^ k * 4294967296 ^ k) + c3 * (4294967296 ^ k * 4294967296 ^ k * 4294967296 ^ k) + c4 * (4294967296 ^ k * 4294967296 ^ k * 4294967296 ^ k * 4294967296 ^ k) := by
  simp only [tsum, pick5]
  rw [← pow_shift, ← Nat.pow_add, ← Nat.pow_add, ← Nat.pow_add, show 32 * k * 0 = 0 from rfl, show 32 * k * 1 = 32 * k by omega, show 32 * k * 2 = 32 * k + 32 * k by omega, show 32 * k * 3 = 32 * k + 32 * k + 32 * k by omega, show 32 * k * 4 = 32 * k + 32 * k + 32 * k + 32 * k by omega]
  simp
theorem tsum_mono (c : Nat → Nat) (k : Nat) {m n : Nat} (h : m ≤ n) : tsum c k m ≤ tsum c k n := by
  induction n with
  | zero => rw [show m = 0 by omega]; exact Nat.le_refl _
  | succ n ih =>
    by_cases e : m = n + 1
    · subst e; exact Nat.le_refl _
    · exact Nat.le_trans (ih (by omega)) (Nat.le_add_right _ _)
theorem tsum_limbs {c : Nat → Nat} {k x B : Nat} (h : tsum c k 5 = x) (hb : limbs x ≤ B) {q : Nat} (hq : q < 5) : limbs (tsum c k q) ≤ B ∧ limbs (c q * 2 ^ (32 * k * q)) ≤ B := by
  have h1 : tsum c k q ≤ x := h ▸ tsum_mono c k (by omega)
  have h2 : tsum c k (q + 1) ≤ x := h ▸ tsum_mono c k (by omega)
  exact ⟨Nat.le_trans (limbs_mono h1) hb, Nat.le_trans (limbs_mono (Nat.le_trans (Nat.le_add_left _ _) h2)) hb⟩
theorem five_cast (k q : Nat) : (32 * (k : Int) * (q : Int)) = ((32 * k * q : Nat) : Int) := by simp
theorem five_wrap {k q : Nat} (hk : k ≤ 16777216) (hq : q < 5) : IntKind.i64.wrap (32 * (k : Int)) = 32 * (k : Int) ∧ IntKind.i64.wrap (32 * (k : Int) * (q : Int)) = ((32 * k * q : Nat) : Int) ∧ 32 * k * q ≤ 17179869184 := by
  have hb : 32 * k * q ≤ 32 * k * 5 := Nat.mul_le_mul_left _ (by omega)
  have e : (32 * (k : Int) * (q : Int)) = ((32 * k * q : Nat) : Int) := by simp
  generalize 32 * k * q = z at *
  exact ⟨IntWalk.i64_in _ (by omega), by rw [e]; exact IntWalk.i64_in _ (by omega), by omega⟩
/-- The five parts in their row, and the box of k. -/
def Five (W : World) (R Bk k : Nat) (cv : Nat → Value) (cc : Nat → Nat) : Prop :=
  R < W.heap.size ∧ Bk < W.heap.size ∧ W.cell? ⟨Bk, 0, none⟩ = some (.int .i64 k) ∧ ∀ j, j < 5 → W.cell? ⟨R, j, none⟩ = some (cv j) ∧ Nt W (cv j) (cc j) ∧ limbs (cc j) ≤ 536870912
theorem five_start {W : World} {t : TypeId} {Bk k : Nat} {v0 v1 v2 v3 v4 : Value} {c0 c1 c2 c3 c4 : Nat} (bk : W.cell? ⟨Bk, 0, none⟩ = some (.int .i64 k)) (hBk : Bk < W.heap.size)
    (k0 : Nt W v0 c0) (k1 : Nt W v1 c1) (k2 : Nt W v2 c2) (k3 : Nt W v3 c3) (k4 : Nt W v4 c4) (l0 : limbs c0 ≤ 536870912) (l1 : limbs c1 ≤ 536870912) (l2 : limbs c2 ≤ 536870912) (l3 : limbs c3 ≤ 536870912) (l4 : limbs c4 ≤ 536870912) :
    Five (W.alloc (.cells #[v0, v1, v2, v3, v4] t)) W.heap.size Bk k (pick5 v0 v1 v2 v3 v4) (pick5 c0 c1 c2 c3 c4) := by
  have h := heap_alloc_new W (.cells #[v0, v1, v2, v3, v4] t)
  have b : Below W.heap.size W (W.alloc (.cells #[v0, v1, v2, v3, v4] t)) := (After.alloc (After.refl W) _).out
  refine ⟨(Array.getElem?_eq_some_iff.1 h).1, Nat.lt_of_lt_of_le hBk b.size, (b.cell (p := ⟨Bk, 0, none⟩) hBk).trans bk, fun j hj => ?_⟩
  rcases j with _ | _ | _ | _ | _ | j
  · exact ⟨by simp only [World.cell?]; rw [h]; rfl, k0.below b, l0⟩
  · exact ⟨by simp only [World.cell?]; rw [h]; rfl, k1.below b, l1⟩
  · exact ⟨by simp only [World.cell?]; rw [h]; rfl, k2.below b, l2⟩
  · exact ⟨by simp only [World.cell?]; rw [h]; rfl, k3.below b, l3⟩
  · exact ⟨by simp only [World.cell?]; rw [h]; rfl, k4.below b, l4⟩
  · omega
theorem five_at {W W' : World} {R Bk k : Nat} {cv : Nat → Value} {cc : Nat → Nat} (h : Five W R Bk k cv cc) (b : Below W.heap.size W W') {q : Nat} (hq : q < 5) :
    W'.cell? ⟨R, q, none⟩ = some (cv q) ∧ W'.cell? ⟨Bk, 0, none⟩ = some (.int .i64 k) ∧ Nt W' (cv q) (cc q) ∧ limbs (cc q) ≤ 536870912 :=
  ⟨(b.cell (p := ⟨R, q, none⟩) h.1).trans (h.2.2.2 q hq).1, (b.cell (p := ⟨Bk, 0, none⟩) h.2.1).trans h.2.2.1, (h.2.2.2 q hq).2.1.below b, (h.2.2.2 q hq).2.2⟩

set_option maxRecDepth 100000 in
set_option maxHeartbeats 8000000 in
theorem toom_step (N : Nat) (hN : N ≤ 16777216) (h4 : 7 ≤ N) (ih : Hid (∀ M, M < N → MulOk 88 M)) {va vb : Value} {a b : Nat} {w : World} (na : Nt w va a) (nb : Nt w vb b)
    (la : 7 ≤ limbs a) (lb : 7 ≤ limbs b) (hmax : max (limbs a) (limbs b) = N) :
    Calls Tryd.prog 88 #[va, vb] w fun e w' => ∃ v, e = .returned v ∧ Nt w' v (a * b) ∧ Below w.heap.size w w' := by
  obtain ⟨k, hk⟩ : ∃ k, (N + 2) / 3 = k := ⟨_, rfl⟩
  have la' : limbs a ≤ N := by omega
  have lb' : limbs b ≤ N := by omega
  obtain ⟨aa, ca, fa, rfl, -⟩ := na.open
  obtain ⟨ab, cb, fb, rfl, -⟩ := nb.open
  have hk3 : ((N : Int) + 2) / 3 = k := by omega
  have h2k : 2 * k ≤ N := by omega
  have hka : N ≤ 3 * k := by omega
  have ih1 : MulOk 88 (k + 1) := ih.out (k + 1) (by omega)
  clear hk ih
  have ih := ih1
  clear ih1
  have T : After w w := After.refl w
  generalize hx : limbs a = x at *
  generalize hy : limbs b = y at *
  have hx' : limbs a ≤ N := by omega
  have hy' : limbs b ≤ N := by omega
  have hxy : x < y ∧ N = y ∨ x = y ∧ N = y ∨ y < x ∧ N = x := by omega
  clear hmax hx hy
  rcases hxy with ⟨hxy, rfl⟩ | ⟨rfl, rfl⟩ | ⟨hxy, rfl⟩
  all_goals
    go_enter Tryd.func88, Tryd.ntmps88
    go_wp2_with fail
    rw [hk3]
    obtain ⟨ta, bk, bn, hBk, hBn⟩ := two_alloc (w := w) (.int .i64 (N : Int)) (.int .i64 (k : Int)) 3
    replace na := na.below ta
    replace nb := nb.below ta
    replace T := After.t T ta
    clear ta
    generalize (w.alloc (.cells #[.int .i64 (N : Int)] 3)).alloc (.cells #[.int .i64 (k : Int)] 3) = W0 at *
    generalize w.heap.size + 1 = Bk at bk hBk ⊢
    generalize w.heap.size = Bn at bn hBn ⊢
    (with_reducible refine (cut_any na (by omega) (by omega) (by omega) bk bn hBk hBn).mono ?_)
    rintro e w' ⟨x0, x1, x2, rfl, n0, n1, n2, t⟩
    clear na
    replace nb := nb.below t
    replace bk := (t.cell (p := ⟨Bk, 0, none⟩) hBk).trans bk
    replace bn := (t.cell (p := ⟨Bn, 0, none⟩) hBn).trans bn
    replace hBk := Nat.lt_of_lt_of_le hBk t.size
    replace hBn := Nat.lt_of_lt_of_le hBn t.size
    replace T := After.t T t
    clear t
    obtain ⟨x0_o, x0_c, x0_f, rfl, -⟩ := n0.open
    obtain ⟨x1_o, x1_c, x1_f, rfl, -⟩ := n1.open
    obtain ⟨x2_o, x2_c, x2_f, rfl, -⟩ := n2.open
    go_wp2_with fail
    (with_reducible refine (cut_any nb (by omega) (by omega) (by omega) bk bn hBk hBn).mono ?_)
    rintro e w' ⟨y0, y1, y2, rfl, m0, m1, m2, t⟩
    clear nb
    replace n0 := n0.below t
    replace n1 := n1.below t
    replace n2 := n2.below t
    replace bk := (t.cell (p := ⟨Bk, 0, none⟩) hBk).trans bk
    replace bn := (t.cell (p := ⟨Bn, 0, none⟩) hBn).trans bn
    replace hBk := Nat.lt_of_lt_of_le hBk t.size
    replace hBn := Nat.lt_of_lt_of_le hBn t.size
    replace T := After.t T t
    clear t
    obtain ⟨y0_o, y0_c, y0_f, rfl, -⟩ := m0.open
    obtain ⟨y1_o, y1_c, y1_f, rfl, -⟩ := m1.open
    obtain ⟨y2_o, y2_c, y2_f, rfl, -⟩ := m2.open
    go_wp2_with fail
    obtain ⟨ta, tr, ts⟩ := trio_two (w := w') (.slice x0_o (limbs (a % 4294967296 ^ k)) x0_c) (.slice x1_o (limbs (a / 4294967296 ^ k % 4294967296 ^ k)) x1_c) (.slice x2_o (limbs (a / 4294967296 ^ (2 * k))) x2_c) (.slice y0_o (limbs (b % 4294967296 ^ k)) y0_c) (.slice y1_o (limbs (b / 4294967296 ^ k % 4294967296 ^ k)) y1_c) (.slice y2_o (limbs (b / 4294967296 ^ (2 * k))) y2_c) 119
    have t := ta
    clear ta
    replace n0 := n0.below t
    replace n1 := n1.below t
    replace n2 := n2.below t
    replace m0 := m0.below t
    replace m1 := m1.below t
    replace m2 := m2.below t
    replace bk := (t.cell (p := ⟨Bk, 0, none⟩) hBk).trans bk
    replace bn := (t.cell (p := ⟨Bn, 0, none⟩) hBn).trans bn
    replace hBk := Nat.lt_of_lt_of_le hBk t.size
    replace hBn := Nat.lt_of_lt_of_le hBn t.size
    replace T := After.t T t
    clear t
    generalize (w'.alloc _).alloc _ = W5 at *
    generalize w'.heap.size + 1 = H2 at ts ⊢
    generalize w'.heap.size = H1 at tr ⊢
    obtain ⟨Pk, hPk⟩ : ∃ Pk : Nat, 4294967296 ^ k = Pk := ⟨_, rfl⟩
    have La0 := limbs_low a k
    have La1 := limbs_low (a / 4294967296 ^ k) k
    have La2 : limbs (a / 4294967296 ^ (2 * k)) ≤ k := Nat.le_trans (limbs_high hx' h2k) (by omega)
    have Lb0 := limbs_low b k
    have Lb1 := limbs_low (b / 4294967296 ^ k) k
    have Lb2 : limbs (b / 4294967296 ^ (2 * k)) ≤ k := Nat.le_trans (limbs_high hy' h2k) (by omega)
    have hda := thirds a k
    have hdb := thirds b k
    generalize a % 4294967296 ^ k = a0 at *
    generalize a / 4294967296 ^ k % 4294967296 ^ k = a1 at *
    generalize a / 4294967296 ^ (2 * k) = a2 at *
    generalize b % 4294967296 ^ k = b0 at *
    generalize b / 4294967296 ^ k % 4294967296 ^ k = b1 at *
    generalize b / 4294967296 ^ (2 * k) = b2 at *
    have hlaw := Lib.hid (toom_sum a0 a1 a2 b0 b1 b2 (4294967296 ^ k))
    rw [hda, hdb] at hlaw
    have hsg := toom_signs a0 a1 a2 b0 b1 b2
    have htw := toom_two a0 a1 a2 b0 b1 b2
    obtain ⟨pa1, pam, pa2⟩ := point_limbs La0 La1 La2
    obtain ⟨pb1, pbm, pb2⟩ := point_limbs Lb0 Lb1 Lb2
    clear hda hdb hPk
    (with_reducible refine (points_any (N := k) n0 n1 n2 (by omega) La0 La1 La2).mono ?_)
    rintro e w' ⟨ua, um, ut, rfl, p1, pm, p2, t⟩
    replace n0 := n0.below t
    replace n1 := n1.below t
    replace n2 := n2.below t
    replace m0 := m0.below t
    replace m1 := m1.below t
    replace m2 := m2.below t
    replace bk := (t.cell (p := ⟨Bk, 0, none⟩) hBk).trans bk
    replace bn := (t.cell (p := ⟨Bn, 0, none⟩) hBn).trans bn
    replace hBk := Nat.lt_of_lt_of_le hBk t.size
    replace hBn := Nat.lt_of_lt_of_le hBn t.size
    replace tr := trio_below tr t
    replace ts := trio_below ts t
    replace T := After.t T t
    clear t
    go_wp2_with fail
    (with_reducible refine (points_any (N := k) m0 m1 m2 (by omega) Lb0 Lb1 Lb2).mono ?_)
    rintro e w' ⟨va, vm, vt, rfl, q1, qm, q2, t⟩
    replace n0 := n0.below t
    replace n1 := n1.below t
    replace n2 := n2.below t
    replace m0 := m0.below t
    replace m1 := m1.below t
    replace m2 := m2.below t
    replace p1 := p1.below t
    replace pm := pm.below t
    replace p2 := p2.below t
    replace bk := (t.cell (p := ⟨Bk, 0, none⟩) hBk).trans bk
    replace bn := (t.cell (p := ⟨Bn, 0, none⟩) hBn).trans bn
    replace hBk := Nat.lt_of_lt_of_le hBk t.size
    replace hBn := Nat.lt_of_lt_of_le hBn t.size
    replace tr := trio_below tr t
    replace ts := trio_below ts t
    replace T := After.t T t
    clear t
    go_wp2_with fail
    generalize decide (a0 + a2 < a1) = an at *
    generalize decide (b0 + b2 < b1) = bs at *
    generalize a0 + a2 + a1 = A1 at *
    generalize b0 + b2 + b1 = B1 at *
    generalize dist (a0 + a2) a1 = AM at *
    generalize dist (b0 + b2) b1 = BM at *
    generalize a0 + (a1 * 2 ^ 1 + a2 * 2 ^ 2) = A2 at *
    generalize b0 + (b1 * 2 ^ 1 + b2 * 2 ^ 2) = B2 at *
    have tr' := trio_drew tr
    have ts' := trio_drew ts
    go_region_held3 (fun W => (H1 < W.heap.size ∧ W.cell? ⟨H1, 0, none⟩ = some (.slice x0_o (limbs a0) x0_c) ∧ W.cell? ⟨H1, 1, none⟩ = some (.slice x1_o (limbs a1) x1_c) ∧ W.cell? ⟨H1, 2, none⟩ = some (.slice x2_o (limbs a2) x2_c)) ∧
        (H2 < W.heap.size ∧ W.cell? ⟨H2, 0, none⟩ = some (.slice y0_o (limbs b0) y0_c) ∧ W.cell? ⟨H2, 1, none⟩ = some (.slice y1_o (limbs b1) y1_c) ∧ W.cell? ⟨H2, 2, none⟩ = some (.slice y2_o (limbs b2) y2_c)))
      (first | exact ⟨tr', ts'⟩ | exact trios_below (by assumption) (by assumption))
      (first
        | (go_at_call 88; (with_reducible refine (ih.use (n0.below (Drawn.below (Drawn.refl _).d)) (m0.below (Drawn.below (Drawn.refl _).d)) (by omega) (by omega)).mono ?_); rintro e W6 ⟨c0, rfl, k0, t1⟩)
        | (go_at_call 88; (with_reducible refine (ih.use ((n2.below (Drawn.below (Drawn.refl _).d)).below t1) ((m2.below (Drawn.below (Drawn.refl _).d)).below t1) (by omega) (by omega)).mono ?_); rintro e W7 ⟨c4, rfl, k4, t2⟩))
    have t := (Drawn.below (B := w'.heap.size) (Drawn.refl w').d)
    replace t := After.t (After.t t t1) t2
    replace k0 := k0.below t2
    clear t1 t2 tr tr' ts' n0 n1 n2 m0 m1 m2 ts
    have t := t.out
    replace p1 := p1.below t
    replace pm := pm.below t
    replace p2 := p2.below t
    replace q1 := q1.below t
    replace qm := qm.below t
    replace q2 := q2.below t
    replace bk := (t.cell (p := ⟨Bk, 0, none⟩) hBk).trans bk
    replace bn := (t.cell (p := ⟨Bn, 0, none⟩) hBn).trans bn
    replace hBk := Nat.lt_of_lt_of_le hBk t.size
    replace hBn := Nat.lt_of_lt_of_le hBn t.size
    replace T := After.t T t
    clear t
    have LC0 := limbs_mul_le La0 Lb0
    have LC4 := limbs_mul_le La2 Lb2
    have LR1 := limbs_mul_le pa1 pb1
    have LRM := limbs_mul_le pam pbm
    have LR2 := limbs_mul_le pa2 pb2
    generalize a0 * b0 = C0 at *
    generalize a2 * b2 = C4 at *
    generalize a0 * b1 + a1 * b0 = M1 at *
    generalize a0 * b2 + a1 * b1 + a2 * b0 = M2 at *
    generalize a1 * b2 + a2 * b1 = M3 at *
    go_wp2_with fail
    (with_reducible refine (ih.use p1 q1 (by omega) (by omega)).mono ?_)
    rintro e w' ⟨r1, rfl, f1, t⟩
    clear p1
    clear q1
    replace pm := pm.below t
    replace p2 := p2.below t
    replace qm := qm.below t
    replace q2 := q2.below t
    replace k0 := k0.below t
    replace k4 := k4.below t
    replace bk := (t.cell (p := ⟨Bk, 0, none⟩) hBk).trans bk
    replace bn := (t.cell (p := ⟨Bn, 0, none⟩) hBn).trans bn
    replace hBk := Nat.lt_of_lt_of_le hBk t.size
    replace hBn := Nat.lt_of_lt_of_le hBn t.size
    replace T := After.t T t
    clear t
    go_wp2_with fail
    (with_reducible refine (ih.use pm qm (by omega) (by omega)).mono ?_)
    rintro e w' ⟨rm, rfl, fm, t⟩
    clear pm
    clear qm
    replace p2 := p2.below t
    replace q2 := q2.below t
    replace k0 := k0.below t
    replace k4 := k4.below t
    replace f1 := f1.below t
    replace bk := (t.cell (p := ⟨Bk, 0, none⟩) hBk).trans bk
    replace bn := (t.cell (p := ⟨Bn, 0, none⟩) hBn).trans bn
    replace hBk := Nat.lt_of_lt_of_le hBk t.size
    replace hBn := Nat.lt_of_lt_of_le hBn t.size
    replace T := After.t T t
    clear t
    go_wp2_with fail
    (with_reducible refine (ih.use p2 q2 (by omega) (by omega)).mono ?_)
    rintro e w' ⟨r2, rfl, f2, t⟩
    clear p2
    clear q2
    replace k0 := k0.below t
    replace k4 := k4.below t
    replace f1 := f1.below t
    replace fm := fm.below t
    replace bk := (t.cell (p := ⟨Bk, 0, none⟩) hBk).trans bk
    replace bn := (t.cell (p := ⟨Bn, 0, none⟩) hBn).trans bn
    replace hBk := Nat.lt_of_lt_of_le hBk t.size
    replace hBn := Nat.lt_of_lt_of_le hBn t.size
    replace T := After.t T t
    clear t
    go_wp2_with fail
    generalize A1 * B1 = R1 at *
    generalize AM * BM = RM at *
    generalize A2 * B2 = R2 at *
    obtain ⟨hle, hsg⟩ := hsg
    have LS := limbs_add_le LR1 (show limbs RM ≤ k + 1 + (k + 1) by omega)
    (with_reducible refine (add_nt f1 fm (by omega) (by omega)).mono ?_)
    rintro e w' ⟨se, rfl, ge, t⟩
    replace k0 := k0.below t
    replace k4 := k4.below t
    replace f1 := f1.below t
    replace fm := fm.below t
    replace f2 := f2.below t
    replace bk := (t.cell (p := ⟨Bk, 0, none⟩) hBk).trans bk
    replace bn := (t.cell (p := ⟨Bn, 0, none⟩) hBn).trans bn
    replace hBk := Nat.lt_of_lt_of_le hBk t.size
    replace hBn := Nat.lt_of_lt_of_le hBn t.size
    replace T := After.t T t
    clear t
    go_wp2_with fail
    (with_reducible refine (less_nt f1 fm (by omega) hle).mono ?_)
    rintro e w' ⟨so, rfl, gd, t⟩
    clear f1
    clear fm
    replace k0 := k0.below t
    replace k4 := k4.below t
    replace f2 := f2.below t
    replace ge := ge.below t
    replace bk := (t.cell (p := ⟨Bk, 0, none⟩) hBk).trans bk
    replace bn := (t.cell (p := ⟨Bn, 0, none⟩) hBn).trans bn
    replace hBk := Nat.lt_of_lt_of_le hBk t.size
    replace hBn := Nat.lt_of_lt_of_le hBn t.size
    replace T := After.t T t
    clear t
    have LD : limbs (R1 - RM) ≤ k + 1 + (k + 1) + 1 := Nat.le_trans (limbs_mono (Nat.le_trans (Nat.sub_le R1 RM) (Nat.le_add_right R1 RM))) LS
    have LE : limbs (C0 + C4 + M2) ≤ k + 1 + (k + 1) + 1 := by rcases hsg with ⟨_, h, h'⟩ | ⟨_, h, h'⟩ <;> exact Nat.le_trans (limbs_mono (by omega)) LS
    have LO : limbs (M1 + M3) ≤ k + 1 + (k + 1) + 1 := by rcases hsg with ⟨_, h, h'⟩ | ⟨_, h, h'⟩ <;> exact Nat.le_trans (limbs_mono (by omega)) LS
    have LM2 := Nat.le_trans (limbs_mono (show M2 ≤ C0 + C4 + M2 by omega)) LE
    have LCC := limbs_add_le LC0 (show limbs C4 ≤ k + k by omega)
    have LZ2 := limbs_shl M2 2
    have LZ4 := limbs_shl C4 4
    have LZ6 := limbs_add_le (n := k + k + 5) (show limbs (M2 * 2 ^ 2) ≤ k + k + 5 by omega) (show limbs (C4 * 2 ^ 4) ≤ k + k + 5 by omega)
    have LU : limbs (R2 - (C0 + (M2 * 2 ^ 2 + C4 * 2 ^ 4))) ≤ k + 1 + (k + 1) := Nat.le_trans (limbs_mono (Nat.sub_le _ _)) LR2
    have LV : limbs ((R2 - (C0 + (M2 * 2 ^ 2 + C4 * 2 ^ 4))) / 2 ^ 1) ≤ k + 1 + (k + 1) := Nat.le_trans (limbs_mono (Nat.div_le_self _ _)) LU
    have LW : limbs ((R2 - (C0 + (M2 * 2 ^ 2 + C4 * 2 ^ 4))) / 2 ^ 1 - (M1 + M3)) ≤ k + 1 + (k + 1) := Nat.le_trans (limbs_mono (Nat.sub_le _ _)) LV
    have hM2 : C0 + C4 + M2 - (C0 + C4) = M2 := by omega
    have hV : M1 + M3 ≤ (R2 - (C0 + (M2 * 2 ^ 2 + C4 * 2 ^ 4))) / 2 ^ 1 := by omega
    have hU : C0 + (M2 * 2 ^ 2 + C4 * 2 ^ 4) ≤ R2 := by omega
    have hW : ((R2 - (C0 + (M2 * 2 ^ 2 + C4 * 2 ^ 4))) / 2 ^ 1 - (M1 + M3)) / 3 = M3 := by omega
    have hM1 : M1 + M3 - M3 = M1 := by omega
    have HU := Lib.hid hU
    have HV := Lib.hid hV
    have HW := Lib.hid hW
    have HM1 := Lib.hid hM1
    have HM2 := Lib.hid hM2
    have Bs := Lib.hid (show limbs (R1 + RM) ≤ 536870912 by omega)
    have Bd := Lib.hid (show limbs (R1 - RM) ≤ 536870912 by omega)
    have B0 := Lib.hid (show limbs (C0) ≤ 536870912 by omega)
    have B4 := Lib.hid (show limbs (C4) ≤ 536870912 by omega)
    have BE := Lib.hid (show limbs (C0 + C4 + M2) ≤ 536870912 by omega)
    have BO := Lib.hid (show limbs (M1 + M3) ≤ 536870912 by omega)
    have BM2 := Lib.hid (show limbs (M2) ≤ 536870912 by omega)
    have Bz2 := Lib.hid (show limbs (M2 * 2 ^ 2) ≤ 536870912 by omega)
    have Bz4 := Lib.hid (show limbs (C4 * 2 ^ 4) ≤ 536870912 by omega)
    have Bcc := Lib.hid (show limbs (C0 + C4) ≤ 536870912 by omega)
    have Bz5 := Lib.hid (show limbs (M2 * 2 ^ 2 + C4 * 2 ^ 4) ≤ 536870912 by omega)
    have BR2 := Lib.hid (show limbs (R2) ≤ 536870912 by omega)
    have BU := Lib.hid (show limbs (R2 - (C0 + (M2 * 2 ^ 2 + C4 * 2 ^ 4))) ≤ 536870912 by omega)
    have BV := Lib.hid (show limbs ((R2 - (C0 + (M2 * 2 ^ 2 + C4 * 2 ^ 4))) / 2 ^ 1) ≤ 536870912 by omega)
    have BW := Lib.hid (show limbs ((R2 - (C0 + (M2 * 2 ^ 2 + C4 * 2 ^ 4))) / 2 ^ 1 - (M1 + M3)) ≤ 536870912 by omega)
    have Bab : Hid (limbs (a * b) ≤ 536870912) := Nat.le_trans (limbs_mul_le hx' hy') (by omega)
    have Bk5 : Hid (k ≤ 16777216) := show k ≤ 16777216 by omega
    have HSG := Lib.hid hsg
    clear htw hU hV hW hM1 hM2 hsg LS LD LE LO LM2 LCC LZ2 LZ4 LZ6 LU LV LW LC0 LC4 LR1 LRM LR2 La0 La1 La2 Lb0 Lb1 Lb2 pa1 pam pa2 pb1 pbm pb2 hx' hy' hk3 h2k hka la lb la' lb' hN h4 hle ih
    rcases HSG.out with ⟨hb, hE, hO⟩ | ⟨hb, hE, hO⟩
    · subst hb
      go_wp2_with fail
      have hEE := Lib.hid (show (R1 + RM) / 2 ^ 1 = C0 + C4 + M2 by omega)
      have hOO := Lib.hid (show (R1 - RM) / 2 ^ 1 = M1 + M3 by omega)
      clear hE hO
      (with_reducible refine (shr_int ge Bs.out 1 1 rfl (by decide)).mono ?_)
      rintro e w' ⟨ev, rfl, he, t⟩
      clear ge
      replace k0 := k0.below t
      replace k4 := k4.below t
      replace f2 := f2.below t
      replace gd := gd.below t
      replace bk := (t.cell (p := ⟨Bk, 0, none⟩) hBk).trans bk
      replace bn := (t.cell (p := ⟨Bn, 0, none⟩) hBn).trans bn
      replace hBk := Nat.lt_of_lt_of_le hBk t.size
      replace hBn := Nat.lt_of_lt_of_le hBn t.size
      replace T := After.t T t
      clear t
      replace he := he.as hEE.out
      go_wp2_with fail
      (with_reducible refine (shr_int gd Bd.out 1 1 rfl (by decide)).mono ?_)
      rintro e w' ⟨od, rfl, ho, t⟩
      clear gd
      replace k0 := k0.below t
      replace k4 := k4.below t
      replace f2 := f2.below t
      replace he := he.below t
      replace bk := (t.cell (p := ⟨Bk, 0, none⟩) hBk).trans bk
      replace bn := (t.cell (p := ⟨Bn, 0, none⟩) hBn).trans bn
      replace hBk := Nat.lt_of_lt_of_le hBk t.size
      replace hBn := Nat.lt_of_lt_of_le hBn t.size
      replace T := After.t T t
      clear t
      replace ho := ho.as hOO.out
      go_wp2_with fail
      (with_reducible refine (add_nt k0 k4 B0.out B4.out).mono ?_)
      rintro e w' ⟨sc, rfl, hc, t⟩
      replace k0 := k0.below t
      replace k4 := k4.below t
      replace f2 := f2.below t
      replace he := he.below t
      replace ho := ho.below t
      replace bk := (t.cell (p := ⟨Bk, 0, none⟩) hBk).trans bk
      replace bn := (t.cell (p := ⟨Bn, 0, none⟩) hBn).trans bn
      replace hBk := Nat.lt_of_lt_of_le hBk t.size
      replace hBn := Nat.lt_of_lt_of_le hBn t.size
      replace T := After.t T t
      clear t
      go_wp2_with fail
      (with_reducible refine (less_nt he hc BE.out (Nat.le_add_right _ _)).mono ?_)
      rintro e w' ⟨c2, rfl, k2, t⟩
      clear he
      clear hc
      replace k0 := k0.below t
      replace k4 := k4.below t
      replace f2 := f2.below t
      replace ho := ho.below t
      replace bk := (t.cell (p := ⟨Bk, 0, none⟩) hBk).trans bk
      replace bn := (t.cell (p := ⟨Bn, 0, none⟩) hBn).trans bn
      replace hBk := Nat.lt_of_lt_of_le hBk t.size
      replace hBn := Nat.lt_of_lt_of_le hBn t.size
      replace T := After.t T t
      clear t
      replace k2 := k2.as HM2.out
      go_wp2_with fail
      (with_reducible refine (shl_int k2 BM2.out 2 2 rfl (by decide)).mono ?_)
      rintro e w' ⟨z2, rfl, g2, t⟩
      replace k0 := k0.below t
      replace k4 := k4.below t
      replace f2 := f2.below t
      replace ho := ho.below t
      replace k2 := k2.below t
      replace bk := (t.cell (p := ⟨Bk, 0, none⟩) hBk).trans bk
      replace bn := (t.cell (p := ⟨Bn, 0, none⟩) hBn).trans bn
      replace hBk := Nat.lt_of_lt_of_le hBk t.size
      replace hBn := Nat.lt_of_lt_of_le hBn t.size
      replace T := After.t T t
      clear t
      go_wp2_with fail
      (with_reducible refine (shl_int k4 B4.out 4 4 rfl (by decide)).mono ?_)
      rintro e w' ⟨z4, rfl, g4, t⟩
      replace k0 := k0.below t
      replace k4 := k4.below t
      replace f2 := f2.below t
      replace ho := ho.below t
      replace k2 := k2.below t
      replace g2 := g2.below t
      replace bk := (t.cell (p := ⟨Bk, 0, none⟩) hBk).trans bk
      replace bn := (t.cell (p := ⟨Bn, 0, none⟩) hBn).trans bn
      replace hBk := Nat.lt_of_lt_of_le hBk t.size
      replace hBn := Nat.lt_of_lt_of_le hBn t.size
      replace T := After.t T t
      clear t
      go_wp2_with fail
      (with_reducible refine (add_nt g2 g4 Bz2.out Bz4.out).mono ?_)
      rintro e w' ⟨z5, rfl, g5, t⟩
      clear g2
      clear g4
      replace k0 := k0.below t
      replace k4 := k4.below t
      replace f2 := f2.below t
      replace ho := ho.below t
      replace k2 := k2.below t
      replace bk := (t.cell (p := ⟨Bk, 0, none⟩) hBk).trans bk
      replace bn := (t.cell (p := ⟨Bn, 0, none⟩) hBn).trans bn
      replace hBk := Nat.lt_of_lt_of_le hBk t.size
      replace hBn := Nat.lt_of_lt_of_le hBn t.size
      replace T := After.t T t
      clear t
      go_wp2_with fail
      (with_reducible refine (add_nt k0 g5 B0.out Bz5.out).mono ?_)
      rintro e w' ⟨z6, rfl, g6, t⟩
      clear g5
      replace k0 := k0.below t
      replace k4 := k4.below t
      replace f2 := f2.below t
      replace ho := ho.below t
      replace k2 := k2.below t
      replace bk := (t.cell (p := ⟨Bk, 0, none⟩) hBk).trans bk
      replace bn := (t.cell (p := ⟨Bn, 0, none⟩) hBn).trans bn
      replace hBk := Nat.lt_of_lt_of_le hBk t.size
      replace hBn := Nat.lt_of_lt_of_le hBn t.size
      replace T := After.t T t
      clear t
      go_wp2_with fail
      (with_reducible refine (less_nt f2 g6 BR2.out HU.out).mono ?_)
      rintro e w' ⟨u, rfl, gu, t⟩
      clear f2
      clear g6
      replace k0 := k0.below t
      replace k4 := k4.below t
      replace ho := ho.below t
      replace k2 := k2.below t
      replace bk := (t.cell (p := ⟨Bk, 0, none⟩) hBk).trans bk
      replace bn := (t.cell (p := ⟨Bn, 0, none⟩) hBn).trans bn
      replace hBk := Nat.lt_of_lt_of_le hBk t.size
      replace hBn := Nat.lt_of_lt_of_le hBn t.size
      replace T := After.t T t
      clear t
      go_wp2_with fail
      (with_reducible refine (shr_int gu BU.out 1 1 rfl (by decide)).mono ?_)
      rintro e w' ⟨uh, rfl, gv, t⟩
      clear gu
      replace k0 := k0.below t
      replace k4 := k4.below t
      replace ho := ho.below t
      replace k2 := k2.below t
      replace bk := (t.cell (p := ⟨Bk, 0, none⟩) hBk).trans bk
      replace bn := (t.cell (p := ⟨Bn, 0, none⟩) hBn).trans bn
      replace hBk := Nat.lt_of_lt_of_le hBk t.size
      replace hBn := Nat.lt_of_lt_of_le hBn t.size
      replace T := After.t T t
      clear t
      go_wp2_with fail
      (with_reducible refine (less_nt gv ho BV.out HV.out).mono ?_)
      rintro e w' ⟨ud, rfl, gw, t⟩
      clear gv
      replace k0 := k0.below t
      replace k4 := k4.below t
      replace ho := ho.below t
      replace k2 := k2.below t
      replace bk := (t.cell (p := ⟨Bk, 0, none⟩) hBk).trans bk
      replace bn := (t.cell (p := ⟨Bn, 0, none⟩) hBn).trans bn
      replace hBk := Nat.lt_of_lt_of_le hBk t.size
      replace hBn := Nat.lt_of_lt_of_le hBn t.size
      replace T := After.t T t
      clear t
      go_wp2_with fail
      (with_reducible refine (third_nt gw BW.out).mono ?_)
      rintro e w' ⟨c3, rfl, k3, t⟩
      clear gw
      replace k0 := k0.below t
      replace k4 := k4.below t
      replace ho := ho.below t
      replace k2 := k2.below t
      replace bk := (t.cell (p := ⟨Bk, 0, none⟩) hBk).trans bk
      replace bn := (t.cell (p := ⟨Bn, 0, none⟩) hBn).trans bn
      replace hBk := Nat.lt_of_lt_of_le hBk t.size
      replace hBn := Nat.lt_of_lt_of_le hBn t.size
      replace T := After.t T t
      clear t
      replace k3 := k3.as HW.out
      go_wp2_with fail
      (with_reducible refine (less_nt ho k3 BO.out (Nat.le_add_left _ _)).mono ?_)
      rintro e w' ⟨c1, rfl, k1, t⟩
      clear ho
      replace k0 := k0.below t
      replace k4 := k4.below t
      replace k2 := k2.below t
      replace k3 := k3.below t
      replace bk := (t.cell (p := ⟨Bk, 0, none⟩) hBk).trans bk
      replace bn := (t.cell (p := ⟨Bn, 0, none⟩) hBn).trans bn
      replace hBk := Nat.lt_of_lt_of_le hBk t.size
      replace hBn := Nat.lt_of_lt_of_le hBn t.size
      replace T := After.t T t
      clear t
      replace k1 := k1.as HM1.out
      obtain ⟨c0_o, c0_c, c0_f, rfl, -⟩ := k0.open
      obtain ⟨c1_o, c1_c, c1_f, rfl, -⟩ := k1.open
      obtain ⟨c2_o, c2_c, c2_f, rfl, -⟩ := k2.open
      obtain ⟨c3_o, c3_c, c3_f, rfl, -⟩ := k3.open
      obtain ⟨c4_o, c4_c, c4_f, rfl, -⟩ := k4.open
      go_wp2_with fail
      have HQ : ∃ cv cc, Hid (Five _ w'.heap.size Bk k cv cc) ∧ Hid (tsum cc k 5 = a * b) := ⟨_, _, five_start (t := 22) bk hBk k0 k1 k2 k3 k4 B0.out (Nat.le_trans (limbs_mono (Nat.le_add_right M1 M3)) BO.out) BM2.out (Nat.le_trans (limbs_mono (Nat.le_add_left M3 M1)) BO.out) B4.out, (tsum5 C0 M1 M2 M3 C4 k).trans hlaw.out⟩
      have T' := After.alloc T (.cells #[.slice c0_o (limbs C0) c0_c, .slice c1_o (limbs M1) c1_c, .slice c2_o (limbs M2) c2_c, .slice c3_o (limbs M3) c3_c, .slice c4_o (limbs C4) c4_c] 22)
      replace T' := Lib.hid T'
      clear T bk hBk bn hBn k0 k1 k2 k3 k4 hlaw HSG HU HV HW HM1 HM2 hEE hOO Bs Bd B0 B4 BE BO BM2 Bz2 Bz4 Bcc Bz5 BR2 BU BV BW
      generalize (World.alloc w' _) = W6 at HQ T' ⊢
      generalize w'.heap.size = R at HQ ⊢
      obtain ⟨cv, cc, HQ, HL⟩ := HQ
      go_loopw [29, 133] (fun o i wr => ∃ q : Nat, q ≤ 5 ∧ i = .int .i64 q ∧ Hid (Nt wr o (tsum cc k q)) ∧ Hid (Below W6.heap.size W6 wr)) (fun _ i _ => 5 - (intOf i).toNat)
      case atStart => exact ⟨0, by omega, rfl, Nt.nil _, Below.refl _ _⟩
      case round =>
        obtain ⟨q, hq, rfl, hnt, hbw⟩ := hrel
        by_cases hlt : q < 5
        · obtain ⟨hcell, hbk, hnc, hlc⟩ := five_at HQ.out hbw.out hlt
          replace hnc := Lib.hid hnc
          replace hlc := Lib.hid hlc
          obtain ⟨e1, e2, e3⟩ := five_wrap Bk5.out hlt
          obtain ⟨l1, l2⟩ := tsum_limbs HL.out Bab.out hlt
          replace l1 := Lib.hid l1
          replace l2 := Lib.hid l2
          go_wp2_with fail
          (with_reducible refine (shl_int hnc.out hlc.out _ (32 * k * q) (five_cast k q) e3).mono ?_)
          rintro e w8 ⟨sv, rfl, g1, t1⟩
          go_wp2_with fail
          (with_reducible refine (add_nt (hnt.out.below t1) g1 l1.out l2.out).mono ?_)
          rintro e w9 ⟨sv2, rfl, g2, t2⟩
          go_wp2_with fail
          go_roundw
          case rel => exact ⟨q + 1, by omega, by go_num, g2, After.t (After.t hbw.out t1) t2⟩
          case measure => simp [intOf]; omega
        · obtain rfl : q = 5 := by omega
          go_wp2_with fail
          go_ret
          exact ⟨_, rfl, hnt.out.as HL.out, After.t T'.out hbw.out⟩
    · have hb' : (an == bs) = false := by simpa using hb
      go_wp2_with fail
      have hEE := Lib.hid (show (R1 - RM) / 2 ^ 1 = C0 + C4 + M2 by omega)
      have hOO := Lib.hid (show (R1 + RM) / 2 ^ 1 = M1 + M3 by omega)
      clear hE hO
      (with_reducible refine (shr_int gd Bd.out 1 1 rfl (by decide)).mono ?_)
      rintro e w' ⟨ev, rfl, he, t⟩
      clear gd
      replace k0 := k0.below t
      replace k4 := k4.below t
      replace f2 := f2.below t
      replace ge := ge.below t
      replace bk := (t.cell (p := ⟨Bk, 0, none⟩) hBk).trans bk
      replace bn := (t.cell (p := ⟨Bn, 0, none⟩) hBn).trans bn
      replace hBk := Nat.lt_of_lt_of_le hBk t.size
      replace hBn := Nat.lt_of_lt_of_le hBn t.size
      replace T := After.t T t
      clear t
      replace he := he.as hEE.out
      go_wp2_with fail
      (with_reducible refine (shr_int ge Bs.out 1 1 rfl (by decide)).mono ?_)
      rintro e w' ⟨od, rfl, ho, t⟩
      clear ge
      replace k0 := k0.below t
      replace k4 := k4.below t
      replace f2 := f2.below t
      replace he := he.below t
      replace bk := (t.cell (p := ⟨Bk, 0, none⟩) hBk).trans bk
      replace bn := (t.cell (p := ⟨Bn, 0, none⟩) hBn).trans bn
      replace hBk := Nat.lt_of_lt_of_le hBk t.size
      replace hBn := Nat.lt_of_lt_of_le hBn t.size
      replace T := After.t T t
      clear t
      replace ho := ho.as hOO.out
      go_wp2_with fail
      (with_reducible refine (add_nt k0 k4 B0.out B4.out).mono ?_)
      rintro e w' ⟨sc, rfl, hc, t⟩
      replace k0 := k0.below t
      replace k4 := k4.below t
      replace f2 := f2.below t
      replace he := he.below t
      replace ho := ho.below t
      replace bk := (t.cell (p := ⟨Bk, 0, none⟩) hBk).trans bk
      replace bn := (t.cell (p := ⟨Bn, 0, none⟩) hBn).trans bn
      replace hBk := Nat.lt_of_lt_of_le hBk t.size
      replace hBn := Nat.lt_of_lt_of_le hBn t.size
      replace T := After.t T t
      clear t
      go_wp2_with fail
      (with_reducible refine (less_nt he hc BE.out (Nat.le_add_right _ _)).mono ?_)
      rintro e w' ⟨c2, rfl, k2, t⟩
      clear he
      clear hc
      replace k0 := k0.below t
      replace k4 := k4.below t
      replace f2 := f2.below t
      replace ho := ho.below t
      replace bk := (t.cell (p := ⟨Bk, 0, none⟩) hBk).trans bk
      replace bn := (t.cell (p := ⟨Bn, 0, none⟩) hBn).trans bn
      replace hBk := Nat.lt_of_lt_of_le hBk t.size
      replace hBn := Nat.lt_of_lt_of_le hBn t.size
      replace T := After.t T t
      clear t
      replace k2 := k2.as HM2.out
      go_wp2_with fail
      (with_reducible refine (shl_int k2 BM2.out 2 2 rfl (by decide)).mono ?_)
      rintro e w' ⟨z2, rfl, g2, t⟩
      replace k0 := k0.below t
      replace k4 := k4.below t
      replace f2 := f2.below t
      replace ho := ho.below t
      replace k2 := k2.below t
      replace bk := (t.cell (p := ⟨Bk, 0, none⟩) hBk).trans bk
      replace bn := (t.cell (p := ⟨Bn, 0, none⟩) hBn).trans bn
      replace hBk := Nat.lt_of_lt_of_le hBk t.size
      replace hBn := Nat.lt_of_lt_of_le hBn t.size
      replace T := After.t T t
      clear t
      go_wp2_with fail
      (with_reducible refine (shl_int k4 B4.out 4 4 rfl (by decide)).mono ?_)
      rintro e w' ⟨z4, rfl, g4, t⟩
      replace k0 := k0.below t
      replace k4 := k4.below t
      replace f2 := f2.below t
      replace ho := ho.below t
      replace k2 := k2.below t
      replace g2 := g2.below t
      replace bk := (t.cell (p := ⟨Bk, 0, none⟩) hBk).trans bk
      replace bn := (t.cell (p := ⟨Bn, 0, none⟩) hBn).trans bn
      replace hBk := Nat.lt_of_lt_of_le hBk t.size
      replace hBn := Nat.lt_of_lt_of_le hBn t.size
      replace T := After.t T t
      clear t
      go_wp2_with fail
      (with_reducible refine (add_nt g2 g4 Bz2.out Bz4.out).mono ?_)
      rintro e w' ⟨z5, rfl, g5, t⟩
      clear g2
      clear g4
      replace k0 := k0.below t
      replace k4 := k4.below t
      replace f2 := f2.below t
      replace ho := ho.below t
      replace k2 := k2.below t
      replace bk := (t.cell (p := ⟨Bk, 0, none⟩) hBk).trans bk
      replace bn := (t.cell (p := ⟨Bn, 0, none⟩) hBn).trans bn
      replace hBk := Nat.lt_of_lt_of_le hBk t.size
      replace hBn := Nat.lt_of_lt_of_le hBn t.size
      replace T := After.t T t
      clear t
      go_wp2_with fail
      (with_reducible refine (add_nt k0 g5 B0.out Bz5.out).mono ?_)
      rintro e w' ⟨z6, rfl, g6, t⟩
      clear g5
      replace k0 := k0.below t
      replace k4 := k4.below t
      replace f2 := f2.below t
      replace ho := ho.below t
      replace k2 := k2.below t
      replace bk := (t.cell (p := ⟨Bk, 0, none⟩) hBk).trans bk
      replace bn := (t.cell (p := ⟨Bn, 0, none⟩) hBn).trans bn
      replace hBk := Nat.lt_of_lt_of_le hBk t.size
      replace hBn := Nat.lt_of_lt_of_le hBn t.size
      replace T := After.t T t
      clear t
      go_wp2_with fail
      (with_reducible refine (less_nt f2 g6 BR2.out HU.out).mono ?_)
      rintro e w' ⟨u, rfl, gu, t⟩
      clear f2
      clear g6
      replace k0 := k0.below t
      replace k4 := k4.below t
      replace ho := ho.below t
      replace k2 := k2.below t
      replace bk := (t.cell (p := ⟨Bk, 0, none⟩) hBk).trans bk
      replace bn := (t.cell (p := ⟨Bn, 0, none⟩) hBn).trans bn
      replace hBk := Nat.lt_of_lt_of_le hBk t.size
      replace hBn := Nat.lt_of_lt_of_le hBn t.size
      replace T := After.t T t
      clear t
      go_wp2_with fail
      (with_reducible refine (shr_int gu BU.out 1 1 rfl (by decide)).mono ?_)
      rintro e w' ⟨uh, rfl, gv, t⟩
      clear gu
      replace k0 := k0.below t
      replace k4 := k4.below t
      replace ho := ho.below t
      replace k2 := k2.below t
      replace bk := (t.cell (p := ⟨Bk, 0, none⟩) hBk).trans bk
      replace bn := (t.cell (p := ⟨Bn, 0, none⟩) hBn).trans bn
      replace hBk := Nat.lt_of_lt_of_le hBk t.size
      replace hBn := Nat.lt_of_lt_of_le hBn t.size
      replace T := After.t T t
      clear t
      go_wp2_with fail
      (with_reducible refine (less_nt gv ho BV.out HV.out).mono ?_)
      rintro e w' ⟨ud, rfl, gw, t⟩
      clear gv
      replace k0 := k0.below t
      replace k4 := k4.below t
      replace ho := ho.below t
      replace k2 := k2.below t
      replace bk := (t.cell (p := ⟨Bk, 0, none⟩) hBk).trans bk
      replace bn := (t.cell (p := ⟨Bn, 0, none⟩) hBn).trans bn
      replace hBk := Nat.lt_of_lt_of_le hBk t.size
      replace hBn := Nat.lt_of_lt_of_le hBn t.size
      replace T := After.t T t
      clear t
      go_wp2_with fail
      (with_reducible refine (third_nt gw BW.out).mono ?_)
      rintro e w' ⟨c3, rfl, k3, t⟩
      clear gw
      replace k0 := k0.below t
      replace k4 := k4.below t
      replace ho := ho.below t
      replace k2 := k2.below t
      replace bk := (t.cell (p := ⟨Bk, 0, none⟩) hBk).trans bk
      replace bn := (t.cell (p := ⟨Bn, 0, none⟩) hBn).trans bn
      replace hBk := Nat.lt_of_lt_of_le hBk t.size
      replace hBn := Nat.lt_of_lt_of_le hBn t.size
      replace T := After.t T t
      clear t
      replace k3 := k3.as HW.out
      go_wp2_with fail
      (with_reducible refine (less_nt ho k3 BO.out (Nat.le_add_left _ _)).mono ?_)
      rintro e w' ⟨c1, rfl, k1, t⟩
      clear ho
      replace k0 := k0.below t
      replace k4 := k4.below t
      replace k2 := k2.below t
      replace k3 := k3.below t
      replace bk := (t.cell (p := ⟨Bk, 0, none⟩) hBk).trans bk
      replace bn := (t.cell (p := ⟨Bn, 0, none⟩) hBn).trans bn
      replace hBk := Nat.lt_of_lt_of_le hBk t.size
      replace hBn := Nat.lt_of_lt_of_le hBn t.size
      replace T := After.t T t
      clear t
      replace k1 := k1.as HM1.out
      obtain ⟨c0_o, c0_c, c0_f, rfl, -⟩ := k0.open
      obtain ⟨c1_o, c1_c, c1_f, rfl, -⟩ := k1.open
      obtain ⟨c2_o, c2_c, c2_f, rfl, -⟩ := k2.open
      obtain ⟨c3_o, c3_c, c3_f, rfl, -⟩ := k3.open
      obtain ⟨c4_o, c4_c, c4_f, rfl, -⟩ := k4.open
      go_wp2_with fail
      have HQ : ∃ cv cc, Hid (Five _ w'.heap.size Bk k cv cc) ∧ Hid (tsum cc k 5 = a * b) := ⟨_, _, five_start (t := 22) bk hBk k0 k1 k2 k3 k4 B0.out (Nat.le_trans (limbs_mono (Nat.le_add_right M1 M3)) BO.out) BM2.out (Nat.le_trans (limbs_mono (Nat.le_add_left M3 M1)) BO.out) B4.out, (tsum5 C0 M1 M2 M3 C4 k).trans hlaw.out⟩
      have T' := After.alloc T (.cells #[.slice c0_o (limbs C0) c0_c, .slice c1_o (limbs M1) c1_c, .slice c2_o (limbs M2) c2_c, .slice c3_o (limbs M3) c3_c, .slice c4_o (limbs C4) c4_c] 22)
      replace T' := Lib.hid T'
      clear T bk hBk bn hBn k0 k1 k2 k3 k4 hlaw HSG HU HV HW HM1 HM2 hEE hOO Bs Bd B0 B4 BE BO BM2 Bz2 Bz4 Bcc Bz5 BR2 BU BV BW
      generalize (World.alloc w' _) = W6 at HQ T' ⊢
      generalize w'.heap.size = R at HQ ⊢
      obtain ⟨cv, cc, HQ, HL⟩ := HQ
      go_loopw [29, 133] (fun o i wr => ∃ q : Nat, q ≤ 5 ∧ i = .int .i64 q ∧ Hid (Nt wr o (tsum cc k q)) ∧ Hid (Below W6.heap.size W6 wr)) (fun _ i _ => 5 - (intOf i).toNat)
      case atStart => exact ⟨0, by omega, rfl, Nt.nil _, Below.refl _ _⟩
      case round =>
        obtain ⟨q, hq, rfl, hnt, hbw⟩ := hrel
        by_cases hlt : q < 5
        · obtain ⟨hcell, hbk, hnc, hlc⟩ := five_at HQ.out hbw.out hlt
          replace hnc := Lib.hid hnc
          replace hlc := Lib.hid hlc
          obtain ⟨e1, e2, e3⟩ := five_wrap Bk5.out hlt
          obtain ⟨l1, l2⟩ := tsum_limbs HL.out Bab.out hlt
          replace l1 := Lib.hid l1
          replace l2 := Lib.hid l2
          go_wp2_with fail
          (with_reducible refine (shl_int hnc.out hlc.out _ (32 * k * q) (five_cast k q) e3).mono ?_)
          rintro e w8 ⟨sv, rfl, g1, t1⟩
          go_wp2_with fail
          (with_reducible refine (add_nt (hnt.out.below t1) g1 l1.out l2.out).mono ?_)
          rintro e w9 ⟨sv2, rfl, g2, t2⟩
          go_wp2_with fail
          go_roundw
          case rel => exact ⟨q + 1, by omega, by go_num, g2, After.t (After.t hbw.out t1) t2⟩
          case measure => simp [intOf]; omega
        · obtain rfl : q = 5 := by omega
          go_wp2_with fail
          go_ret
          exact ⟨_, rfl, hnt.out.as HL.out, After.t T'.out hbw.out⟩

set_option maxRecDepth 100000 in
set_option maxHeartbeats 4000000 in
theorem toom_few {va vb : Value} {a b : Nat} {w : World} (na : Nt w va a) (nb : Nt w vb b) (la : limbs a ≤ 16777216) (lb : limbs b ≤ 16777216) (h : limbs a < 7 ∨ limbs b < 7) :
    Calls Tryd.prog 88 #[va, vb] w fun e w' => ∃ v, e = .returned v ∧ Nt w' v (a * b) ∧ Below w.heap.size w w' := by
  obtain ⟨aa, ca, fa, rfl, -⟩ := na.open
  obtain ⟨ab, cb, fb, rfl, -⟩ := nb.open
  have H : ∀ o, Hid (Calls Tryd.prog 89 #[.slice aa (limbs a) ca, .slice ab (limbs b) cb] (w.alloc o) fun e w' => ∃ v, e = .returned v ∧ Nt w' v (a * b) ∧ Below w.heap.size w w') := fun o => by
    have t : After w (w.alloc o) := After.alloc (After.refl w) o
    refine (kara_nt (na.below t.out) (nb.below t.out) la lb).mono ?_
    rintro e w1 ⟨v, rfl, hv, hb⟩
    exact ⟨v, rfl, hv, After.t t hb⟩
  have H2 := Lib.hid H
  clear na nb H
  generalize limbs a = n at *
  generalize limbs b = m at *
  by_cases hnm : n ≤ m
  · have h4 : n < 7 := by omega
    go_enter Tryd.func88, Tryd.ntmps88
    go_wp2_with (go_at_call 89; refine (H2.out _).out.mono ?_; rintro e w1 ⟨v, rfl, hv, hb⟩)
    all_goals
      go_ret
      exact ⟨v, rfl, hv, hb⟩
  · have h4 : m < 7 := by omega
    have hmn : m < n := by omega
    go_enter Tryd.func88, Tryd.ntmps88
    go_wp2_with (go_at_call 89; refine (H2.out _).out.mono ?_; rintro e w1 ⟨v, rfl, hv, hb⟩)
    all_goals
      go_ret
      exact ⟨v, rfl, hv, hb⟩

/-- mul.Toom: the product. -/
theorem toom_ok (N : Nat) : N ≤ 16777216 → MulOk 88 N := by
  induction N using Nat.strongRecOn with
  | _ N ih =>
    intro hN va vb a b w na nb la lb
    by_cases h : limbs a < 7 ∨ limbs b < 7
    · exact toom_few na nb (by omega) (by omega) h
    · exact toom_step (max (limbs a) (limbs b)) (by omega) (by omega) (fun M hM => ih M (by omega) (by omega)) na nb (by omega) (by omega) rfl

theorem toom_nt {va vb : Value} {a b : Nat} {w : World} (ha : Nt w va a) (hb : Nt w vb b) (la : limbs a ≤ 16777216) (lb : limbs b ≤ 16777216) :
    Calls Tryd.prog 88 #[va, vb] w fun e w' => ∃ v, e = .returned v ∧ Nt w' v (a * b) ∧ Below w.heap.size w w' := toom_ok 16777216 (by omega) va vb a b w ha hb la lb
end Go.Proofs.YtopbfgmpilnghaaDoor
