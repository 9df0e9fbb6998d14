/- mul.Toom's closure that cuts a natural into three; mul.points. mul.points: a natural's values at 1, -1 and 2, taken as a polynomial of thirds. The plain law of the product by five thirds: five products of values tell the product's five parts. -/
import Derived.Test.YtopbfgmpilnghaaDoorKara
import Derived.Deep.RegionHeld3
set_option linter.unusedVariables false
set_option linter.unusedSimpArgs false
namespace Go.Proofs.YtopbfgmpilnghaaDoor
open Go.RowKit

theorem part_mid {v : Value} {a : Nat} {w : World} (ha : Nt w v a) (la : limbs a ≤ 536870912) (fr to : Int) (x y : Nat) (hf : fr = (x : Int)) (ht : to = (y : Int)) (hxy : y = x + x) (hy : y ≤ 4611686018427387904) :
    Calls Tryd.prog 104 #[v, .int .i64 fr, .int .i64 to] w fun e w' => ∃ v, e = .returned v ∧ Nt w' v (a / 4294967296 ^ x % 4294967296 ^ x) ∧ Below w.heap.size w w' := by
  have := part_nt ha la fr to x y hf ht (by omega) hy
  rw [show y - x = x from by omega] at this
  exact this

/-- No number lies in the block H. -/
def Solid (W : World) (H : Nat) : Prop := ∀ (j : Nat) (k : IntKind) (x : Int), W.cell? ⟨H, j, none⟩ ≠ some (.int k x)
/-- A natural is kept while a block without numbers is written. -/
theorem Nt.but {W W' : World} {H : Nat} {v : Value} {a : Nat} (h : Nt W v a) (hs : W.heap.size ≤ W'.heap.size) (hb : ∀ b, b < W.heap.size → b ≠ H → W'.heap[b]? = W.heap[b]?) (hn : Solid W H) : Nt W' v a := by
  obtain ⟨n, f, ⟨ao, cap, hv, hc, hm, hcells⟩, hf, hN, hx⟩ := h
  refine ⟨n, f, ⟨ao, cap, hv, hc, hm, fun h0 => ?_⟩, hf, hN, hx⟩
  obtain ⟨b, off, ha, hbl, hcl⟩ := hcells h0
  have hne : b ≠ H := fun e => hn (off + 0) .u32 (f 0) (by rw [← e]; exact hcl 0 h0)
  exact ⟨b, off, ha, by omega, fun j hj => (World.cell?_of_block (w := W) (hb b hbl hne)).trans (hcl j hj)⟩
def notInt : Value → Bool
  | .int _ _ => false
  | _ => true

/-- The variable of three naturals at the place H. -/
def Row3 (W : World) (H : Nat) (t : TypeId) : Prop := ∃ cs : Array Value, W.heap[H]? = some (.cells cs t (0, 0)) ∧ cs.size = 3 ∧ cs.all notInt = true
theorem Row3.solid {W : World} {H : Nat} {t : TypeId} (h : Row3 W H t) : Solid W H := by
  obtain ⟨cs, hc, hs, hn⟩ := h
  intro j k x e
  have e2 : cs[j]? = some (.int k x) := by simpa [World.cell?, hc] using e
  have := Array.all_eq_true_iff_forall_mem.1 hn _ (Array.mem_of_getElem? e2)
  cases this
def at3 (W : World) (H i : Nat) : Value := (W.cell? ⟨H, i, none⟩).getD undef
theorem Row3.cell {W : World} {H : Nat} {t : TypeId} (h : Row3 W H t) {i : Nat} (hi : i < 3) : W.cell? ⟨H, i, none⟩ = some (at3 W H i) := by
  obtain ⟨cs, hc, hs, hn⟩ := h
  simp only [at3, World.cell?, hc]
  simp [show i < cs.size from by omega]
theorem Row3.free {W : World} {H : Nat} {t : TypeId} (h : Row3 W H t) (i : Nat) : W.frozen? ⟨H, i, none⟩ = false := by
  obtain ⟨cs, hc, hs, hn⟩ := h
  simp [World.frozen?, hc]
theorem Row3.set {W : World} {H : Nat} {t : TypeId} (h : Row3 W H t) (i : Nat) (v : Value) (hv : notInt v = true) : Row3 (W.setCell ⟨H, i, none⟩ v) H t := by
  obtain ⟨cs, hc, hs, hn⟩ := h
  refine ⟨cs.setIfInBounds i v, by simp [World.setCell, Array.getElem?_modify, hc], by simpa using hs, ?_⟩
  rw [Array.all_eq_true_iff_forall_mem] at hn ⊢
  intro x hx
  obtain ⟨j, hj⟩ := Array.mem_iff_getElem?.1 hx
  rw [Array.getElem?_setIfInBounds] at hj
  split at hj
  · split at hj
    · cases hj; exact hv
    · cases hj
  · exact hn x (Array.mem_of_getElem? hj)
theorem Row3.same {W W' : World} {H : Nat} {t : TypeId} (h : Row3 W H t) (e : W'.heap[H]? = W.heap[H]?) : Row3 W' H t := by
  obtain ⟨cs, hc, hs, hn⟩ := h
  exact ⟨cs, e.trans hc, hs, hn⟩
theorem Row3.lt {W : World} {H : Nat} {t : TypeId} (h : Row3 W H t) : H < W.heap.size := by
  obtain ⟨cs, hc, hs, hn⟩ := h
  exact (Array.getElem?_eq_some_iff.1 hc).1

theorem Row3.full {W : World} {H : Nat} {t : TypeId} (h : Row3 W H t) (v0 v1 v2 : Value) :
    (((W.setCell ⟨H, 0, none⟩ v0).setCell ⟨H, 1, none⟩ v1).setCell ⟨H, 2, none⟩ v2).heap[H]? = some (.cells #[v0, v1, v2] t (0, 0)) := by
  obtain ⟨cs, hc, hs, hn⟩ := h
  simp only [World.setCell, Array.getElem?_modify, hc, if_true, Option.map_some]
  congr 2
  apply Array.ext (by simp [hs])
  intro i h1 h2
  simp at h2
  rcases i with _ | _ | _ | i
  · simp [Array.getElem_setIfInBounds, hs]
  · simp [Array.getElem_setIfInBounds, hs]
  · simp [Array.getElem_setIfInBounds, hs]
  · omega
theorem Row3.others {W : World} {H : Nat} (v0 v1 v2 : Value) {B : Nat} (hB : B ≠ H) :
    (((W.setCell ⟨H, 0, none⟩ v0).setCell ⟨H, 1, none⟩ v1).setCell ⟨H, 2, none⟩ v2).heap[B]? = W.heap[B]? := by
  rw [Below.heap_setCell _ _ _ _ hB, Below.heap_setCell _ _ _ _ hB, Below.heap_setCell _ _ _ _ hB]
theorem Row3.keeps {W : World} {H : Nat} {t : TypeId} (h : Row3 W H t) (v0 v1 v2 : Value) {v : Value} {a : Nat} (ha : Nt W v a) :
    Nt (((W.setCell ⟨H, 0, none⟩ v0).setCell ⟨H, 1, none⟩ v1).setCell ⟨H, 2, none⟩ v2) v a :=
  ha.but (by simp [World.setCell]) (fun b _ hne => Row3.others v0 v1 v2 hne) h.solid

/-- What stays while the closure cuts: the two boxes; what was there; the variable of three. -/
def Cutting (w : World) (Bk Bn : Nat) (x y : Value) (t : TypeId) (W : World) : Prop :=
  W.cell? ⟨Bk, 0, none⟩ = some x ∧ W.cell? ⟨Bn, 0, none⟩ = some y ∧ After w W ∧ Row3 W w.heap.size t ∧
  W.cell? ⟨w.heap.size, 0, none⟩ = some (at3 W w.heap.size 0) ∧ W.cell? ⟨w.heap.size, 1, none⟩ = some (at3 W w.heap.size 1) ∧ W.cell? ⟨w.heap.size, 2, none⟩ = some (at3 W w.heap.size 2) ∧
  W.frozen? ⟨w.heap.size, 0, none⟩ = false ∧ W.frozen? ⟨w.heap.size, 1, none⟩ = false ∧ W.frozen? ⟨w.heap.size, 2, none⟩ = false

theorem Cutting.of {w W : World} {Bk Bn : Nat} {x y : Value} {t : TypeId} (h1 : W.cell? ⟨Bk, 0, none⟩ = some x) (h2 : W.cell? ⟨Bn, 0, none⟩ = some y) (h3 : After w W) (h4 : Row3 W w.heap.size t) : Cutting w Bk Bn x y t W :=
  ⟨h1, h2, h3, h4, h4.cell (by omega), h4.cell (by omega), h4.cell (by omega), h4.free 0, h4.free 1, h4.free 2⟩

theorem box_start {w : World} {Bk Bn : Nat} {x y : Value} {cs : Array Value} {t : TypeId} (hk : w.cell? ⟨Bk, 0, none⟩ = some x) (hn : w.cell? ⟨Bn, 0, none⟩ = some y) (h1 : Bk < w.heap.size) (h2 : Bn < w.heap.size) (hc : cs.size = 3) (hni : cs.all notInt = true) :
    Cutting w Bk Bn x y t (w.alloc (.cells cs t)).drew :=
  Cutting.of ((World.cell?_of_block (w := w) (heap_alloc_old w _ h1)).trans hk) ((World.cell?_of_block (w := w) (heap_alloc_old w _ h2)).trans hn) (Below.drew ((Below.refl _ w).alloc (Nat.le_refl _) _)) ⟨cs, heap_alloc_new w _, hc, hni⟩

theorem box_step {w W W' : World} {Bk Bn : Nat} {x y : Value} {t : TypeId} (h1 : Bk < w.heap.size) (h2 : Bn < w.heap.size)
    (h : Cutting w Bk Bn x y t W) (b : Below W.heap.size W W') : Cutting w Bk Bn x y t W' := by
  obtain ⟨hk, hn, ha, hr, _⟩ := h
  have hs := Below.size ha.out
  exact Cutting.of ((b.cell (p := ⟨Bk, 0, none⟩) (show Bk < W.heap.size by omega)).trans hk) ((b.cell (p := ⟨Bn, 0, none⟩) (show Bn < W.heap.size by omega)).trans hn) (After.t ha b) (hr.same (b.block _ hr.lt))

theorem box_set {w W : World} {Bk Bn : Nat} {x y : Value} {t : TypeId} (h1 : Bk < w.heap.size) (h2 : Bn < w.heap.size)
    (h : Cutting w Bk Bn x y t W) (v0 v1 v2 : Value) (g0 : notInt v0 = true) (g1 : notInt v1 = true) (g2 : notInt v2 = true) : Cutting w Bk Bn x y t (((W.setCell ⟨w.heap.size, 0, none⟩ v0).setCell ⟨w.heap.size, 1, none⟩ v1).setCell ⟨w.heap.size, 2, none⟩ v2) := by
  obtain ⟨hk, hn, ha, hr, _⟩ := h
  have e : ∀ B, B < w.heap.size → (((W.setCell ⟨w.heap.size, 0, none⟩ v0).setCell ⟨w.heap.size, 1, none⟩ v1).setCell ⟨w.heap.size, 2, none⟩ v2).heap[B]? = W.heap[B]? := fun B hB => by
    rw [Below.heap_setCell _ _ _ _ (by dsimp only; omega), Below.heap_setCell _ _ _ _ (by dsimp only; omega), Below.heap_setCell _ _ _ _ (by dsimp only; omega)]
  exact Cutting.of ((World.cell?_of_block (w := W) (e _ h1)).trans hk) ((World.cell?_of_block (w := W) (e _ h2)).trans hn)
    (((Below.setCell ha (Nat.le_refl _) v0).setCell (Nat.le_refl _) v1).setCell (Nat.le_refl _) v2) (((hr.set 0 v0 g0).set 1 v1 g1).set 2 v2 g2)

set_option maxRecDepth 100000 in
set_option maxHeartbeats 4000000 in
theorem cut_any {Bk Bn k n : Nat} {va : Value} {a : Nat} {w : World} (na : Nt w va a) (la : limbs a ≤ n) (hn : n ≤ 33554432) (hkn : 2 * k ≤ n)
    (hk : w.cell? ⟨Bk, 0, none⟩ = some (.int .i64 k)) (hb : w.cell? ⟨Bn, 0, none⟩ = some (.int .i64 n)) (hBk : Bk < w.heap.size) (hBn : Bn < w.heap.size) :
    Calls Tryd.prog 107 #[va, .pointer (some ⟨Bk, 0, none⟩), .pointer (some ⟨Bn, 0, none⟩)] w fun e w' =>
      ∃ v0 v1 v2, e = .returned (.agg #[v0, v1, v2]) ∧ Nt w' v0 (a % 4294967296 ^ k) ∧ Nt w' v1 (a / 4294967296 ^ k % 4294967296 ^ k) ∧ Nt w' v2 (a / 4294967296 ^ (2 * k)) ∧ Below w.heap.size w w' := by
  have HNA := Lib.hid na
  clear na
  go_enter Tryd.func107, Tryd.ntmps107
  go_wp2_with fail
  have hst := box_start (cs := #[.slice none 0 0, .slice none 0 0, .slice none 0 0]) (t := 119) hk hb hBk hBn rfl (by simp [notInt])
  have e1 : IntKind.i64.wrap (2 * (k : Int)) = 2 * (k : Int) := IntWalk.i64_in _ (by omega)
  unfold Cutting at hst
  go_region_held3 (fun W => W.cell? ⟨Bk, 0, none⟩ = some (.int .i64 k) ∧ W.cell? ⟨Bn, 0, none⟩ = some (.int .i64 n) ∧ After w W ∧ Row3 W w.heap.size 119 ∧
      W.cell? ⟨w.heap.size, 0, none⟩ = some (at3 W w.heap.size 0) ∧ W.cell? ⟨w.heap.size, 1, none⟩ = some (at3 W w.heap.size 1) ∧ W.cell? ⟨w.heap.size, 2, none⟩ = some (at3 W w.heap.size 2) ∧
      W.frozen? ⟨w.heap.size, 0, none⟩ = false ∧ W.frozen? ⟨w.heap.size, 1, none⟩ = false ∧ W.frozen? ⟨w.heap.size, 2, none⟩ = false)
    (first | exact hst | exact box_step hBk hBn (by assumption) (by assumption) | exact box_set hBk hBn (by assumption) _ _ _ rfl rfl rfl)
    (first
      | (go_at_call 104; (with_reducible refine (part_low (HNA.out.below hst.2.2.1.out) (by omega) (k : Int) k rfl (by omega)).mono ?_); rintro e W1 ⟨v0, rfl, n0, t1⟩; obtain ⟨o0, c0, f0, rfl, _⟩ := n0.open)
      | (go_at_call 104; (with_reducible refine (part_mid (HNA.out.below (After.t hst.2.2.1 t1).out) (by omega) _ _ k (2 * k) (by omega) (by omega) (by omega) (by omega)).mono ?_); rintro e W2 ⟨v1, rfl, n1, t2⟩; obtain ⟨o1, c1, f1, rfl, _⟩ := n1.open)
      | (go_at_call 104; (with_reducible refine (part_high (HNA.out.below (After.t (After.t hst.2.2.1 t1) t2).out) (by omega) _ _ (2 * k) n (by omega) (by omega) (by omega) (by omega) la).mono ?_); rintro e W3 ⟨v2, rfl, n2, t3⟩; obtain ⟨o2, c2, f2, rfl, _⟩ := n2.open))
  go_wp2_with fail
  have hC := box_step hBk hBn (box_step hBk hBn (box_step hBk hBn hst t1) t2) t3
  have hR := hC.2.2.2.1
  refine bodyPost_ret (v := .agg #[_, _, _]) ?_ rfl ⟨_, _, _, rfl, hR.keeps _ _ _ ((n0.below t2).below t3), hR.keeps _ _ _ (n1.below t3), hR.keeps _ _ _ n2, ((Below.setCell hC.2.2.1 (Nat.le_refl _) _).setCell (Nat.le_refl _) _).setCell (Nat.le_refl _) _⟩
  simp [results, Tryd.f107]
  exact run_loadVar_row _ _ _ _ _ _ _ (hR.full _ _ _) rfl rfl rfl
end Go.Proofs.YtopbfgmpilnghaaDoor

namespace Go.Proofs.YtopbfgmpilnghaaDoor
open Go.RowKit

theorem trio_below {W W' : World} {H : Nat} {v0 v1 v2 : Value} (h : H < W.heap.size ∧ W.cell? ⟨H, 0, none⟩ = some v0 ∧ W.cell? ⟨H, 1, none⟩ = some v1 ∧ W.cell? ⟨H, 2, none⟩ = some v2) (t : Below W.heap.size W W') :
    H < W'.heap.size ∧ W'.cell? ⟨H, 0, none⟩ = some v0 ∧ W'.cell? ⟨H, 1, none⟩ = some v1 ∧ W'.cell? ⟨H, 2, none⟩ = some v2 :=
  ⟨by have := t.size; omega, (t.cell (p := ⟨H, 0, none⟩) h.1).trans h.2.1, (t.cell (p := ⟨H, 1, none⟩) h.1).trans h.2.2.1, (t.cell (p := ⟨H, 2, none⟩) h.1).trans h.2.2.2⟩
theorem trio_drew {W : World} {H : Nat} {v0 v1 v2 : Value} (h : H < W.heap.size ∧ W.cell? ⟨H, 0, none⟩ = some v0 ∧ W.cell? ⟨H, 1, none⟩ = some v1 ∧ W.cell? ⟨H, 2, none⟩ = some v2) :
    H < W.drew.heap.size ∧ W.drew.cell? ⟨H, 0, none⟩ = some v0 ∧ W.drew.cell? ⟨H, 1, none⟩ = some v1 ∧ W.drew.cell? ⟨H, 2, none⟩ = some v2 := h
theorem trio_alloc {W : World} {t : TypeId} (v0 v1 v2 : Value) : W.heap.size < (W.alloc (.cells #[v0, v1, v2] t)).heap.size ∧ (W.alloc (.cells #[v0, v1, v2] t)).cell? ⟨W.heap.size, 0, none⟩ = some v0 ∧
    (W.alloc (.cells #[v0, v1, v2] t)).cell? ⟨W.heap.size, 1, none⟩ = some v1 ∧ (W.alloc (.cells #[v0, v1, v2] t)).cell? ⟨W.heap.size, 2, none⟩ = some v2 := by
  have h := heap_alloc_new W (.cells #[v0, v1, v2] t)
  refine ⟨(Array.getElem?_eq_some_iff.1 h).1, ?_, ?_, ?_⟩ <;> (simp only [World.cell?]; rw [h]; rfl)

set_option maxRecDepth 100000 in
set_option maxHeartbeats 4000000 in
theorem points_any {N x0 x1 x2 : Nat} {v0 v1 v2 : Value} {w : World} (m0 : Nt w v0 x0) (m1 : Nt w v1 x1) (m2 : Nt w v2 x2) (hN : N ≤ 33554432) (l0 : limbs x0 ≤ N) (l1 : limbs x1 ≤ N) (l2 : limbs x2 ≤ N) :
    Calls Tryd.prog 108 #[.agg #[v0, v1, v2]] w fun e w' =>
      ∃ u0 u1 u2, e = .returned (.tuple #[u0, u1, u2, .bool (decide (x0 + x2 < x1))]) ∧ Nt w' u0 (x0 + x2 + x1) ∧ Nt w' u1 (dist (x0 + x2) x1) ∧ Nt w' u2 (x0 + (x1 * 2 ^ 1 + x2 * 2 ^ 2)) ∧ Below w.heap.size w w' := by
  obtain ⟨o0, c0, f0, rfl, -⟩ := m0.open
  obtain ⟨o1, c1, f1, rfl, -⟩ := m1.open
  obtain ⟨o2, c2, f2, rfl, -⟩ := m2.open
  have T : After w w := After.refl w
  have le := limbs_add_le l0 l2
  have s1 := limbs_shl x1 1
  have s2 := limbs_shl x2 2
  have s3 := limbs_add_le (n := N + 1) (show limbs (x1 * 2 ^ 1) ≤ N + 1 by omega) (show limbs (x2 * 2 ^ 2) ≤ N + 1 by omega)
  generalize hz0 : limbs x0 = z0 at *
  generalize hz1 : limbs x1 = z1 at *
  generalize hz2 : limbs x2 = z2 at *
  have l0' : limbs x0 ≤ N := by omega
  have l1' : limbs x1 ≤ N := by omega
  have l2' : limbs x2 ≤ N := by omega
  go_enter Tryd.func108, Tryd.ntmps108
  go_wp2_with fail
  have tr := trio_alloc (W := w) (t := 119) (.slice o0 z0 c0) (.slice o1 z1 c1) (.slice o2 z2 c2)
  have ta : Below w.heap.size w (w.alloc (.cells #[.slice o0 z0 c0, .slice o1 z1 c1, .slice o2 z2 c2] 119)) := (After.alloc T _).out
  replace m0 := m0.below ta
  replace m1 := m1.below ta
  replace m2 := m2.below ta
  replace T := After.alloc T (.cells #[.slice o0 z0 c0, .slice o1 z1 c1, .slice o2 z2 c2] 119)
  clear ta
  generalize w.alloc (.cells #[.slice o0 z0 c0, .slice o1 z1 c1, .slice o2 z2 c2] 119) = W0 at *
  generalize w.heap.size = H at tr ⊢
  (with_reducible refine (add_nt m0 m2 (by omega) (by omega)).mono ?_)
  rintro e W1 ⟨ve, rfl, ne, t⟩
  replace m0 := m0.below t
  replace m1 := m1.below t
  replace m2 := m2.below t
  replace T := After.t T t
  replace tr := trio_below tr t
  clear t
  go_wp2_with fail
  (with_reducible refine (add_nt ne m1 (by omega) (by omega)).mono ?_)
  rintro e W2 ⟨u0, rfl, n0, t⟩
  replace m0 := m0.below t
  replace m1 := m1.below t
  replace m2 := m2.below t
  replace ne := ne.below t
  replace T := After.t T t
  replace tr := trio_below tr t
  clear t
  go_wp2_with fail
  (with_reducible refine (apart_nt ne m1 (by omega) (by omega)).mono ?_)
  rintro e W3 ⟨u1, rfl, n1, t⟩
  replace m0 := m0.below t
  replace m1 := m1.below t
  replace m2 := m2.below t
  replace n0 := n0.below t
  replace T := After.t T t
  replace tr := trio_below tr t
  clear t ne
  go_wp2_with fail
  have tr' := trio_drew tr
  go_region_held3 (fun W => H < W.heap.size ∧ W.cell? ⟨H, 0, none⟩ = some (.slice o0 z0 c0) ∧ W.cell? ⟨H, 1, none⟩ = some (.slice o1 z1 c1) ∧ W.cell? ⟨H, 2, none⟩ = some (.slice o2 z2 c2))
    (first | exact tr' | exact trio_below (by assumption) (by assumption))
    (first
      | (go_at_call 79; (with_reducible refine (shl_int (m1.below (Drawn.below (Drawn.refl W3).d)) (by omega) 1 1 rfl (by omega)).mono ?_); rintro e W4 ⟨s1v, rfl, q1, t1⟩)
      | (go_at_call 79; (with_reducible refine (shl_int ((m2.below (Drawn.below (Drawn.refl W3).d)).below t1) (by omega) 2 2 rfl (by omega)).mono ?_); rintro e W5 ⟨s2v, rfl, q2, t2⟩)
      | (go_at_call 74; (with_reducible refine (add_nt (q1.below t2) q2 (by omega) (by omega)).mono ?_); rintro e W6 ⟨s3v, rfl, q3, t3⟩)
      | (go_at_call 74; (with_reducible refine (add_nt ((((m0.below (Drawn.below (Drawn.refl W3).d)).below t1).below t2).below t3) q3 (by omega) (by omega)).mono ?_); rintro e W7 ⟨s4v, rfl, q4, t4⟩))
  have d := Drawn.below (B := W3.heap.size) (Drawn.refl W3).d
  go_wp2_with fail
  refine bodyPost_ret (v := .tuple #[u0, u1, s4v, .bool (decide (x0 + x2 < x1))]) (by simp [results, Tryd.f108]) rfl ?_
  exact ⟨_, _, _, rfl, ((((n0.below d).below t1).below t2).below t3).below t4, ((((n1.below d).below t1).below t2).below t3).below t4, q4, After.t (After.t (After.t (After.t (After.t T d) t1) t2) t3) t4⟩
end Go.Proofs.YtopbfgmpilnghaaDoor

namespace Go.Proofs.YtopbfgmpilnghaaDoor
open Go.RowKit

theorem dist_mul (p q r s : Nat) : ((p < q) ↔ (r < s)) ∧ p * r + q * s = p * s + q * r + dist p q * dist r s ∨ ¬ ((p < q) ↔ (r < s)) ∧ p * r + q * s + dist p q * dist r s = p * s + q * r := by
  unfold dist
  by_cases h1 : q ≤ p <;> by_cases h2 : s ≤ r
  · obtain ⟨x, rfl⟩ : ∃ x, p = q + x := ⟨p - q, by omega⟩
    obtain ⟨y, rfl⟩ : ∃ y, r = s + y := ⟨r - s, by omega⟩
    left
    rw [if_pos h1, if_pos h2, show q + x - q = x from by omega, show s + y - s = y from by omega]
    exact ⟨by omega, by grind⟩
  · obtain ⟨x, rfl⟩ : ∃ x, p = q + x := ⟨p - q, by omega⟩
    obtain ⟨y, rfl⟩ : ∃ y, s = r + y := ⟨s - r, by omega⟩
    right
    rw [if_pos h1, if_neg h2, show q + x - q = x from by omega, show r + y - r = y from by omega]
    exact ⟨by omega, by grind⟩
  · obtain ⟨x, rfl⟩ : ∃ x, q = p + x := ⟨q - p, by omega⟩
    obtain ⟨y, rfl⟩ : ∃ y, r = s + y := ⟨r - s, by omega⟩
    right
    rw [if_neg h1, if_pos h2, show p + x - p = x from by omega, show s + y - s = y from by omega]
    exact ⟨by omega, by grind⟩
  · obtain ⟨x, rfl⟩ : ∃ x, q = p + x := ⟨q - p, by omega⟩
    obtain ⟨y, rfl⟩ : ∃ y, s = r + y := ⟨s - r, by omega⟩
    left
    rw [if_neg h1, if_neg h2, show p + x - p = x from by omega, show r + y - r = y from by omega]
    exact ⟨by omega, by grind⟩

/-- The sum and the difference of the values at 1 and -1: twice the even and twice the odd parts, or the other way round. -/
theorem toom_signs (x0 x1 x2 y0 y1 y2 : Nat) :
    dist (x0 + x2) x1 * dist (y0 + y2) y1 ≤ (x0 + x2 + x1) * (y0 + y2 + y1) ∧
    ((decide (x0 + x2 < x1) = decide (y0 + y2 < y1) ∧ (x0 + x2 + x1) * (y0 + y2 + y1) + dist (x0 + x2) x1 * dist (y0 + y2) y1 = 2 * (x0 * y0 + x2 * y2 + (x0 * y2 + x1 * y1 + x2 * y0)) ∧
        (x0 + x2 + x1) * (y0 + y2 + y1) - dist (x0 + x2) x1 * dist (y0 + y2) y1 = 2 * (x0 * y1 + x1 * y0 + (x1 * y2 + x2 * y1))) ∨
     (decide (x0 + x2 < x1) ≠ decide (y0 + y2 < y1) ∧ (x0 + x2 + x1) * (y0 + y2 + y1) + dist (x0 + x2) x1 * dist (y0 + y2) y1 = 2 * (x0 * y1 + x1 * y0 + (x1 * y2 + x2 * y1)) ∧
        (x0 + x2 + x1) * (y0 + y2 + y1) - dist (x0 + x2) x1 * dist (y0 + y2) y1 = 2 * (x0 * y0 + x2 * y2 + (x0 * y2 + x1 * y1 + x2 * y0)))) := by
  have e1 : (x0 + x2 + x1) * (y0 + y2 + y1) = (x0 + x2) * (y0 + y2) + x1 * y1 + ((x0 + x2) * y1 + x1 * (y0 + y2)) := by grind
  have e2 : (x0 + x2) * (y0 + y2) + x1 * y1 = x0 * y0 + x2 * y2 + (x0 * y2 + x1 * y1 + x2 * y0) := by grind
  have e3 : (x0 + x2) * y1 + x1 * (y0 + y2) = x0 * y1 + x1 * y0 + (x1 * y2 + x2 * y1) := by grind
  have hd := dist_mul (x0 + x2) x1 (y0 + y2) y1
  rw [e1]
  rw [e2, e3] at *
  generalize dist (x0 + x2) x1 * dist (y0 + y2) y1 = D at *
  generalize x0 * y0 + x2 * y2 + (x0 * y2 + x1 * y1 + x2 * y0) = E at *
  generalize x0 * y1 + x1 * y0 + (x1 * y2 + x2 * y1) = O at *
  rcases hd with ⟨hs, h⟩ | ⟨hs, h⟩
  · refine ⟨by omega, .inl ⟨?_, by omega, by omega⟩⟩
    exact decide_eq_decide.2 hs
  · refine ⟨by omega, .inr ⟨fun hc => hs (decide_eq_decide.1 hc), by omega, by omega⟩⟩

theorem toom_two (x0 x1 x2 y0 y1 y2 : Nat) : (x0 + (x1 * 2 ^ 1 + x2 * 2 ^ 2)) * (y0 + (y1 * 2 ^ 1 + y2 * 2 ^ 2)) =
    x0 * y0 + 2 * (x0 * y1 + x1 * y0) + 4 * (x0 * y2 + x1 * y1 + x2 * y0) + 8 * (x1 * y2 + x2 * y1) + 16 * (x2 * y2) := by
  simp only [Nat.reducePow]; grind

theorem toom_sum (x0 x1 x2 y0 y1 y2 P : Nat) : x0 * y0 + (x0 * y1 + x1 * y0) * P + (x0 * y2 + x1 * y1 + x2 * y0) * (P * P) + (x1 * y2 + x2 * y1) * (P * P * P) + x2 * y2 * (P * P * P * P) = (x0 + x1 * P + x2 * (P * P)) * (y0 + y1 * P + y2 * (P * P)) := by
  grind

/-- A natural is its thirds. -/
theorem thirds (a k : Nat) : a % 4294967296 ^ k + a / 4294967296 ^ k % 4294967296 ^ k * 4294967296 ^ k + a / 4294967296 ^ (2 * k) * (4294967296 ^ k * 4294967296 ^ k) = a := by
  have h1 := Nat.mod_add_div a (4294967296 ^ k)
  have h2 := Nat.mod_add_div (a / 4294967296 ^ k) (4294967296 ^ k)
  rw [Nat.div_div_eq_div_mul, ← Nat.pow_add, show k + k = 2 * k from by omega] at h2
  generalize a / 4294967296 ^ (2 * k) = u at *
  generalize a / 4294967296 ^ k = v at *
  generalize 4294967296 ^ k = P at *
  generalize v % P = z at *
  grind
end Go.Proofs.YtopbfgmpilnghaaDoor
