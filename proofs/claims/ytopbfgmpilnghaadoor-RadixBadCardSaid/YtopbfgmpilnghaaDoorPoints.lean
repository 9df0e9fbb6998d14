/- mul.points: a natural's values at 1, -1 and 2, taken as a polynomial of thirds. -/
import Derived.Test.YtopbfgmpilnghaaDoorCut
set_option linter.unusedVariables false
set_option linter.unusedSimpArgs false
namespace Go.Proofs.YtopbfgmpilnghaaDoor
open Go.RowKit

theorem trio_below {W W' : World} {H : Nat} {v0 v1 v2 : Value} (h : H < W.heap.size ∧ W.cell? ⟨H, 0, none⟩ = some v0 ∧ W.cell? ⟨H, 1, none⟩ = some v1 ∧ W.cell? ⟨H, 2, none⟩ = some v2) (t : Below W.heap.size W W') :
    H < W'.heap.size ∧ W'.cell? ⟨H, 0, none⟩ = some v0 ∧ W'.cell? ⟨H, 1, none⟩ = some v1 ∧ W'.cell? ⟨H, 2, none⟩ = some v2 :=
  ⟨by have := t.size; omega, (t.cell (p := ⟨H, 0, none⟩) h.1).trans h.2.1, (t.cell (p := ⟨H, 1, none⟩) h.1).trans h.2.2.1, (t.cell (p := ⟨H, 2, none⟩) h.1).trans h.2.2.2⟩
theorem trio_drew {W : World} {H : Nat} {v0 v1 v2 : Value} (h : H < W.heap.size ∧ W.cell? ⟨H, 0, none⟩ = some v0 ∧ W.cell? ⟨H, 1, none⟩ = some v1 ∧ W.cell? ⟨H, 2, none⟩ = some v2) :
    H < W.drew.heap.size ∧ W.drew.cell? ⟨H, 0, none⟩ = some v0 ∧ W.drew.cell? ⟨H, 1, none⟩ = some v1 ∧ W.drew.cell? ⟨H, 2, none⟩ = some v2 := h
theorem trio_alloc {W : World} {t : TypeId} (v0 v1 v2 : Value) : W.heap.size < (W.alloc (.cells #[v0, v1, v2] t)).heap.size ∧ (W.alloc (.cells #[v0, v1, v2] t)).cell? ⟨W.heap.size, 0, none⟩ = some v0 ∧
    (W.alloc (.cells #[v0, v1, v2] t)).cell? ⟨W.heap.size, 1, none⟩ = some v1 ∧ (W.alloc (.cells #[v0, v1, v2] t)).cell? ⟨W.heap.size, 2, none⟩ = some v2 := by
  have h := heap_alloc_new W (.cells #[v0, v1, v2] t)
  refine ⟨(Array.getElem?_eq_some_iff.1 h).1, ?_, ?_, ?_⟩ <;> (simp only [World.cell?]; rw [h]; rfl)

set_option maxRecDepth 100000 in
set_option maxHeartbeats 4000000 in
theorem points_any {N x0 x1 x2 : Nat} {v0 v1 v2 : Value} {w : World} (m0 : Nt w v0 x0) (m1 : Nt w v1 x1) (m2 : Nt w v2 x2) (hN : N ≤ 33554432) (l0 : limbs x0 ≤ N) (l1 : limbs x1 ≤ N) (l2 : limbs x2 ≤ N) :
    Calls Tryd.prog 108 #[.agg #[v0, v1, v2]] w fun e w' =>
      ∃ u0 u1 u2, e = .returned (.tuple #[u0, u1, u2, .bool (decide (x0 + x2 < x1))]) ∧ Nt w' u0 (x0 + x2 + x1) ∧ Nt w' u1 (dist (x0 + x2) x1) ∧ Nt w' u2 (x0 + (x1 * 2 ^ 1 + x2 * 2 ^ 2)) ∧ Below w.heap.size w w' := by
  obtain ⟨o0, c0, f0, rfl, -⟩ := m0.open
  obtain ⟨o1, c1, f1, rfl, -⟩ := m1.open
  obtain ⟨o2, c2, f2, rfl, -⟩ := m2.open
  have T : After w w := After.refl w
  have le := limbs_add_le l0 l2
  have s1 := limbs_shl x1 1
  have s2 := limbs_shl x2 2
  have s3 := limbs_add_le (n := N + 1) (show limbs (x1 * 2 ^ 1) ≤ N + 1 by omega) (show limbs (x2 * 2 ^ 2) ≤ N + 1 by omega)
  generalize hz0 : limbs x0 = z0 at *
  generalize hz1 : limbs x1 = z1 at *
  generalize hz2 : limbs x2 = z2 at *
  have l0' : limbs x0 ≤ N := by omega
  have l1' : limbs x1 ≤ N := by omega
  have l2' : limbs x2 ≤ N := by omega
  go_enter Tryd.func108, Tryd.ntmps108
  go_wp2_with fail
  have tr := trio_alloc (W := w) (t := 119) (.slice o0 z0 c0) (.slice o1 z1 c1) (.slice o2 z2 c2)
  have ta : Below w.heap.size w (w.alloc (.cells #[.slice o0 z0 c0, .slice o1 z1 c1, .slice o2 z2 c2] 119)) := (After.alloc T _).out
  replace m0 := m0.below ta
  replace m1 := m1.below ta
  replace m2 := m2.below ta
  replace T := After.alloc T (.cells #[.slice o0 z0 c0, .slice o1 z1 c1, .slice o2 z2 c2] 119)
  clear ta
  generalize w.alloc (.cells #[.slice o0 z0 c0, .slice o1 z1 c1, .slice o2 z2 c2] 119) = W0 at *
  generalize w.heap.size = H at tr ⊢
  (with_reducible refine (add_nt m0 m2 (by omega) (by omega)).mono ?_)
  rintro e W1 ⟨ve, rfl, ne, t⟩
  replace m0 := m0.below t
  replace m1 := m1.below t
  replace m2 := m2.below t
  replace T := After.t T t
  replace tr := trio_below tr t
  clear t
  go_wp2_with fail
  (with_reducible refine (add_nt ne m1 (by omega) (by omega)).mono ?_)
  rintro e W2 ⟨u0, rfl, n0, t⟩
  replace m0 := m0.below t
  replace m1 := m1.below t
  replace m2 := m2.below t
  replace ne := ne.below t
  replace T := After.t T t
  replace tr := trio_below tr t
  clear t
  go_wp2_with fail
  (with_reducible refine (apart_nt ne m1 (by omega) (by omega)).mono ?_)
  rintro e W3 ⟨u1, rfl, n1, t⟩
  replace m0 := m0.below t
  replace m1 := m1.below t
  replace m2 := m2.below t
  replace n0 := n0.below t
  replace T := After.t T t
  replace tr := trio_below tr t
  clear t ne
  go_wp2_with fail
  have tr' := trio_drew tr
  go_region_held3 (fun W => H < W.heap.size ∧ W.cell? ⟨H, 0, none⟩ = some (.slice o0 z0 c0) ∧ W.cell? ⟨H, 1, none⟩ = some (.slice o1 z1 c1) ∧ W.cell? ⟨H, 2, none⟩ = some (.slice o2 z2 c2))
    (first | exact tr' | exact trio_below (by assumption) (by assumption))
    (first
      | (go_at_call 79; (with_reducible refine (shl_int (m1.below (Drawn.below (Drawn.refl W3).d)) (by omega) 1 1 rfl (by omega)).mono ?_); rintro e W4 ⟨s1v, rfl, q1, t1⟩)
      | (go_at_call 79; (with_reducible refine (shl_int ((m2.below (Drawn.below (Drawn.refl W3).d)).below t1) (by omega) 2 2 rfl (by omega)).mono ?_); rintro e W5 ⟨s2v, rfl, q2, t2⟩)
      | (go_at_call 74; (with_reducible refine (add_nt (q1.below t2) q2 (by omega) (by omega)).mono ?_); rintro e W6 ⟨s3v, rfl, q3, t3⟩)
      | (go_at_call 74; (with_reducible refine (add_nt ((((m0.below (Drawn.below (Drawn.refl W3).d)).below t1).below t2).below t3) q3 (by omega) (by omega)).mono ?_); rintro e W7 ⟨s4v, rfl, q4, t4⟩))
  have d := Drawn.below (B := W3.heap.size) (Drawn.refl W3).d
  go_wp2_with fail
  refine bodyPost_ret (v := .tuple #[u0, u1, s4v, .bool (decide (x0 + x2 < x1))]) (by simp [results, Tryd.f108]) rfl ?_
  exact ⟨_, _, _, rfl, ((((n0.below d).below t1).below t2).below t3).below t4, ((((n1.below d).below t1).below t2).below t3).below t4, q4, After.t (After.t (After.t (After.t (After.t T d) t1) t2) t3) t4⟩
end Go.Proofs.YtopbfgmpilnghaaDoor
