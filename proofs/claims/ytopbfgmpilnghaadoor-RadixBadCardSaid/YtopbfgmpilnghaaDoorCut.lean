/- mul.Toom's closure that cuts a natural into three; mul.points. -/
import Derived.Test.YtopbfgmpilnghaaDoorKara
import Derived.Deep.RegionHeld3
set_option linter.unusedVariables false
set_option linter.unusedSimpArgs false
namespace Go.Proofs.YtopbfgmpilnghaaDoor
open Go.RowKit

theorem part_mid {v : Value} {a : Nat} {w : World} (ha : Nt w v a) (la : limbs a ≤ 536870912) (fr to : Int) (x y : Nat) (hf : fr = (x : Int)) (ht : to = (y : Int)) (hxy : y = x + x) (hy : y ≤ 4611686018427387904) :
    Calls Tryd.prog 104 #[v, .int .i64 fr, .int .i64 to] w fun e w' => ∃ v, e = .returned v ∧ Nt w' v (a / 4294967296 ^ x % 4294967296 ^ x) ∧ Below w.heap.size w w' := by
  have := part_nt ha la fr to x y hf ht (by omega) hy
  rw [show y - x = x from by omega] at this
  exact this

/-- No number lies in the block H. -/
def Solid (W : World) (H : Nat) : Prop := ∀ (j : Nat) (k : IntKind) (x : Int), W.cell? ⟨H, j, none⟩ ≠ some (.int k x)
/-- A natural is kept while a block without numbers is written. -/
theorem Nt.but {W W' : World} {H : Nat} {v : Value} {a : Nat} (h : Nt W v a) (hs : W.heap.size ≤ W'.heap.size) (hb : ∀ b, b < W.heap.size → b ≠ H → W'.heap[b]? = W.heap[b]?) (hn : Solid W H) : Nt W' v a := by
  obtain ⟨n, f, ⟨ao, cap, hv, hc, hm, hcells⟩, hf, hN, hx⟩ := h
  refine ⟨n, f, ⟨ao, cap, hv, hc, hm, fun h0 => ?_⟩, hf, hN, hx⟩
  obtain ⟨b, off, ha, hbl, hcl⟩ := hcells h0
  have hne : b ≠ H := fun e => hn (off + 0) .u32 (f 0) (by rw [← e]; exact hcl 0 h0)
  exact ⟨b, off, ha, by omega, fun j hj => (World.cell?_of_block (w := W) (hb b hbl hne)).trans (hcl j hj)⟩
def notInt : Value → Bool
  | .int _ _ => false
  | _ => true

/-- The variable of three naturals at the place H. -/
def Row3 (W : World) (H : Nat) (t : TypeId) : Prop := ∃ cs : Array Value, W.heap[H]? = some (.cells cs t (0, 0)) ∧ cs.size = 3 ∧ cs.all notInt = true
theorem Row3.solid {W : World} {H : Nat} {t : TypeId} (h : Row3 W H t) : Solid W H := by
  obtain ⟨cs, hc, hs, hn⟩ := h
  intro j k x e
  have e2 : cs[j]? = some (.int k x) := by simpa [World.cell?, hc] using e
  have := Array.all_eq_true_iff_forall_mem.1 hn _ (Array.mem_of_getElem? e2)
  cases this
def at3 (W : World) (H i : Nat) : Value := (W.cell? ⟨H, i, none⟩).getD undef
theorem Row3.cell {W : World} {H : Nat} {t : TypeId} (h : Row3 W H t) {i : Nat} (hi : i < 3) : W.cell? ⟨H, i, none⟩ = some (at3 W H i) := by
  obtain ⟨cs, hc, hs, hn⟩ := h
  simp only [at3, World.cell?, hc]
  simp [show i < cs.size from by omega]
theorem Row3.free {W : World} {H : Nat} {t : TypeId} (h : Row3 W H t) (i : Nat) : W.frozen? ⟨H, i, none⟩ = false := by
  obtain ⟨cs, hc, hs, hn⟩ := h
  simp [World.frozen?, hc]
theorem Row3.set {W : World} {H : Nat} {t : TypeId} (h : Row3 W H t) (i : Nat) (v : Value) (hv : notInt v = true) : Row3 (W.setCell ⟨H, i, none⟩ v) H t := by
  obtain ⟨cs, hc, hs, hn⟩ := h
  refine ⟨cs.setIfInBounds i v, by simp [World.setCell, Array.getElem?_modify, hc], by simpa using hs, ?_⟩
  rw [Array.all_eq_true_iff_forall_mem] at hn ⊢
  intro x hx
  obtain ⟨j, hj⟩ := Array.mem_iff_getElem?.1 hx
  rw [Array.getElem?_setIfInBounds] at hj
  split at hj
  · split at hj
    · cases hj; exact hv
    · cases hj
  · exact hn x (Array.mem_of_getElem? hj)
theorem Row3.same {W W' : World} {H : Nat} {t : TypeId} (h : Row3 W H t) (e : W'.heap[H]? = W.heap[H]?) : Row3 W' H t := by
  obtain ⟨cs, hc, hs, hn⟩ := h
  exact ⟨cs, e.trans hc, hs, hn⟩
theorem Row3.lt {W : World} {H : Nat} {t : TypeId} (h : Row3 W H t) : H < W.heap.size := by
  obtain ⟨cs, hc, hs, hn⟩ := h
  exact (Array.getElem?_eq_some_iff.1 hc).1

theorem Row3.full {W : World} {H : Nat} {t : TypeId} (h : Row3 W H t) (v0 v1 v2 : Value) :
    (((W.setCell ⟨H, 0, none⟩ v0).setCell ⟨H, 1, none⟩ v1).setCell ⟨H, 2, none⟩ v2).heap[H]? = some (.cells #[v0, v1, v2] t (0, 0)) := by
  obtain ⟨cs, hc, hs, hn⟩ := h
  simp only [World.setCell, Array.getElem?_modify, hc, if_true, Option.map_some]
  congr 2
  apply Array.ext (by simp [hs])
  intro i h1 h2
  simp at h2
  rcases i with _ | _ | _ | i
  · simp [Array.getElem_setIfInBounds, hs]
  · simp [Array.getElem_setIfInBounds, hs]
  · simp [Array.getElem_setIfInBounds, hs]
  · omega
theorem Row3.others {W : World} {H : Nat} (v0 v1 v2 : Value) {B : Nat} (hB : B ≠ H) :
    (((W.setCell ⟨H, 0, none⟩ v0).setCell ⟨H, 1, none⟩ v1).setCell ⟨H, 2, none⟩ v2).heap[B]? = W.heap[B]? := by
  rw [Below.heap_setCell _ _ _ _ hB, Below.heap_setCell _ _ _ _ hB, Below.heap_setCell _ _ _ _ hB]
theorem Row3.keeps {W : World} {H : Nat} {t : TypeId} (h : Row3 W H t) (v0 v1 v2 : Value) {v : Value} {a : Nat} (ha : Nt W v a) :
    Nt (((W.setCell ⟨H, 0, none⟩ v0).setCell ⟨H, 1, none⟩ v1).setCell ⟨H, 2, none⟩ v2) v a :=
  ha.but (by simp [World.setCell]) (fun b _ hne => Row3.others v0 v1 v2 hne) h.solid

/-- What stays while the closure cuts: the two boxes; what was there; the variable of three. -/
def Cutting (w : World) (Bk Bn : Nat) (x y : Value) (t : TypeId) (W : World) : Prop :=
  W.cell? ⟨Bk, 0, none⟩ = some x ∧ W.cell? ⟨Bn, 0, none⟩ = some y ∧ After w W ∧ Row3 W w.heap.size t ∧
  W.cell? ⟨w.heap.size, 0, none⟩ = some (at3 W w.heap.size 0) ∧ W.cell? ⟨w.heap.size, 1, none⟩ = some (at3 W w.heap.size 1) ∧ W.cell? ⟨w.heap.size, 2, none⟩ = some (at3 W w.heap.size 2) ∧
  W.frozen? ⟨w.heap.size, 0, none⟩ = false ∧ W.frozen? ⟨w.heap.size, 1, none⟩ = false ∧ W.frozen? ⟨w.heap.size, 2, none⟩ = false

theorem Cutting.of {w W : World} {Bk Bn : Nat} {x y : Value} {t : TypeId} (h1 : W.cell? ⟨Bk, 0, none⟩ = some x) (h2 : W.cell? ⟨Bn, 0, none⟩ = some y) (h3 : After w W) (h4 : Row3 W w.heap.size t) : Cutting w Bk Bn x y t W :=
  ⟨h1, h2, h3, h4, h4.cell (by omega), h4.cell (by omega), h4.cell (by omega), h4.free 0, h4.free 1, h4.free 2⟩

theorem box_start {w : World} {Bk Bn : Nat} {x y : Value} {cs : Array Value} {t : TypeId} (hk : w.cell? ⟨Bk, 0, none⟩ = some x) (hn : w.cell? ⟨Bn, 0, none⟩ = some y) (h1 : Bk < w.heap.size) (h2 : Bn < w.heap.size) (hc : cs.size = 3) (hni : cs.all notInt = true) :
    Cutting w Bk Bn x y t (w.alloc (.cells cs t)).drew :=
  Cutting.of ((World.cell?_of_block (w := w) (heap_alloc_old w _ h1)).trans hk) ((World.cell?_of_block (w := w) (heap_alloc_old w _ h2)).trans hn) (Below.drew ((Below.refl _ w).alloc (Nat.le_refl _) _)) ⟨cs, heap_alloc_new w _, hc, hni⟩

theorem box_step {w W W' : World} {Bk Bn : Nat} {x y : Value} {t : TypeId} (h1 : Bk < w.heap.size) (h2 : Bn < w.heap.size)
    (h : Cutting w Bk Bn x y t W) (b : Below W.heap.size W W') : Cutting w Bk Bn x y t W' := by
  obtain ⟨hk, hn, ha, hr, _⟩ := h
  have hs := Below.size ha.out
  exact Cutting.of ((b.cell (p := ⟨Bk, 0, none⟩) (show Bk < W.heap.size by omega)).trans hk) ((b.cell (p := ⟨Bn, 0, none⟩) (show Bn < W.heap.size by omega)).trans hn) (After.t ha b) (hr.same (b.block _ hr.lt))

theorem box_set {w W : World} {Bk Bn : Nat} {x y : Value} {t : TypeId} (h1 : Bk < w.heap.size) (h2 : Bn < w.heap.size)
    (h : Cutting w Bk Bn x y t W) (v0 v1 v2 : Value) (g0 : notInt v0 = true) (g1 : notInt v1 = true) (g2 : notInt v2 = true) : Cutting w Bk Bn x y t (((W.setCell ⟨w.heap.size, 0, none⟩ v0).setCell ⟨w.heap.size, 1, none⟩ v1).setCell ⟨w.heap.size, 2, none⟩ v2) := by
  obtain ⟨hk, hn, ha, hr, _⟩ := h
  have e : ∀ B, B < w.heap.size → (((W.setCell ⟨w.heap.size, 0, none⟩ v0).setCell ⟨w.heap.size, 1, none⟩ v1).setCell ⟨w.heap.size, 2, none⟩ v2).heap[B]? = W.heap[B]? := fun B hB => by
    rw [Below.heap_setCell _ _ _ _ (by dsimp only; omega), Below.heap_setCell _ _ _ _ (by dsimp only; omega), Below.heap_setCell _ _ _ _ (by dsimp only; omega)]
  exact Cutting.of ((World.cell?_of_block (w := W) (e _ h1)).trans hk) ((World.cell?_of_block (w := W) (e _ h2)).trans hn)
    (((Below.setCell ha (Nat.le_refl _) v0).setCell (Nat.le_refl _) v1).setCell (Nat.le_refl _) v2) (((hr.set 0 v0 g0).set 1 v1 g1).set 2 v2 g2)

set_option maxRecDepth 100000 in
set_option maxHeartbeats 4000000 in
theorem cut_any {Bk Bn k n : Nat} {va : Value} {a : Nat} {w : World} (na : Nt w va a) (la : limbs a ≤ n) (hn : n ≤ 33554432) (hkn : 2 * k ≤ n)
    (hk : w.cell? ⟨Bk, 0, none⟩ = some (.int .i64 k)) (hb : w.cell? ⟨Bn, 0, none⟩ = some (.int .i64 n)) (hBk : Bk < w.heap.size) (hBn : Bn < w.heap.size) :
    Calls Tryd.prog 107 #[va, .pointer (some ⟨Bk, 0, none⟩), .pointer (some ⟨Bn, 0, none⟩)] w fun e w' =>
      ∃ v0 v1 v2, e = .returned (.agg #[v0, v1, v2]) ∧ Nt w' v0 (a % 4294967296 ^ k) ∧ Nt w' v1 (a / 4294967296 ^ k % 4294967296 ^ k) ∧ Nt w' v2 (a / 4294967296 ^ (2 * k)) ∧ Below w.heap.size w w' := by
  have HNA := Lib.hid na
  clear na
  go_enter Tryd.func107, Tryd.ntmps107
  go_wp2_with fail
  have hst := box_start (cs := #[.slice none 0 0, .slice none 0 0, .slice none 0 0]) (t := 119) hk hb hBk hBn rfl (by simp [notInt])
  have e1 : IntKind.i64.wrap (2 * (k : Int)) = 2 * (k : Int) := IntWalk.i64_in _ (by omega)
  unfold Cutting at hst
  go_region_held3 (fun W => W.cell? ⟨Bk, 0, none⟩ = some (.int .i64 k) ∧ W.cell? ⟨Bn, 0, none⟩ = some (.int .i64 n) ∧ After w W ∧ Row3 W w.heap.size 119 ∧
      W.cell? ⟨w.heap.size, 0, none⟩ = some (at3 W w.heap.size 0) ∧ W.cell? ⟨w.heap.size, 1, none⟩ = some (at3 W w.heap.size 1) ∧ W.cell? ⟨w.heap.size, 2, none⟩ = some (at3 W w.heap.size 2) ∧
      W.frozen? ⟨w.heap.size, 0, none⟩ = false ∧ W.frozen? ⟨w.heap.size, 1, none⟩ = false ∧ W.frozen? ⟨w.heap.size, 2, none⟩ = false)
    (first | exact hst | exact box_step hBk hBn (by assumption) (by assumption) | exact box_set hBk hBn (by assumption) _ _ _ rfl rfl rfl)
    (first
      | (go_at_call 104; (with_reducible refine (part_low (HNA.out.below hst.2.2.1.out) (by omega) (k : Int) k rfl (by omega)).mono ?_); rintro e W1 ⟨v0, rfl, n0, t1⟩; obtain ⟨o0, c0, f0, rfl, _⟩ := n0.open)
      | (go_at_call 104; (with_reducible refine (part_mid (HNA.out.below (After.t hst.2.2.1 t1).out) (by omega) _ _ k (2 * k) (by omega) (by omega) (by omega) (by omega)).mono ?_); rintro e W2 ⟨v1, rfl, n1, t2⟩; obtain ⟨o1, c1, f1, rfl, _⟩ := n1.open)
      | (go_at_call 104; (with_reducible refine (part_high (HNA.out.below (After.t (After.t hst.2.2.1 t1) t2).out) (by omega) _ _ (2 * k) n (by omega) (by omega) (by omega) (by omega) la).mono ?_); rintro e W3 ⟨v2, rfl, n2, t3⟩; obtain ⟨o2, c2, f2, rfl, _⟩ := n2.open))
  go_wp2_with fail
  have hC := box_step hBk hBn (box_step hBk hBn (box_step hBk hBn hst t1) t2) t3
  have hR := hC.2.2.2.1
  refine bodyPost_ret (v := .agg #[_, _, _]) ?_ rfl ⟨_, _, _, rfl, hR.keeps _ _ _ ((n0.below t2).below t3), hR.keeps _ _ _ (n1.below t3), hR.keeps _ _ _ n2, ((Below.setCell hC.2.2.1 (Nat.le_refl _) _).setCell (Nat.le_refl _) _).setCell (Nat.le_refl _) _⟩
  simp [results, Tryd.f107]
  exact run_loadVar_row _ _ _ _ _ _ _ (hR.full _ _ _) rfl rfl rfl
end Go.Proofs.YtopbfgmpilnghaaDoor
