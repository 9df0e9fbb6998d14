/- The table of radix.powers: a row of naturals that grows; what is kept while it does. -/
import Derived.Test.YtopbfgmpilnghaaDoorPow
import Derived.Deep.RegionLaw
set_option linter.unusedVariables false
set_option linter.unusedSimpArgs false
namespace Go.Proofs.YtopbfgmpilnghaaDoor
open Go.RowKit

/-- A row of which no cell is a number. -/
def Sl (W : World) (g : Nat) (e : TypeId) (n cap : Nat) (vs : List Value) : Prop :=
  ∃ cur : Array Value, W.heap[g]? = some (.cells cur e (0, 0)) ∧ n ≤ cap ∧ cap ≤ maxLen ∧ cur.size = cap ∧ cur.toList.take n = vs ∧ (∀ x ∈ cur.toList, notInt x = true)
theorem Sl.solid {W : World} {g : Nat} {e : TypeId} {n cap : Nat} {vs : List Value} (h : Sl W g e n cap vs) : Solid W g := by
  obtain ⟨cur, hc, _, _, _, _, hn⟩ := h
  intro j k x e
  have e2 : cur[j]? = some (.int k x) := by simpa [World.cell?, hc] using e
  have := hn _ (by have := Array.mem_of_getElem? e2; simpa using this)
  cases this
theorem Sl.lt {W : World} {g : Nat} {e : TypeId} {n cap : Nat} {vs : List Value} (h : Sl W g e n cap vs) : g < W.heap.size := by
  obtain ⟨cur, hc, _⟩ := h
  exact (Array.getElem?_eq_some_iff.1 hc).1
theorem Sl.same {W W' : World} {g : Nat} {e : TypeId} {n cap : Nat} {vs : List Value} (h : Sl W g e n cap vs) (hb : W'.heap[g]? = W.heap[g]?) : Sl W' g e n cap vs := by
  obtain ⟨cur, hc, hr⟩ := h
  exact ⟨cur, hb.trans hc, hr⟩
theorem Sl.cell {W : World} {g : Nat} {e : TypeId} {n cap : Nat} {vs : List Value} (h : Sl W g e n cap vs) {j : Nat} {v : Value} (hv : vs[j]? = some v) : W.cell? ⟨g, j, none⟩ = some v := by
  obtain ⟨cur, hc, _, _, _, ht, _⟩ := h
  rw [← ht, List.getElem?_take] at hv
  simp only [World.cell?, hc]
  split at hv
  · simpa using hv
  · cases hv
theorem Sl.len {W : World} {g : Nat} {e : TypeId} {n cap : Nat} {vs : List Value} (h : Sl W g e n cap vs) : vs.length = n := by
  obtain ⟨cur, hc, hn, _, hs, ht, _⟩ := h
  rw [← ht, List.length_take, Array.length_toList]
  omega

theorem take_snoc_app (vs : List Value) (u : Value) (l : List Value) {n : Nat} (h : vs.length = n) : (vs ++ ([u] ++ l)).take (n + 1) = vs ++ [u] := by
  rw [← List.append_assoc, ← show (vs ++ [u]).length = n + 1 by simp [h]]
  exact List.take_left

/-- append of one element that is no number, as one step of a region -/
theorem step_append_sl {P : Program} {ops : Array Oper} {o : Oper} {a : Act} {w : World} {K : Act → World → Prop} {Q : Exit → Act → World → Prop} {E : Prop}
    (hg : o.guard = none) (s x : Operand) (t : TypeId) (hop : o.op = Op.call { callee := Callee.builtin Builtin.append, args := #[s, x], argTypes := #[t, t] })
    (e : TypeId) (i : TypeInfo) (z : Value) (bytes : Nat) (h1 : P.underlying t = some (.slice e)) (h2 : P.info? e = some i) (h3 : i.zero = some z) (h4 : i.size = 1) (h5 : i.bytes = bytes) (h6 : z.cells = #[z]) (h7 : notInt z = true)
    (g n cap : Nat) (vs : List Value) (hs : a.eval s = .slice (some ⟨g, 0, none⟩) n cap) (hsl : Sl w g e n cap vs)
    (ad : Addr) (c : Nat) (u : Value) (hx : a.eval x = .slice (some ad) 1 c) (hc : w.cell? ad = some u) (hu : notInt u = true) (hu1 : u.oneCell' = true)
    (b1 : n + 1 ≤ maxLen) (b2 : (n + 1) * bytes ≤ 140737488355328)
    (hK : ∀ g' cap' w', Sl w' g' e (n + 1) cap' (vs ++ [u]) → w.grownBy w' (some g) → (g' = g ∨ g' = w.heap.size) → K (a.put o.dst (.slice (some ⟨g', 0, none⟩) (n + 1) cap')) w') :
    if Region.wanted o (yielded ops a.tmps) = true then Oper.wp P o a w K Q else E := by
  have hw : Region.wanted o (yielded ops a.tmps) = true := by simp [Region.wanted, hg]
  rw [if_pos hw]
  have hlen := hsl.len
  have hcells : ∀ j v, vs[j]? = some v → w.cell? ((⟨g, 0, none⟩ : Addr).add j) = some v := fun j v hj => by
    rw [Addr.add_lit, Nat.zero_add]; exact hsl.cell hj
  have hnews : ∀ j v, [u][j]? = some v → w.cell? (ad.add j) = some v := fun j v hj => by
    rcases j with _ | j
    · simp at hj; subst hj
      have : ad.add 0 = ad := by cases ad; simp [Addr.add]
      rw [this]; exact hc
    · simp at hj
  obtain ⟨cur, hcur, hn, hm, hsz, ht, hni⟩ := hsl
  subst h5
  by_cases hroom : n + 1 ≤ cap
  · have hr := run_append_room (P := P) w t o.type e i h1 h2 g n cap cur hcur ad 1 c [u] (by simp [h4]) hnews (by simpa using hu1) hroom (by simp [h4]; omega)
    unfold Oper.wp
    simp [execOp, hop, resolve, invoke, builtin, hs, hx, hr, Result.andThen]
    refine hK g cap _ ⟨_, setRow_heap w g cur _ e _ hcur, hroom, hm, ?_, ?_, ?_⟩ ⟨rfl, rfl, rfl, by simp, fun k _ hk => setRow_other w g k _ (fun e => hk (by simp [e]))⟩ (.inl rfl)
    · simp [h4]; omega
    · simp only [h4, Nat.mul_one]
      rw [ht]
      exact take_snoc_app vs u _ hlen
    · intro y hy
      simp only [h4, Nat.mul_one, List.mem_append, List.mem_cons] at hy
      rcases hy with hy | rfl | hy
      · exact hni y (List.mem_of_mem_take hy)
      · exact hu
      · exact hni y (List.mem_of_mem_drop hy)
  · have hr := run_append_grow (P := P) w t o.type e i z h1 h2 h3 ⟨g, 0, none⟩ n cap vs (by rw [h4, hlen, Nat.mul_one]) hcells ad 1 c [u] (by simp [h4]) hnews (by omega) (by unfold maxLen at b1; omega) (growslice_fits (by omega) b2)
    unfold Oper.wp
    simp [execOp, hop, resolve, invoke, builtin, hs, hx, hr, Result.andThen]
    have hge := grownCap_ge w (n + 1) cap e
    refine hK _ _ _ ⟨_, heap_alloc_new w.drew _, hge, grownCap_le_maxLen w (n + 1) cap e b1, ?_, ?_, ?_⟩ ⟨rfl, rfl, rfl, by simp, fun k hk _ => heap_alloc_old w.drew _ hk⟩ (.inr rfl)
    · simp [size_zeroCells, h6, hlen]
      omega
    · simp only [Array.toList_append, List.append_assoc]
      exact take_snoc_app vs u _ hlen
    · intro y hy
      simp only [Array.toList_append, List.mem_append] at hy
      rcases hy with (hy | hy) | hy
      · have : y ∈ cur.toList.take n := by rw [ht]; simpa using hy
        exact hni y (List.mem_of_mem_take this)
      · simp at hy; subst hy; exact hu
      · simp only [Builtin.zeroCells, h6] at hy
        simp at hy
        obtain ⟨j, hj, rfl⟩ := hy
        rw [Nat.mod_one]
        exact h7

/-- What is kept while the table grows: all below B, and all that holds numbers. -/
structure Kept (B : Nat) (w w' : World) : Prop where
  below : Below B w w'
  size : w.heap.size ≤ w'.heap.size
  nums : ∀ b, b < w.heap.size → ¬ Solid w b → w'.heap[b]? = w.heap[b]?
theorem Solid.same {w w' : World} {b : Nat} (h : w'.heap[b]? = w.heap[b]?) : Solid w' b ↔ Solid w b := by
  unfold Solid
  constructor <;> intro hs j k x e
  · exact hs j k x ((World.cell?_of_block (w := w) (a := ⟨b, j, none⟩) h).trans e)
  · exact hs j k x ((World.cell?_of_block (w := w) (a := ⟨b, j, none⟩) h).symm.trans e)
theorem Kept.refl (B : Nat) (w : World) : Kept B w w := ⟨Below.refl _ _, Nat.le_refl _, fun _ _ _ => rfl⟩
theorem Kept.trans {B : Nat} {a b c : World} (h : Kept B a b) (k : Kept B b c) : Kept B a c :=
  ⟨h.below.trans k.below, Nat.le_trans h.size k.size, fun j hj hs => by
    have e := h.nums j hj hs
    rw [k.nums j (Nat.lt_of_lt_of_le hj h.size) (fun hs' => hs ((Solid.same e).1 hs'))]
    exact e⟩
theorem Kept.after {B : Nat} {w w' : World} (h : Below w.heap.size w w') (hB : B ≤ w.heap.size) : Kept B w w' := ⟨h.mono hB, h.size, fun b hb _ => h.block b hb⟩
theorem Rd.kept {B : Nat} {k : IntKind} {w w' : World} {v : Value} {n : Nat} {f : Nat → Nat} (h : Rd k w v n f) (hk : Kept B w w') : Rd k w' v n f := by
  obtain ⟨ao, cap, hv, hn, hc, hcells⟩ := h
  refine ⟨ao, cap, hv, hn, hc, fun h0 => ?_⟩
  obtain ⟨b, off, ha, hbl, hcl⟩ := hcells h0
  have hs : ¬ Solid w b := fun hs => hs (off + 0) k (f 0) (hcl 0 h0)
  exact ⟨b, off, ha, Nat.lt_of_lt_of_le hbl hk.size, fun j hj => (World.cell?_of_block (w := w) (a := ⟨b, off + j, none⟩) (hk.nums b hbl hs)).trans (hcl j hj)⟩
theorem Nt.kept {B : Nat} {w w' : World} {v : Value} {a : Nat} (h : Nt w v a) (hk : Kept B w w') : Nt w' v a := by
  obtain ⟨n, f, hr, h2⟩ := h
  exact ⟨n, f, hr.kept hk, h2⟩

/-- the base to the power of 5 times 2 to the power of k -/
def pw (base k : Nat) : Nat := base ^ (5 * 2 ^ k)
theorem pw_succ (base k : Nat) : pw base (k + 1) = pw base k * pw base k := by
  unfold pw
  rw [← Nat.pow_add]
  congr 1
  rw [Nat.pow_succ]
  omega

/-- The table: the variable P holds a row of powers. -/
structure Tab (base B P : Nat) (w : World) (n g cap : Nat) (vs : List Value) : Prop where
  pos : 0 < n
  box : Blk w P #[.slice (some ⟨g, 0, none⟩) n cap] 100
  row : Sl w g 22 n cap vs
  nats : ∀ i v, vs[i]? = some v → Nt w v (pw base i)
  low : B ≤ P
  lowg : B ≤ g
  bound : B ≤ w.heap.size
  few : n ≤ 1000000
theorem Tab.after {base B P : Nat} {w w' : World} {n g cap : Nat} {vs : List Value} (h : Tab base B P w n g cap vs) (hb : Below w.heap.size w w') : Tab base B P w' n g cap vs :=
  ⟨h.pos, (hb.block P h.box.lt).trans h.box, h.row.same (hb.block g h.row.lt), fun i v hv => (h.nats i v hv).below hb, h.low, h.lowg, Nat.le_trans h.bound hb.size, h.few⟩
/-- there is a table -/
def Tb (base B P : Nat) (w : World) : Prop := ∃ n g cap vs, Tab base B P w n g cap vs
theorem Tb.after {base B P : Nat} {w w' : World} (h : Tb base B P w) (hb : Below w.heap.size w w') : Tb base B P w' := by
  obtain ⟨n, g, cap, vs, t⟩ := h
  exact ⟨n, g, cap, vs, t.after hb⟩
end Go.Proofs.YtopbfgmpilnghaaDoor
