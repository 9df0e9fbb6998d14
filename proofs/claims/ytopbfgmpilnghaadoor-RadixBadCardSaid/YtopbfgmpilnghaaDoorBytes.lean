/- A row of bytes that the call itself made: append to it; what is kept meanwhile. nat.Low. -/
import Derived.Test.YtopbfgmpilnghaaDoorDigits
set_option linter.unusedVariables false
set_option linter.unusedSimpArgs false
namespace Go.Proofs.YtopbfgmpilnghaaDoor
open Go.RowKit

def isU8 : Value → Bool
  | .int .u8 _ => true
  | _ => false

/-- All cells of the block are such. -/
def Alike (p : Value → Bool) (W : World) (b : Nat) : Prop := ∀ (j : Nat) (v : Value), W.cell? ⟨b, j, none⟩ = some v → p v = true
theorem Alike.same {p : Value → Bool} {w w' : World} {b : Nat} (h : w'.heap[b]? = w.heap[b]?) : Alike p w' b ↔ Alike p w b := by
  unfold Alike
  constructor <;> intro hs j v e
  · exact hs j v ((World.cell?_of_block (w := w) (a := ⟨b, j, none⟩) h).trans e)
  · exact hs j v ((World.cell?_of_block (w := w) (a := ⟨b, j, none⟩) h).symm.trans e)

/-- A row in memory of the call's own, all of whose cells are such; or nil. -/
def RowP (p : Value → Bool) (base : Nat) (e : TypeId) (W : World) (v : Value) (xs : List Value) : Prop :=
  (v = .slice none 0 0 ∧ xs = []) ∨ ∃ g cap cur, v = .slice (some ⟨g, 0, none⟩) xs.length cap ∧ base ≤ g ∧ W.heap[g]? = some (.cells cur e (0, 0)) ∧ xs.length ≤ cap ∧ cap ≤ maxLen ∧ cur.size = cap ∧ cur.toList.take xs.length = xs ∧ (∀ x ∈ cur.toList, p x = true)
theorem RowP.nil (p : Value → Bool) (base : Nat) (e : TypeId) (W : World) : RowP p base e W (.slice none 0 0) [] := .inl ⟨rfl, rfl⟩
theorem RowP.same {p : Value → Bool} {base : Nat} {e : TypeId} {W W' : World} {v : Value} {xs : List Value} (h : RowP p base e W v xs) (hb : ∀ g, v.ownBlock = some g → W'.heap[g]? = W.heap[g]?) : RowP p base e W' v xs := by
  rcases h with h | ⟨g, cap, cur, rfl, h1, h2, h3⟩
  · exact .inl h
  · exact .inr ⟨g, cap, cur, rfl, h1, (hb g rfl).trans h2, h3⟩
theorem RowP.low {p : Value → Bool} {base base' : Nat} {e : TypeId} {W : World} {v : Value} {xs : List Value} (h : RowP p base e W v xs) (hb : base' ≤ base) : RowP p base' e W v xs := by
  rcases h with h | ⟨g, cap, cur, rfl, h1, h2, h3⟩
  · exact .inl h
  · exact .inr ⟨g, cap, cur, rfl, Nat.le_trans hb h1, h2, h3⟩
theorem RowP.lt {p : Value → Bool} {base : Nat} {e : TypeId} {W : World} {v : Value} {xs : List Value} (h : RowP p base e W v xs) {g : Nat} (hg : v.ownBlock = some g) : g < W.heap.size ∧ base ≤ g := by
  rcases h with ⟨rfl, _⟩ | ⟨g', cap, cur, rfl, h1, h2, h3⟩
  · cases hg
  · cases hg
    exact ⟨(Array.getElem?_eq_some_iff.1 h2).1, h1⟩
theorem RowP.alike {p : Value → Bool} {base : Nat} {e : TypeId} {W : World} {v : Value} {xs : List Value} (h : RowP p base e W v xs) {g : Nat} (hg : v.ownBlock = some g) : Alike p W g := by
  rcases h with ⟨rfl, _⟩ | ⟨g', cap, cur, rfl, h1, h2, h3, h4, h5, h6, h7⟩
  · cases hg
  · cases hg
    intro j u hu
    have e2 : cur[j]? = some u := by simpa [World.cell?, h2] using hu
    exact h7 _ (by have := Array.mem_of_getElem? e2; simpa using this)
theorem RowP.after {p : Value → Bool} {base : Nat} {e : TypeId} {W W' : World} {v : Value} {xs : List Value} (h : RowP p base e W v xs) (hb : Below W.heap.size W W') : RowP p base e W' v xs := h.same (fun g hg => hb.block g (h.lt hg).1)

section
variable {P : Program} (w : World)
theorem take_app (vs us : List Value) (l : List Value) {n : Nat} (h : vs.length = n) : (vs ++ (us ++ l)).take (n + us.length) = vs ++ us := by
  rw [← List.append_assoc, ← h, ← List.length_append]
  exact List.take_left

/-- append to such a row -/
theorem run_append_p (p : Value → Bool) (base : Nat) (t ty e : TypeId) (i : TypeInfo) (z : Value) (bytes : Nat) (ht : P.underlying t = some (.slice e)) (hi : P.info? e = some i) (hz : i.zero = some z)
    (hsize : i.size = 1) (hby : i.bytes = bytes) (hzs : z.cells = #[z]) (hpz : p z = true) (v : Value) (xs : List Value) (hown : RowP p base e w v xs)
    (a : Addr) (m c : Nat) (news : List Value) (hl : news.length = m) (hnews : ∀ j u, news[j]? = some u → w.cell? (a.add j) = some u) (h1 : ∀ u ∈ news, u.oneCell' = true) (hp : ∀ u ∈ news, p u = true) (hm : 0 < m)
    (h63 : xs.length + m ≤ maxLen) (hbytes : (xs.length + m) * bytes ≤ 140737488355328) (hbase : base ≤ w.heap.size) :
    ∃ v' w', (Builtin.append_ #[t, t] ty #[v, .slice (some a) m c]).run P w = .ok v' w' ∧ RowP p base e w' v' (xs ++ news) ∧ w.grownBy w' v.ownBlock ∧ v'.ownBlock ≠ none := by
  subst hby
  have hll : (xs ++ news).length = xs.length + m := by rw [List.length_append, hl]
  rcases hown with ⟨rfl, rfl⟩ | ⟨g, cap, cur, rfl, hbg, hg, hnc, hcm, hcs, htake, hall⟩
  · have hr := run_append_nil (P := P) w t ty e i z ht hi hz a m c news (by rw [hsize, hl, Nat.mul_one]) hnews hm (by unfold maxLen at h63; simp at h63; omega) (by simp at hbytes; omega)
    have hge := grownCap_ge w m 0 e
    refine ⟨_, _, hr, .inr ⟨w.heap.size, _, _, ?_, hbase, heap_alloc_new w.drew _, ?_, grownCap_le_maxLen w m 0 e (by simpa using h63), ?_, ?_, ?_⟩, ⟨rfl, rfl, rfl, by simp, fun k hk _ => heap_alloc_old w.drew _ hk⟩, by simp [Value.ownBlock]⟩
    · rw [hll]; simp
    · rw [hll]; simp; omega
    · simp [size_zeroCells, hzs, hl]; omega
    · have := take_app [] news (Builtin.zeroCells z.cells (grownCap w m 0 e - m)).toList rfl
      simp
    · intro y hy
      simp only [Array.toList_append, List.mem_append] at hy
      rcases hy with hy | hy
      · exact hp y (by simpa using hy)
      · simp only [Builtin.zeroCells, hzs] at hy
        simp at hy
        obtain ⟨j, hj, rfl⟩ := hy
        rw [Nat.mod_one]
        exact hpz
  · by_cases hroom : xs.length + m ≤ cap
    · have hr := run_append_room (P := P) w t ty e i ht hi g xs.length cap cur hg a m c news (by rw [hsize, hl, Nat.mul_one]) hnews h1 hroom (by rw [hsize, hl]; omega)
      refine ⟨_, _, hr, .inr ⟨g, cap, _, by rw [hll], hbg, setRow_heap w g cur _ e _ hg, by rw [hll]; exact hroom, hcm, ?_, ?_, ?_⟩, ⟨rfl, rfl, rfl, by simp, fun k _ hk => setRow_other w g k _ (fun e => hk (by simp [Value.ownBlock, e]))⟩, by simp [Value.ownBlock]⟩
      · simp [hsize, hl]; omega
      · simp only [hsize, Nat.mul_one, List.append_assoc]
        rw [htake, hll, ← hl]
        exact take_app xs news _ rfl
      · intro y hy
        simp only [hsize, Nat.mul_one, List.mem_append] at hy
        rcases hy with (hy | hy) | hy
        · exact hall y (List.mem_of_mem_take hy)
        · exact hp y hy
        · exact hall y (List.mem_of_mem_drop hy)
    · have hcells : ∀ j u, xs[j]? = some u → w.cell? ((⟨g, 0, none⟩ : Addr).add j) = some u := fun j u hj => by
        rw [Addr.add_lit, Nat.zero_add]
        rw [← htake, List.getElem?_take] at hj
        simp only [World.cell?, hg]
        split at hj
        · simpa using hj
        · cases hj
      have hr := run_append_grow (P := P) w t ty e i z ht hi hz ⟨g, 0, none⟩ xs.length cap xs (by rw [hsize, Nat.mul_one]) hcells a m c news (by rw [hsize, hl, Nat.mul_one]) hnews (by omega) (by unfold maxLen at h63; omega) (growslice_fits (by omega) hbytes)
      have hge := grownCap_ge w (xs.length + m) cap e
      refine ⟨_, _, hr, .inr ⟨w.heap.size, _, _, by rw [hll], hbase, heap_alloc_new w.drew _, by rw [hll]; exact hge, grownCap_le_maxLen w (xs.length + m) cap e h63, ?_, ?_, ?_⟩, ⟨rfl, rfl, rfl, by simp, fun k hk _ => heap_alloc_old w.drew _ hk⟩, by simp [Value.ownBlock]⟩
      · simp [size_zeroCells, hzs, hl]; omega
      · have := take_app xs news (Builtin.zeroCells z.cells (grownCap w (xs.length + m) cap e - (xs.length + m))).toList rfl
        rw [hll, ← hl]
        simpa [hl] using this
      · intro y hy
        simp only [Array.toList_append, List.mem_append] at hy
        rcases hy with (hy | hy) | hy
        · have : y ∈ cur.toList.take xs.length := by rw [htake]; simpa using hy
          exact hall y (List.mem_of_mem_take this)
        · exact hp y (by simpa using hy)
        · simp only [Builtin.zeroCells, hzs] at hy
          simp at hy
          obtain ⟨j, hj, rfl⟩ := hy
          rw [Nat.mod_one]
          exact hpz

theorem wpList_append_p {ops : Array Oper} {rest : List Oper} {o : Oper} {a : Act} {Q : Exit → Act → World → Prop} (hgd : o.guard = none) (s x : Operand) (t : TypeId)
    (ho : o.op = .call { callee := .builtin .append, args := #[s, x], argTypes := #[t, t] })
    (p : Value → Bool) (base : Nat) (e : TypeId) (i : TypeInfo) (z : Value) (bytes : Nat) (ht : P.underlying t = some (.slice e)) (hi : P.info? e = some i) (hz : i.zero = some z)
    (hsize : i.size = 1) (hby : i.bytes = bytes) (hzs : z.cells = #[z]) (hpz : p z = true) (v : Value) (xs : List Value) (hs : a.eval s = v) (hown : RowP p base e w v xs)
    (ad : Addr) (m c : Nat) (news : List Value) (hx : a.eval x = .slice (some ad) m c) (hl : news.length = m) (hnews : ∀ j u, news[j]? = some u → w.cell? (ad.add j) = some u) (h1 : ∀ u ∈ news, u.oneCell' = true) (hp : ∀ u ∈ news, p u = true) (hm : 0 < m)
    (h63 : xs.length + m ≤ maxLen) (hbytes : (xs.length + m) * bytes ≤ 140737488355328) (hbase : base ≤ w.heap.size)
    (h : ∀ v' w', RowP p base e w' v' (xs ++ news) → w.grownBy w' v.ownBlock → wpList P ops Q rest (a.put o.dst v') w') : wpList P ops Q (o :: rest) a w := by
  refine wpList_plain hgd fun K hK => ?_
  obtain ⟨v', w', hr, h2, h3, h4⟩ := run_append_p (P := P) w p base t o.type e i z bytes ht hi hz hsize hby hzs hpz v xs hown ad m c news hl hnews h1 hp hm h63 hbytes hbase
  unfold Oper.wp execOp
  simp only [ho, resolve, invoke, builtin, Sem.run_bind, Sem.run_pure, Result.andThen_ok, List.map_toArray, List.map_cons, List.map_nil, hs, hx, hr]
  exact hK _ _ (h v' w' h2 h3)
end

/-- What is kept: all below B, and each block that holds something else than such cells. -/
structure KeptP (p : Value → Bool) (B : Nat) (w w' : World) : Prop where
  below : Below B w w'
  size : w.heap.size ≤ w'.heap.size
  nums : ∀ b, b < w.heap.size → ¬ Alike p w b → w'.heap[b]? = w.heap[b]?
theorem KeptP.refl (p : Value → Bool) (B : Nat) (w : World) : KeptP p B w w := ⟨Below.refl _ _, Nat.le_refl _, fun _ _ _ => rfl⟩
theorem KeptP.trans {p : Value → Bool} {B : Nat} {a b c : World} (h : KeptP p B a b) (k : KeptP p B b c) : KeptP p B a c :=
  ⟨h.below.trans k.below, Nat.le_trans h.size k.size, fun j hj hs => by
    have e := h.nums j hj hs
    rw [k.nums j (Nat.lt_of_lt_of_le hj h.size) (fun hs' => hs ((Alike.same e).1 hs'))]
    exact e⟩
theorem KeptP.after {p : Value → Bool} {B : Nat} {w w' : World} (h : Below w.heap.size w w') (hB : B ≤ w.heap.size) : KeptP p B w w' := ⟨h.mono hB, h.size, fun b hb _ => h.block b hb⟩
theorem KeptP.grown {p : Value → Bool} {B : Nat} {e : TypeId} {w w' : World} {v : Value} {xs : List Value} (h : RowP p B e w v xs) (hg : w.grownBy w' v.ownBlock) (hB : B ≤ w.heap.size) : KeptP p B w w' :=
  ⟨Below.grown (Below.refl _ _) hg hB (fun k e => (h.lt e).2), hg.size, fun b hb hn => hg.block b hb (fun e => hn (h.alike e.symm))⟩
theorem Rd.keptP {p : Value → Bool} {B : Nat} {k : IntKind} {w w' : World} {v : Value} {n : Nat} {f : Nat → Nat} (h : Rd k w v n f) (hk : KeptP p B w w') (hp : ∀ x, p (.int k x) = false) : Rd k w' v n f := by
  obtain ⟨ao, cap, hv, hn, hc, hcells⟩ := h
  refine ⟨ao, cap, hv, hn, hc, fun h0 => ?_⟩
  obtain ⟨b, off, ha, hbl, hcl⟩ := hcells h0
  have hs : ¬ Alike p w b := fun hs => by
    have := hs (off + 0) _ (hcl 0 h0)
    rw [hp] at this
    cases this
  exact ⟨b, off, ha, Nat.lt_of_lt_of_le hbl hk.size, fun j hj => (World.cell?_of_block (w := w) (a := ⟨b, off + j, none⟩) (hk.nums b hbl hs)).trans (hcl j hj)⟩
theorem Nt.keptP {B : Nat} {w w' : World} {v : Value} {a : Nat} (h : Nt w v a) (hk : KeptP isU8 B w w') : Nt w' v a := by
  obtain ⟨n, f, hr, h2⟩ := h
  exact ⟨n, f, hr.keptP hk (fun _ => rfl), h2⟩
theorem Tab.keptP {base B P B' : Nat} {w w' : World} {n g cap : Nat} {vs : List Value} (h : Tab base B P w n g cap vs) (hk : KeptP isU8 B' w w') : Tab base B P w' n g cap vs := by
  obtain ⟨v, hv, nv⟩ := h.val h.pos
  obtain ⟨ao, c, f, rfl, -⟩ := nv.open
  have hg : ¬ Alike isU8 w g := fun hs => by
    have := hs 0 _ (h.row.cell hv)
    cases this
  have hP : ¬ Alike isU8 w P := fun hs => by
    have := hs 0 _ (h.box.cell rfl)
    cases this
  exact ⟨h.pos, (hk.nums P h.box.lt hP).trans h.box, h.row.same (hk.nums g h.row.lt hg), fun i v hv => (h.nats i v hv).keptP hk, h.low, h.lowg, Nat.le_trans h.bound hk.size, h.few⟩
end Go.Proofs.YtopbfgmpilnghaaDoor
