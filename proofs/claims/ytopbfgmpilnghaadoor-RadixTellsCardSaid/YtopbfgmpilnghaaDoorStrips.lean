/- Digits to a base, as bytes: the plain law of what is written. No function of the program stands here. A row of bytes that the call itself made: append to it; what is kept meanwhile. nat.Low. nat.Low: a natural as a number. -/
import Derived.Test.YtopbfgmpilnghaaDoorPows
set_option linter.unusedVariables false
set_option linter.unusedSimpArgs false
namespace Go.Proofs.YtopbfgmpilnghaaDoor

/-- the byte of a digit -/
def dgb (d : Nat) : Nat := if d < 10 then 48 + d else 87 + d
theorem dgb_lt {d : Nat} (h : d < 36) : dgb d < 256 ∧ 48 ≤ dgb d := by unfold dgb; split <;> omega
theorem dgb_zero {d : Nat} (h : d < 36) : dgb d = 48 ↔ d = 0 := by unfold dgb; split <;> omega
theorem dgb_inj {c d : Nat} (h : c < 36) (h' : d < 36) (e : dgb c = dgb d) : c = d := by unfold dgb at e; split at e <;> split at e <;> omega

/-- so many digits of a number, the greatest first -/
def pad (b : Nat) : Nat → Nat → List Nat
  | 0, _ => []
  | m + 1, a => pad b m (a / b) ++ [dgb (a % b)]
theorem pad_len (b m a : Nat) : (pad b m a).length = m := by
  induction m generalizing a with
  | zero => rfl
  | succ m ih => simp [pad, ih]
theorem pad_add (b m n a : Nat) : pad b (m + n) a = pad b m (a / b ^ n) ++ pad b n (a % b ^ n) := by
  induction n generalizing a with
  | zero => simp [pad]
  | succ n ih =>
    have e1 : a / b / b ^ n = a / b ^ (n + 1) := by rw [Nat.div_div_eq_div_mul, Nat.pow_succ, Nat.mul_comm]
    have e2 : a / b % b ^ n = a % b ^ (n + 1) / b := by rw [Nat.pow_succ, Nat.mul_comm, Nat.mod_mul_right_div_self]
    have e3 : a % b ^ (n + 1) % b = a % b := by rw [Nat.pow_succ, Nat.mul_comm, Nat.mod_mul_right_mod]
    show pad b (m + n) (a / b) ++ [dgb (a % b)] = pad b m (a / b ^ (n + 1)) ++ (pad b n (a % b ^ (n + 1) / b) ++ [dgb (a % b ^ (n + 1) % b)])
    rw [ih, e1, e2, e3, List.append_assoc]
theorem pad_zero (b m : Nat) : pad b m 0 = List.replicate m 48 := by
  induction m with
  | zero => rfl
  | succ m ih =>
    simp only [pad, Nat.zero_div, Nat.zero_mod, ih]
    rw [List.replicate_succ']
    rfl
theorem pad_get (b : Nat) : ∀ (m a i : Nat), i < m → (pad b m a)[i]? = some (dgb (a / b ^ (m - 1 - i) % b)) := by
  intro m
  induction m with
  | zero => intro a i h; omega
  | succ m ih =>
    intro a i h
    simp only [pad]
    by_cases e : i = m
    · subst e
      rw [List.getElem?_append_right (by rw [pad_len]; omega), pad_len]
      simp
    · rw [List.getElem?_append_left (by rw [pad_len]; omega), ih (a / b) i (by omega), Nat.div_div_eq_div_mul, ← Nat.pow_succ']
      rw [show (m - 1 - i).succ = m + 1 - 1 - i by omega]

/-- without noughts ahead; one stays -/
def bare : List Nat → List Nat
  | [] => []
  | [x] => [x]
  | x :: y :: l => if x = 48 then bare (y :: l) else x :: y :: l
theorem bare_zeros (m : Nat) {r : List Nat} (hr : r ≠ []) : bare (List.replicate m 48 ++ r) = bare r := by
  induction m with
  | zero => rfl
  | succ m ih =>
    rw [List.replicate_succ, List.cons_append]
    obtain ⟨y, l, e⟩ : ∃ y l, List.replicate m 48 ++ r = y :: l := by
      cases h : List.replicate m 48 ++ r with
      | nil => simp at h; exact absurd h.2 hr
      | cons y l => exact ⟨y, l, rfl⟩
    rw [e] at ih ⊢
    show (if (48 : Nat) = 48 then bare (y :: l) else _) = _
    rw [if_pos rfl]
    exact ih
theorem bare_app : ∀ {l : List Nat} (r : List Nat), (∃ x ∈ l, x ≠ 48) → bare (l ++ r) = bare l ++ r
  | [], r, h => by obtain ⟨x, hx, _⟩ := h; cases hx
  | [x], r, h => by
    obtain ⟨y, hy, hne⟩ := h
    simp at hy
    subst hy
    cases r with
    | nil => rfl
    | cons z r =>
      show (if y = 48 then _ else y :: z :: r) = _
      rw [if_neg hne]
      rfl
  | x :: y :: l, r, h => by
    show (if x = 48 then bare (y :: (l ++ r)) else x :: y :: (l ++ r)) = (if x = 48 then bare (y :: l) else x :: y :: l) ++ r
    by_cases e : x = 48
    · rw [if_pos e, if_pos e]
      refine bare_app (l := y :: l) r ?_
      obtain ⟨z, hz, hne⟩ := h
      rcases List.mem_cons.1 hz with rfl | hz
      · exact absurd e hne
      · exact ⟨z, hz, hne⟩
    · rw [if_neg e, if_neg e]
      rfl
theorem pad_some {b : Nat} (hb : 2 ≤ b) (hb2 : b ≤ 36) : ∀ {m a : Nat}, a < b ^ m → a ≠ 0 → ∃ x ∈ pad b m a, x ≠ 48
  | 0, a, h, h0 => by simp at h; omega
  | m + 1, a, h, h0 => by
    by_cases e : a % b = 0
    · have h1 : a / b < b ^ m := by rw [Nat.div_lt_iff_lt_mul (by omega), ← Nat.pow_succ]; exact h
      have h2 : a / b ≠ 0 := by
        intro h2
        have := Nat.div_add_mod a b
        rw [h2, e] at this
        omega
      obtain ⟨x, hx, hne⟩ := pad_some hb hb2 h1 h2
      exact ⟨x, by simp only [pad]; exact List.mem_append_left _ hx, hne⟩
    · exact ⟨dgb (a % b), by simp [pad], fun h => e ((dgb_zero (by have := Nat.mod_lt a (show 0 < b by omega); omega)).1 h)⟩
/-- the digits of a natural -/
theorem bare_pad_low {b m n a : Nat} (hm : a < b ^ n) (hn : 0 < n) : bare (pad b (m + n) a) = bare (pad b n a) := by
  rw [pad_add, Nat.div_eq_of_lt hm, Nat.mod_eq_of_lt hm, pad_zero]
  exact bare_zeros m (fun h => by have := congrArg List.length h; rw [pad_len] at this; simp at this; omega)
theorem bare_pad_high {b m n a : Nat} (hb : 2 ≤ b) (hb2 : b ≤ 36) (hm : a < b ^ (m + n)) (hn : a / b ^ n ≠ 0) : bare (pad b (m + n) a) = bare (pad b m (a / b ^ n)) ++ pad b n (a % b ^ n) := by
  rw [pad_add]
  refine bare_app _ (pad_some hb hb2 ?_ hn)
  rw [Nat.div_lt_iff_lt_mul (Nat.pow_pos (by omega)), ← Nat.pow_add]
  exact hm
theorem bare_ne {l : List Nat} (h : l ≠ []) : bare l ≠ [] := by
  induction l with
  | nil => exact absurd rfl h
  | cons x l ih =>
    cases l with
    | nil => simp [bare]
    | cons y l =>
      show (if x = 48 then _ else _) ≠ []
      split
      · exact ih (by simp)
      · simp
/-- how many noughts are dropped -/
def lead : List Nat → Nat
  | [] => 0
  | [x] => 0
  | x :: y :: l => if x = 48 then lead (y :: l) + 1 else 0
theorem bare_drop : ∀ l : List Nat, bare l = l.drop (lead l)
  | [] => rfl
  | [x] => rfl
  | x :: y :: l => by
    simp only [bare, lead]
    split
    · rw [bare_drop (y :: l)]; rfl
    · rfl
theorem lead_spec : ∀ l : List Nat, (∀ k, k < lead l → l[k]? = some 48 ∧ k + 1 < l.length) ∧ (lead l + 1 < l.length → l[lead l]? ≠ some 48)
  | [] => ⟨fun k h => by simp [lead] at h, fun h => by simp at h⟩
  | [x] => ⟨fun k h => by simp [lead] at h, fun h => by simp [lead] at h⟩
  | x :: y :: l => by
    obtain ⟨h1, h2⟩ := lead_spec (y :: l)
    simp only [lead]
    by_cases e : x = 48
    · rw [if_pos e]
      refine ⟨fun k hk => ?_, fun h => ?_⟩
      · rcases k with _ | k
        · exact ⟨by simp [e], by simp⟩
        · have := h1 k (by omega)
          simp only [List.getElem?_cons_succ, List.length_cons] at this ⊢
          exact ⟨this.1, by omega⟩
      · have := h2 (by simp only [List.length_cons] at h ⊢; omega)
        simpa using this
    · rw [if_neg e]
      exact ⟨fun k h => absurd h (by omega), fun _ => by simpa using e⟩
end Go.Proofs.YtopbfgmpilnghaaDoor

namespace Go.Proofs.YtopbfgmpilnghaaDoor
open Go.RowKit

def isU8 : Value → Bool
  | .int .u8 _ => true
  | _ => false

/-- All cells of the block are such. -/
def Alike (p : Value → Bool) (W : World) (b : Nat) : Prop := ∀ (j : Nat) (v : Value), W.cell? ⟨b, j, none⟩ = some v → p v = true
theorem Alike.same {p : Value → Bool} {w w' : World} {b : Nat} (h : w'.heap[b]? = w.heap[b]?) : Alike p w' b ↔ Alike p w b := by
  unfold Alike
  constructor <;> intro hs j v e
  · exact hs j v ((World.cell?_of_block (w := w) (a := ⟨b, j, none⟩) h).trans e)
  · exact hs j v ((World.cell?_of_block (w := w) (a := ⟨b, j, none⟩) h).symm.trans e)

/-- A row in memory of the call's own, all of whose cells are such; or nil. -/
def RowP (p : Value → Bool) (base : Nat) (e : TypeId) (W : World) (v : Value) (xs : List Value) : Prop :=
  (v = .slice none 0 0 ∧ xs = []) ∨ ∃ g cap cur, v = .slice (some ⟨g, 0, none⟩) xs.length cap ∧ base ≤ g ∧ W.heap[g]? = some (.cells cur e (0, 0)) ∧ xs.length ≤ cap ∧ cap ≤ maxLen ∧ cur.size = cap ∧ cur.toList.take xs.length = xs ∧ (∀ x ∈ cur.toList, p x = true)
theorem RowP.nil (p : Value → Bool) (base : Nat) (e : TypeId) (W : World) : RowP p base e W (.slice none 0 0) [] := .inl ⟨rfl, rfl⟩
theorem RowP.same {p : Value → Bool} {base : Nat} {e : TypeId} {W W' : World} {v : Value} {xs : List Value} (h : RowP p base e W v xs) (hb : ∀ g, v.ownBlock = some g → W'.heap[g]? = W.heap[g]?) : RowP p base e W' v xs := by
  rcases h with h | ⟨g, cap, cur, rfl, h1, h2, h3⟩
  · exact .inl h
  · exact .inr ⟨g, cap, cur, rfl, h1, (hb g rfl).trans h2, h3⟩
theorem RowP.low {p : Value → Bool} {base base' : Nat} {e : TypeId} {W : World} {v : Value} {xs : List Value} (h : RowP p base e W v xs) (hb : base' ≤ base) : RowP p base' e W v xs := by
  rcases h with h | ⟨g, cap, cur, rfl, h1, h2, h3⟩
  · exact .inl h
  · exact .inr ⟨g, cap, cur, rfl, Nat.le_trans hb h1, h2, h3⟩
theorem RowP.lt {p : Value → Bool} {base : Nat} {e : TypeId} {W : World} {v : Value} {xs : List Value} (h : RowP p base e W v xs) {g : Nat} (hg : v.ownBlock = some g) : g < W.heap.size ∧ base ≤ g := by
  rcases h with ⟨rfl, _⟩ | ⟨g', cap, cur, rfl, h1, h2, h3⟩
  · cases hg
  · cases hg
    exact ⟨(Array.getElem?_eq_some_iff.1 h2).1, h1⟩
theorem RowP.alike {p : Value → Bool} {base : Nat} {e : TypeId} {W : World} {v : Value} {xs : List Value} (h : RowP p base e W v xs) {g : Nat} (hg : v.ownBlock = some g) : Alike p W g := by
  rcases h with ⟨rfl, _⟩ | ⟨g', cap, cur, rfl, h1, h2, h3, h4, h5, h6, h7⟩
  · cases hg
  · cases hg
    intro j u hu
    have e2 : cur[j]? = some u := by simpa [World.cell?, h2] using hu
    exact h7 _ (by have := Array.mem_of_getElem? e2; simpa using this)
theorem RowP.after {p : Value → Bool} {base : Nat} {e : TypeId} {W W' : World} {v : Value} {xs : List Value} (h : RowP p base e W v xs) (hb : Below W.heap.size W W') : RowP p base e W' v xs := h.same (fun g hg => hb.block g (h.lt hg).1)

section
variable {P : Program} (w : World)
theorem take_app (vs us : List Value) (l : List Value) {n : Nat} (h : vs.length = n) : (vs ++ (us ++ l)).take (n + us.length) = vs ++ us := by
  rw [← List.append_assoc, ← h, ← List.length_append]
  exact List.take_left

/-- append to such a row -/
theorem run_append_p (p : Value → Bool) (base : Nat) (t ty e : TypeId) (i : TypeInfo) (z : Value) (bytes : Nat) (ht : P.underlying t = some (.slice e)) (hi : P.info? e = some i) (hz : i.zero = some z)
    (hsize : i.size = 1) (hby : i.bytes = bytes) (hzs : z.cells = #[z]) (hpz : p z = true) (v : Value) (xs : List Value) (hown : RowP p base e w v xs)
    (a : Addr) (m c : Nat) (news : List Value) (hl : news.length = m) (hnews : ∀ j u, news[j]? = some u → w.cell? (a.add j) = some u) (h1 : ∀ u ∈ news, u.oneCell' = true) (hp : ∀ u ∈ news, p u = true) (hm : 0 < m)
    (h63 : xs.length + m ≤ maxLen) (hbytes : (xs.length + m) * bytes ≤ 140737488355328) (hbase : base ≤ w.heap.size) :
    ∃ v' w', (Builtin.append_ #[t, t] ty #[v, .slice (some a) m c]).run P w = .ok v' w' ∧ RowP p base e w' v' (xs ++ news) ∧ w.grownBy w' v.ownBlock ∧ v'.ownBlock ≠ none := by
  subst hby
  have hll : (xs ++ news).length = xs.length + m := by rw [List.length_append, hl]
  rcases hown with ⟨rfl, rfl⟩ | ⟨g, cap, cur, rfl, hbg, hg, hnc, hcm, hcs, htake, hall⟩
  · have hr := run_append_nil (P := P) w t ty e i z ht hi hz a m c news (by rw [hsize, hl, Nat.mul_one]) hnews hm (by unfold maxLen at h63; simp at h63; omega) (by simp at hbytes; omega)
    have hge := grownCap_ge w m 0 e
    refine ⟨_, _, hr, .inr ⟨w.heap.size, _, _, ?_, hbase, heap_alloc_new w.drew _, ?_, grownCap_le_maxLen w m 0 e (by simpa using h63), ?_, ?_, ?_⟩, ⟨rfl, rfl, rfl, by simp, fun k hk _ => heap_alloc_old w.drew _ hk⟩, by simp [Value.ownBlock]⟩
    · rw [hll]; simp
    · rw [hll]; simp; omega
    · simp [size_zeroCells, hzs, hl]; omega
    · have := take_app [] news (Builtin.zeroCells z.cells (grownCap w m 0 e - m)).toList rfl
      simp
    · intro y hy
      simp only [Array.toList_append, List.mem_append] at hy
      rcases hy with hy | hy
      · exact hp y (by simpa using hy)
      · simp only [Builtin.zeroCells, hzs] at hy
        simp at hy
        obtain ⟨j, hj, rfl⟩ := hy
        rw [Nat.mod_one]
        exact hpz
  · by_cases hroom : xs.length + m ≤ cap
    · have hr := run_append_room (P := P) w t ty e i ht hi g xs.length cap cur hg a m c news (by rw [hsize, hl, Nat.mul_one]) hnews h1 hroom (by rw [hsize, hl]; omega)
      refine ⟨_, _, hr, .inr ⟨g, cap, _, by rw [hll], hbg, setRow_heap w g cur _ e _ hg, by rw [hll]; exact hroom, hcm, ?_, ?_, ?_⟩, ⟨rfl, rfl, rfl, by simp, fun k _ hk => setRow_other w g k _ (fun e => hk (by simp [Value.ownBlock, e]))⟩, by simp [Value.ownBlock]⟩
      · simp [hsize, hl]; omega
      · simp only [hsize, Nat.mul_one, List.append_assoc]
        rw [htake, hll, ← hl]
        exact take_app xs news _ rfl
      · intro y hy
        simp only [hsize, Nat.mul_one, List.mem_append] at hy
        rcases hy with (hy | hy) | hy
        · exact hall y (List.mem_of_mem_take hy)
        · exact hp y hy
        · exact hall y (List.mem_of_mem_drop hy)
    · have hcells : ∀ j u, xs[j]? = some u → w.cell? ((⟨g, 0, none⟩ : Addr).add j) = some u := fun j u hj => by
        rw [Addr.add_lit, Nat.zero_add]
        rw [← htake, List.getElem?_take] at hj
        simp only [World.cell?, hg]
        split at hj
        · simpa using hj
        · cases hj
      have hr := run_append_grow (P := P) w t ty e i z ht hi hz ⟨g, 0, none⟩ xs.length cap xs (by rw [hsize, Nat.mul_one]) hcells a m c news (by rw [hsize, hl, Nat.mul_one]) hnews (by omega) (by unfold maxLen at h63; omega) (growslice_fits (by omega) hbytes)
      have hge := grownCap_ge w (xs.length + m) cap e
      refine ⟨_, _, hr, .inr ⟨w.heap.size, _, _, by rw [hll], hbase, heap_alloc_new w.drew _, by rw [hll]; exact hge, grownCap_le_maxLen w (xs.length + m) cap e h63, ?_, ?_, ?_⟩, ⟨rfl, rfl, rfl, by simp, fun k hk _ => heap_alloc_old w.drew _ hk⟩, by simp [Value.ownBlock]⟩
      · simp [size_zeroCells, hzs, hl]; omega
      · have := take_app xs news (Builtin.zeroCells z.cells (grownCap w (xs.length + m) cap e - (xs.length + m))).toList rfl
        rw [hll, ← hl]
        simpa [hl] using this
      · intro y hy
        simp only [Array.toList_append, List.mem_append] at hy
        rcases hy with (hy | hy) | hy
        · have : y ∈ cur.toList.take xs.length := by rw [htake]; simpa using hy
          exact hall y (List.mem_of_mem_take this)
        · exact hp y (by simpa using hy)
        · simp only [Builtin.zeroCells, hzs] at hy
          simp at hy
          obtain ⟨j, hj, rfl⟩ := hy
          rw [Nat.mod_one]
          exact hpz

theorem wpList_append_p {ops : Array Oper} {rest : List Oper} {o : Oper} {a : Act} {Q : Exit → Act → World → Prop} (hgd : o.guard = none) (s x : Operand) (t : TypeId)
    (ho : o.op = .call { callee := .builtin .append, args := #[s, x], argTypes := #[t, t] })
    (p : Value → Bool) (base : Nat) (e : TypeId) (i : TypeInfo) (z : Value) (bytes : Nat) (ht : P.underlying t = some (.slice e)) (hi : P.info? e = some i) (hz : i.zero = some z)
    (hsize : i.size = 1) (hby : i.bytes = bytes) (hzs : z.cells = #[z]) (hpz : p z = true) (v : Value) (xs : List Value) (hs : a.eval s = v) (hown : RowP p base e w v xs)
    (ad : Addr) (m c : Nat) (news : List Value) (hx : a.eval x = .slice (some ad) m c) (hl : news.length = m) (hnews : ∀ j u, news[j]? = some u → w.cell? (ad.add j) = some u) (h1 : ∀ u ∈ news, u.oneCell' = true) (hp : ∀ u ∈ news, p u = true) (hm : 0 < m)
    (h63 : xs.length + m ≤ maxLen) (hbytes : (xs.length + m) * bytes ≤ 140737488355328) (hbase : base ≤ w.heap.size)
    (h : ∀ v' w', RowP p base e w' v' (xs ++ news) → w.grownBy w' v.ownBlock → wpList P ops Q rest (a.put o.dst v') w') : wpList P ops Q (o :: rest) a w := by
  refine wpList_plain hgd fun K hK => ?_
  obtain ⟨v', w', hr, h2, h3, h4⟩ := run_append_p (P := P) w p base t o.type e i z bytes ht hi hz hsize hby hzs hpz v xs hown ad m c news hl hnews h1 hp hm h63 hbytes hbase
  unfold Oper.wp execOp
  simp only [ho, resolve, invoke, builtin, Sem.run_bind, Sem.run_pure, Result.andThen_ok, List.map_toArray, List.map_cons, List.map_nil, hs, hx, hr]
  exact hK _ _ (h v' w' h2 h3)
end

/-- What is kept: all below B, and each block that holds something else than such cells. -/
structure KeptP (p : Value → Bool) (B : Nat) (w w' : World) : Prop where
  below : Below B w w'
  size : w.heap.size ≤ w'.heap.size
  nums : ∀ b, b < w.heap.size → ¬ Alike p w b → w'.heap[b]? = w.heap[b]?
theorem KeptP.refl (p : Value → Bool) (B : Nat) (w : World) : KeptP p B w w := ⟨Below.refl _ _, Nat.le_refl _, fun _ _ _ => rfl⟩
theorem KeptP.trans {p : Value → Bool} {B : Nat} {a b c : World} (h : KeptP p B a b) (k : KeptP p B b c) : KeptP p B a c :=
  ⟨h.below.trans k.below, Nat.le_trans h.size k.size, fun j hj hs => by
    have e := h.nums j hj hs
    rw [k.nums j (Nat.lt_of_lt_of_le hj h.size) (fun hs' => hs ((Alike.same e).1 hs'))]
    exact e⟩
theorem KeptP.after {p : Value → Bool} {B : Nat} {w w' : World} (h : Below w.heap.size w w') (hB : B ≤ w.heap.size) : KeptP p B w w' := ⟨h.mono hB, h.size, fun b hb _ => h.block b hb⟩
theorem KeptP.grown {p : Value → Bool} {B : Nat} {e : TypeId} {w w' : World} {v : Value} {xs : List Value} (h : RowP p B e w v xs) (hg : w.grownBy w' v.ownBlock) (hB : B ≤ w.heap.size) : KeptP p B w w' :=
  ⟨Below.grown (Below.refl _ _) hg hB (fun k e => (h.lt e).2), hg.size, fun b hb hn => hg.block b hb (fun e => hn (h.alike e.symm))⟩
theorem Rd.keptP {p : Value → Bool} {B : Nat} {k : IntKind} {w w' : World} {v : Value} {n : Nat} {f : Nat → Nat} (h : Rd k w v n f) (hk : KeptP p B w w') (hp : ∀ x, p (.int k x) = false) : Rd k w' v n f := by
  obtain ⟨ao, cap, hv, hn, hc, hcells⟩ := h
  refine ⟨ao, cap, hv, hn, hc, fun h0 => ?_⟩
  obtain ⟨b, off, ha, hbl, hcl⟩ := hcells h0
  have hs : ¬ Alike p w b := fun hs => by
    have := hs (off + 0) _ (hcl 0 h0)
    rw [hp] at this
    cases this
  exact ⟨b, off, ha, Nat.lt_of_lt_of_le hbl hk.size, fun j hj => (World.cell?_of_block (w := w) (a := ⟨b, off + j, none⟩) (hk.nums b hbl hs)).trans (hcl j hj)⟩
theorem Nt.keptP {B : Nat} {w w' : World} {v : Value} {a : Nat} (h : Nt w v a) (hk : KeptP isU8 B w w') : Nt w' v a := by
  obtain ⟨n, f, hr, h2⟩ := h
  exact ⟨n, f, hr.keptP hk (fun _ => rfl), h2⟩
theorem Tab.keptP {base B P B' : Nat} {w w' : World} {n g cap : Nat} {vs : List Value} (h : Tab base B P w n g cap vs) (hk : KeptP isU8 B' w w') : Tab base B P w' n g cap vs := by
  obtain ⟨v, hv, nv⟩ := h.val h.pos
  obtain ⟨ao, c, f, rfl, -⟩ := nv.open
  have hg : ¬ Alike isU8 w g := fun hs => by
    have := hs 0 _ (h.row.cell hv)
    cases this
  have hP : ¬ Alike isU8 w P := fun hs => by
    have := hs 0 _ (h.box.cell rfl)
    cases this
  exact ⟨h.pos, (hk.nums P h.box.lt hP).trans h.box, h.row.same (hk.nums g h.row.lt hg), fun i v hv => (h.nats i v hv).keptP hk, h.low, h.lowg, Nat.le_trans h.bound hk.size, h.few⟩
end Go.Proofs.YtopbfgmpilnghaaDoor

namespace Go.Proofs.YtopbfgmpilnghaaDoor
open Go.RowKit

theorem or_none (x : Nat) (hx : x < 4294967296) : bits .or .u64 (0 : Int) (x : Int) = (x : Int) := by
  have := bits_or_u64_nat 0 x (by omega) (by omega)
  rw [Nat.zero_or] at this
  exact this
theorem or_next (x y : Nat) (hx : x < 4294967296) (hy : y < 4294967296) : bits .or .u64 (x : Int) ((y : Int) * 4294967296) = ((x + y * 4294967296 : Nat) : Int) := by
  have e : (y : Int) * 4294967296 = ((y * 4294967296 : Nat) : Int) := by omega
  rw [e, bits_or_u64_nat _ _ (by omega) (by omega)]
  have := Nat.two_pow_add_eq_or_of_lt (i := 32) (b := x) (by omega) y
  rw [Nat.or_comm, show y * 4294967296 = 2 ^ 32 * y from by omega, ← this, Nat.add_comm]

set_option maxRecDepth 100000 in
set_option maxHeartbeats 4000000 in
theorem low_any {va : Value} {a : Nat} {w : World} (na : Nt w va a) (ha : a < 18446744073709551616) :
    Calls Tryd.prog 85 #[va] w fun e w' => e = .returned (.tuple #[.int .u64 (a : Int), .bool true]) ∧ Drawn w w' := by
  obtain ⟨aa, ca, fa, rfl, ra, fta, nma, hva⟩ := na.open
  have hl : limbs a ≤ 2 := limbs_le (by simpa using ha)
  generalize limbs a = n at *
  have hc : Hid (∀ j, j < n → ∃ b off, aa = some ⟨b, off, none⟩ ∧ w.cell? ⟨b, off + j, none⟩ = some (.int .u32 (fa j))) := fun j hj => by
    obtain ⟨b, off, e, _, hc⟩ := ra.at (by omega)
    exact ⟨b, off, e, hc j hj⟩
  have HF := Lib.hid fta
  have HV := Lib.hid hva
  clear ra fta nma hva na
  go_enter Tryd.func85, Tryd.ntmps85
  go_wp2_with fail
  go_loopw [4, 12] (fun o i wr => ∃ k : Nat, k ≤ n ∧ i = .int .i64 (k : Int) ∧ o = .int .u64 (nv fa k : Int) ∧ Hid (Drawn w wr)) (fun _ i _ => n - (intOf i).toNat)
  case atStart => exact ⟨0, by omega, rfl, rfl, ⟨0, rfl⟩⟩
  case round =>
    obtain ⟨k, hk, rfl, rfl, hd⟩ := hrel
    by_cases hlt : k < n
    · obtain ⟨b, off, rfl, hcell⟩ := hc.out k hlt
      replace hcell := (hd.out.cell _).trans hcell
      have hf := HF.out k hlt
      have hk2 : k = 0 ∨ k = 1 := by omega
      rcases hk2 with rfl | rfl
      · have ho := or_none (fa 0) hf
        have hs : (nv fa 0 : Int) = 0 := rfl
        have h1 : nv fa 1 = fa 0 := by simp [nv]
        rw [hs]
        simp only [Nat.add_zero] at hcell
        have H1 := Lib.hid h1
        clear h1 hs
        go_wp2_with fail
        go_roundw
        case rel => exact ⟨1, by omega, by first | rfl | go_num, by rw [H1.out], hd.out⟩
        case measure => simp [intOf]; omega
      · have h1 : nv fa 1 = fa 0 := by simp [nv]
        have hf0 := HF.out 0 (by omega)
        have ho := or_next (fa 0) (fa 1) hf0 hf
        have h2 : nv fa 2 = fa 0 + fa 1 * 4294967296 := by simp [nv]
        rw [h1]
        have H2 := Lib.hid h2
        clear h1 h2
        go_wp2_with fail
        go_roundw
        case rel => exact ⟨2, by omega, by first | rfl | go_num, by rw [H2.out]; first | rfl | simp, hd.out⟩
        case measure => simp [intOf]; omega
    · obtain rfl : k = n := by omega
      rw [HV.out]
      go_wp2_with fail
      refine bodyPost_ret (v := .tuple #[.int .u64 (a : Int), .bool true]) (by simp [results, Tryd.f85]) rfl ?_
      exact ⟨rfl, hd.out⟩
end Go.Proofs.YtopbfgmpilnghaaDoor
