/- mul.Pow: a power, where no product of two long numbers is reached. The table of radix.powers: a row of naturals that grows; what is kept while it does. radix.powers and its closure: the powers of a base, each the square of the one ahead of it. -/
import Derived.Test.YtopbfgmpilnghaaDoorDivs
import Derived.Deep.RegionLaw
set_option linter.unusedVariables false
set_option linter.unusedSimpArgs false
namespace Go.Proofs.YtopbfgmpilnghaaDoor
open Go.RowKit

/-- the products that are shown -/
def MulFit (a b : Nat) : Prop := limbs a ≤ 16777216 ∧ limbs b ≤ 16777216 ∧ (limbs a < 48 ∨ limbs b < 48)
theorem mul_fit {va vb : Value} {a b : Nat} {w : World} (na : Nt w va a) (nb : Nt w vb b) (h : MulFit a b) :
    Calls Tryd.prog 67 #[va, vb] w fun e w' => ∃ v, e = .returned v ∧ Nt w' v (a * b) ∧ Below w.heap.size w w' := mul_small na nb h.1 h.2.1 h.2.2
theorem limbs_prod {a b : Nat} (ha : a ≠ 0) (hb : b ≠ 0) : limbs a + limbs b ≤ limbs (a * b) + 1 := by
  have h1 := ge_limbs ha
  have h2 := ge_limbs hb
  have h3 : 4294967296 ^ (limbs a - 1 + (limbs b - 1)) ≤ a * b := by rw [Nat.pow_add]; exact Nat.mul_le_mul h1 h2
  have h4 := lt_limbs (a * b)
  have h5 := limbs_pos ha
  have h6 := limbs_pos hb
  apply Classical.byContradiction
  intro hne
  have : 4294967296 ^ limbs (a * b) ≤ 4294967296 ^ (limbs a - 1 + (limbs b - 1)) := Nat.pow_le_pow_right (by omega) (by omega)
  omega
theorem MulFit.of_prod {a b : Nat} (h : limbs (a * b) ≤ 94) (ha : limbs a ≤ 94) (hb : limbs b ≤ 94) : MulFit a b := by
  refine ⟨by omega, by omega, ?_⟩
  by_cases ha0 : a = 0
  · subst ha0; left; rw [limbs_zero]; omega
  · by_cases hb0 : b = 0
    · subst hb0; right; rw [limbs_zero]; omega
    · have := limbs_prod ha0 hb0
      omega
/-- all products up to Z are shown -/
def PFit (Z : Nat) : Prop := ∀ x y, 0 < x → 0 < y → x * y ≤ Z → MulFit x y
theorem PFit.of {Z : Nat} (h : limbs Z ≤ 94) : PFit Z := fun x y hx hy hxy => by
  have h1 := limbs_mono hxy
  have h2 := limbs_mono (Nat.le_trans (Nat.le_mul_of_pos_right x hy) hxy)
  have h3 := limbs_mono (Nat.le_trans (Nat.le_mul_of_pos_left y hx) hxy)
  exact MulFit.of_prod (by omega) (by omega) (by omega)

theorem and_one {m : Nat} (h : m < 9223372036854775808) : bits .and .i64 (m : Int) 1 = ((m % 2 : Nat) : Int) := by
  have e2 : (BitVec.ofInt 64 (m : Int) &&& BitVec.ofInt 64 (1 : Int)).toNat = m % 2 := by
    rw [BitVec.toNat_and, BitVec.ofInt_natCast, BitVec.toNat_ofNat, Nat.mod_eq_of_lt (by omega)]
    exact Nat.and_one_is_mod m
  show IntKind.i64.wrap (((BitVec.ofInt 64 (m : Int) &&& BitVec.ofInt 64 (1 : Int)).toNat : Nat) : Int) = _
  rw [e2]
  exact IntWalk.i64_in _ (by omega)

/-- what holds between two rounds of mul.Pow -/
structure Powing (A x o m : Nat) : Prop where
  sum : o * x ^ m = A
  x0 : 0 < x
  o0 : 0 < o
theorem Powing.odd {A x o m : Nat} (h : Powing A x o m) (hm : m % 2 = 1) : o * x ≤ A ∧ Powing A (x * x) (o * x) (m / 2) ∧ (m = 1 → Powing A x (o * x) (m / 2)) := by
  obtain ⟨h1, h2, h3⟩ := h
  refine ⟨?_, ⟨?_, Nat.mul_pos h2 h2, Nat.mul_pos h3 h2⟩, fun e => ⟨?_, h2, Nat.mul_pos h3 h2⟩⟩
  · rw [← h1]
    obtain ⟨k, rfl⟩ : ∃ k, m = k + 1 := ⟨m - 1, by omega⟩
    rw [Nat.pow_succ, Nat.mul_comm (x ^ k), ← Nat.mul_assoc]
    exact Nat.le_mul_of_pos_right _ (Nat.pow_pos h2)
  · rw [← h1, ← Nat.pow_two, ← Nat.pow_mul, Nat.mul_assoc, ← Nat.pow_succ', show (2 * (m / 2)).succ = m by omega]
  · subst e
    rw [← h1]
    simp
theorem Powing.even {A x o m : Nat} (h : Powing A x o m) (hm : m % 2 = 0) : Powing A (x * x) o (m / 2) := by
  obtain ⟨h1, h2, h3⟩ := h
  refine ⟨?_, Nat.mul_pos h2 h2, h3⟩
  rw [← h1, ← Nat.pow_two, ← Nat.pow_mul, show 2 * (m / 2) = m by omega]
theorem Powing.sq {A x o m : Nat} (h : Powing A x o m) (hm : 1 < m) : x * x ≤ A := by
  obtain ⟨h1, h2, h3⟩ := h
  rw [← h1]
  obtain ⟨k, rfl⟩ : ∃ k, m = k + 2 := ⟨m - 2, by omega⟩
  rw [Nat.pow_add, Nat.pow_two]
  have h4 : 0 < o * x ^ k := Nat.mul_pos h3 (Nat.pow_pos h2)
  rw [← Nat.mul_assoc]
  exact Nat.le_mul_of_pos_left _ h4

set_option maxRecDepth 100000 in
set_option maxHeartbeats 4000000 in
theorem pow_nt {va : Value} {a : Nat} {w : World} (na : Nt w va a) (ha : 0 < a) (n : Nat) (i : Int) (hi : i = (n : Int)) (hn : n ≤ 1000000000) (hp : PFit (a ^ n)) :
    Calls Tryd.prog 77 #[va, .int .i64 i] w fun e w' => ∃ v, e = .returned v ∧ Nt w' v (a ^ n) ∧ Below w.heap.size w w' := by
  subst hi
  have HP := Lib.hid hp
  have H0 : Hid (Powing (a ^ n) a 1 n) := ⟨by rw [Nat.one_mul], ha, by omega⟩
  generalize a ^ n = A at *
  clear hp
  go_enter Tryd.func77, Tryd.ntmps77
  go_wp2_with fail
  have hone := one_limb (w := w) (e := 46) 1 (by omega) (by omega)
  have T := After.alloc (After.refl w) (.cells #[.int .u32 1] 46)
  replace na := na.below T.out
  have HO := Lib.hid hone
  have HT := Lib.hid T
  have HA := Lib.hid na
  clear hone T na
  generalize w.alloc _ = w1 at *
  go_loopw [0, 1, 5] (fun v0 v1 v5 wr => ∃ (m x o : Nat), m ≤ 1000000000 ∧ v1 = .int .i64 (m : Int) ∧ Hid (Nt wr v0 x) ∧ Hid (Nt wr v5 o) ∧ Hid (Powing A x o m) ∧ Hid (After w wr)) (fun _ v1 _ _ => (intOf v1).toNat)
  case atStart => exact ⟨n, a, 1, hn, rfl, HA, HO, H0, HT⟩
  case round =>
    rename_i v0 v5
    clear HA HO H0 HT
    obtain ⟨m, x, o, hm, rfl, hx, ho, hpw, T⟩ := hrel
    by_cases hm0 : m = 0
    · subst hm0
      go_wp2_with fail
      go_ret
      have e := hpw.out.sum
      rw [Nat.pow_zero, Nat.mul_one] at e
      exact ⟨_, rfl, by rw [← e]; exact ho.out, T.out⟩
    · have hand := and_one (m := m) (by omega)
      have hpos : (0 : Int) < (m : Int) := by omega
      by_cases hodd : m % 2 = 1
      · rw [hodd] at hand
        obtain ⟨p1, p2, p3⟩ := hpw.out.odd hodd
        have f1 := Lib.hid (HP.out o x hpw.out.o0 hpw.out.x0 p1)
        by_cases h1 : m = 1
        · have p4 := Lib.hid (p3 h1)
          clear p1 p2 p3
          subst h1
          go_wp2_with fail
          (with_reducible refine (mul_fit ho.out hx.out f1.out).mono ?_)
          rintro e w2 ⟨vo, rfl, hvo, hb2⟩
          have HX2 := Lib.hid (hx.out.below hb2)
          have HO2 := Lib.hid hvo
          have T2 := Lib.hid (After.t T.out hb2)
          clear hvo hb2 ho hx T
          go_wp2_with fail
          go_roundw
          case rel => exact ⟨0, x, o * x, by omega, by first | rfl | go_num, HX2, HO2, p4, T2⟩
          case measure => simp [intOf]
        · have p5 := hpw.out.sq (by omega)
          have f2 := Lib.hid (HP.out x x hpw.out.x0 hpw.out.x0 p5)
          have p4 := Lib.hid p2
          clear p1 p2 p3 p5
          go_wp2_with fail
          (with_reducible refine (mul_fit ho.out hx.out f1.out).mono ?_)
          rintro e w2 ⟨vo, rfl, hvo, hb2⟩
          have HX2 := Lib.hid (hx.out.below hb2)
          have HO2 := Lib.hid hvo
          have T2 := Lib.hid (After.t T.out hb2)
          clear hvo hb2 ho hx T
          go_wp2_with fail
          (with_reducible refine (mul_fit HX2.out HX2.out f2.out).mono ?_)
          rintro e w3 ⟨vx, rfl, hvx, hb3⟩
          have HO3 := Lib.hid (HO2.out.below hb3)
          have HX3 := Lib.hid hvx
          have T3 := Lib.hid (After.t T2.out hb3)
          clear hvx hb3 HO2 HX2 T2
          go_wp2_with fail
          go_roundw
          case rel => exact ⟨m / 2, x * x, o * x, by omega, by first | rfl | go_num, HX3, HO3, p4, T3⟩
          case measure => simp [intOf]; omega
      · have hev : m % 2 = 0 := by omega
        rw [hev] at hand
        have p5 := hpw.out.sq (by omega)
        have f2 := Lib.hid (HP.out x x hpw.out.x0 hpw.out.x0 p5)
        have p4 := Lib.hid (hpw.out.even hev)
        clear p5
        go_wp2_with fail
        (with_reducible refine (mul_fit hx.out hx.out f2.out).mono ?_)
        rintro e w3 ⟨vx, rfl, hvx, hb3⟩
        have HO3 := Lib.hid (ho.out.below hb3)
        have HX3 := Lib.hid hvx
        have T3 := Lib.hid (After.t T.out hb3)
        clear hvx hb3 ho hx T
        go_wp2_with fail
        go_roundw
        case rel => exact ⟨m / 2, x * x, o, by omega, by first | rfl | go_num, HX3, HO3, p4, T3⟩
        case measure => simp [intOf]; omega
end Go.Proofs.YtopbfgmpilnghaaDoor

namespace Go.Proofs.YtopbfgmpilnghaaDoor
open Go.RowKit

/-- A row of which no cell is a number. -/
def Sl (W : World) (g : Nat) (e : TypeId) (n cap : Nat) (vs : List Value) : Prop :=
  ∃ cur : Array Value, W.heap[g]? = some (.cells cur e (0, 0)) ∧ n ≤ cap ∧ cap ≤ maxLen ∧ cur.size = cap ∧ cur.toList.take n = vs ∧ (∀ x ∈ cur.toList, notInt x = true)
theorem Sl.solid {W : World} {g : Nat} {e : TypeId} {n cap : Nat} {vs : List Value} (h : Sl W g e n cap vs) : Solid W g := by
  obtain ⟨cur, hc, _, _, _, _, hn⟩ := h
  intro j k x e
  have e2 : cur[j]? = some (.int k x) := by simpa [World.cell?, hc] using e
  have := hn _ (by have := Array.mem_of_getElem? e2; simpa using this)
  cases this
theorem Sl.lt {W : World} {g : Nat} {e : TypeId} {n cap : Nat} {vs : List Value} (h : Sl W g e n cap vs) : g < W.heap.size := by
  obtain ⟨cur, hc, _⟩ := h
  exact (Array.getElem?_eq_some_iff.1 hc).1
theorem Sl.same {W W' : World} {g : Nat} {e : TypeId} {n cap : Nat} {vs : List Value} (h : Sl W g e n cap vs) (hb : W'.heap[g]? = W.heap[g]?) : Sl W' g e n cap vs := by
  obtain ⟨cur, hc, hr⟩ := h
  exact ⟨cur, hb.trans hc, hr⟩
theorem Sl.cell {W : World} {g : Nat} {e : TypeId} {n cap : Nat} {vs : List Value} (h : Sl W g e n cap vs) {j : Nat} {v : Value} (hv : vs[j]? = some v) : W.cell? ⟨g, j, none⟩ = some v := by
  obtain ⟨cur, hc, _, _, _, ht, _⟩ := h
  rw [← ht, List.getElem?_take] at hv
  simp only [World.cell?, hc]
  split at hv
  · simpa using hv
  · cases hv
theorem Sl.len {W : World} {g : Nat} {e : TypeId} {n cap : Nat} {vs : List Value} (h : Sl W g e n cap vs) : vs.length = n := by
  obtain ⟨cur, hc, hn, _, hs, ht, _⟩ := h
  rw [← ht, List.length_take, Array.length_toList]
  omega

theorem take_snoc_app (vs : List Value) (u : Value) (l : List Value) {n : Nat} (h : vs.length = n) : (vs ++ ([u] ++ l)).take (n + 1) = vs ++ [u] := by
  rw [← List.append_assoc, ← show (vs ++ [u]).length = n + 1 by simp [h]]
  exact List.take_left

/-- append of one element that is no number, as one step of a region -/
theorem step_append_sl {P : Program} {ops : Array Oper} {o : Oper} {a : Act} {w : World} {K : Act → World → Prop} {Q : Exit → Act → World → Prop} {E : Prop}
    (hg : o.guard = none) (s x : Operand) (t : TypeId) (hop : o.op = Op.call { callee := Callee.builtin Builtin.append, args := #[s, x], argTypes := #[t, t] })
    (e : TypeId) (i : TypeInfo) (z : Value) (bytes : Nat) (h1 : P.underlying t = some (.slice e)) (h2 : P.info? e = some i) (h3 : i.zero = some z) (h4 : i.size = 1) (h5 : i.bytes = bytes) (h6 : z.cells = #[z]) (h7 : notInt z = true)
    (g n cap : Nat) (vs : List Value) (hs : a.eval s = .slice (some ⟨g, 0, none⟩) n cap) (hsl : Sl w g e n cap vs)
    (ad : Addr) (c : Nat) (u : Value) (hx : a.eval x = .slice (some ad) 1 c) (hc : w.cell? ad = some u) (hu : notInt u = true) (hu1 : u.oneCell' = true)
    (b1 : n + 1 ≤ maxLen) (b2 : (n + 1) * bytes ≤ 140737488355328)
    (hK : ∀ g' cap' w', Sl w' g' e (n + 1) cap' (vs ++ [u]) → w.grownBy w' (some g) → (g' = g ∨ g' = w.heap.size) → K (a.put o.dst (.slice (some ⟨g', 0, none⟩) (n + 1) cap')) w') :
    if Region.wanted o (yielded ops a.tmps) = true then Oper.wp P o a w K Q else E := by
  have hw : Region.wanted o (yielded ops a.tmps) = true := by simp [Region.wanted, hg]
  rw [if_pos hw]
  have hlen := hsl.len
  have hcells : ∀ j v, vs[j]? = some v → w.cell? ((⟨g, 0, none⟩ : Addr).add j) = some v := fun j v hj => by
    rw [Addr.add_lit, Nat.zero_add]; exact hsl.cell hj
  have hnews : ∀ j v, [u][j]? = some v → w.cell? (ad.add j) = some v := fun j v hj => by
    rcases j with _ | j
    · simp at hj; subst hj
      have : ad.add 0 = ad := by cases ad; simp [Addr.add]
      rw [this]; exact hc
    · simp at hj
  obtain ⟨cur, hcur, hn, hm, hsz, ht, hni⟩ := hsl
  subst h5
  by_cases hroom : n + 1 ≤ cap
  · have hr := run_append_room (P := P) w t o.type e i h1 h2 g n cap cur hcur ad 1 c [u] (by simp [h4]) hnews (by simpa using hu1) hroom (by simp [h4]; omega)
    unfold Oper.wp
    simp [execOp, hop, resolve, invoke, builtin, hs, hx, hr, Result.andThen]
    refine hK g cap _ ⟨_, setRow_heap w g cur _ e _ hcur, hroom, hm, ?_, ?_, ?_⟩ ⟨rfl, rfl, rfl, by simp, fun k _ hk => setRow_other w g k _ (fun e => hk (by simp [e]))⟩ (.inl rfl)
    · simp [h4]; omega
    · simp only [h4, Nat.mul_one]
      rw [ht]
      exact take_snoc_app vs u _ hlen
    · intro y hy
      simp only [h4, Nat.mul_one, List.mem_append, List.mem_cons] at hy
      rcases hy with hy | rfl | hy
      · exact hni y (List.mem_of_mem_take hy)
      · exact hu
      · exact hni y (List.mem_of_mem_drop hy)
  · have hr := run_append_grow (P := P) w t o.type e i z h1 h2 h3 ⟨g, 0, none⟩ n cap vs (by rw [h4, hlen, Nat.mul_one]) hcells ad 1 c [u] (by simp [h4]) hnews (by omega) (by unfold maxLen at b1; omega) (growslice_fits (by omega) b2)
    unfold Oper.wp
    simp [execOp, hop, resolve, invoke, builtin, hs, hx, hr, Result.andThen]
    have hge := grownCap_ge w (n + 1) cap e
    refine hK _ _ _ ⟨_, heap_alloc_new w.drew _, hge, grownCap_le_maxLen w (n + 1) cap e b1, ?_, ?_, ?_⟩ ⟨rfl, rfl, rfl, by simp, fun k hk _ => heap_alloc_old w.drew _ hk⟩ (.inr rfl)
    · simp [size_zeroCells, h6, hlen]
      omega
    · simp only [Array.toList_append, List.append_assoc]
      exact take_snoc_app vs u _ hlen
    · intro y hy
      simp only [Array.toList_append, List.mem_append] at hy
      rcases hy with (hy | hy) | hy
      · have : y ∈ cur.toList.take n := by rw [ht]; simpa using hy
        exact hni y (List.mem_of_mem_take this)
      · simp at hy; subst hy; exact hu
      · simp only [Builtin.zeroCells, h6] at hy
        simp at hy
        obtain ⟨j, hj, rfl⟩ := hy
        rw [Nat.mod_one]
        exact h7

/-- What is kept while the table grows: all below B, and all that holds numbers. -/
structure Kept (B : Nat) (w w' : World) : Prop where
  below : Below B w w'
  size : w.heap.size ≤ w'.heap.size
  nums : ∀ b, b < w.heap.size → ¬ Solid w b → w'.heap[b]? = w.heap[b]?
theorem Solid.same {w w' : World} {b : Nat} (h : w'.heap[b]? = w.heap[b]?) : Solid w' b ↔ Solid w b := by
  unfold Solid
  constructor <;> intro hs j k x e
  · exact hs j k x ((World.cell?_of_block (w := w) (a := ⟨b, j, none⟩) h).trans e)
  · exact hs j k x ((World.cell?_of_block (w := w) (a := ⟨b, j, none⟩) h).symm.trans e)
theorem Kept.refl (B : Nat) (w : World) : Kept B w w := ⟨Below.refl _ _, Nat.le_refl _, fun _ _ _ => rfl⟩
theorem Kept.trans {B : Nat} {a b c : World} (h : Kept B a b) (k : Kept B b c) : Kept B a c :=
  ⟨h.below.trans k.below, Nat.le_trans h.size k.size, fun j hj hs => by
    have e := h.nums j hj hs
    rw [k.nums j (Nat.lt_of_lt_of_le hj h.size) (fun hs' => hs ((Solid.same e).1 hs'))]
    exact e⟩
theorem Kept.after {B : Nat} {w w' : World} (h : Below w.heap.size w w') (hB : B ≤ w.heap.size) : Kept B w w' := ⟨h.mono hB, h.size, fun b hb _ => h.block b hb⟩
theorem Rd.kept {B : Nat} {k : IntKind} {w w' : World} {v : Value} {n : Nat} {f : Nat → Nat} (h : Rd k w v n f) (hk : Kept B w w') : Rd k w' v n f := by
  obtain ⟨ao, cap, hv, hn, hc, hcells⟩ := h
  refine ⟨ao, cap, hv, hn, hc, fun h0 => ?_⟩
  obtain ⟨b, off, ha, hbl, hcl⟩ := hcells h0
  have hs : ¬ Solid w b := fun hs => hs (off + 0) k (f 0) (hcl 0 h0)
  exact ⟨b, off, ha, Nat.lt_of_lt_of_le hbl hk.size, fun j hj => (World.cell?_of_block (w := w) (a := ⟨b, off + j, none⟩) (hk.nums b hbl hs)).trans (hcl j hj)⟩
theorem Nt.kept {B : Nat} {w w' : World} {v : Value} {a : Nat} (h : Nt w v a) (hk : Kept B w w') : Nt w' v a := by
  obtain ⟨n, f, hr, h2⟩ := h
  exact ⟨n, f, hr.kept hk, h2⟩

/-- the base to the power of 5 times 2 to the power of k -/
def pw (base k : Nat) : Nat := base ^ (5 * 2 ^ k)
theorem pw_succ (base k : Nat) : pw base (k + 1) = pw base k * pw base k := by
  unfold pw
  rw [← Nat.pow_add]
  congr 1
  rw [Nat.pow_succ]
  omega

/-- The table: the variable P holds a row of powers. -/
structure Tab (base B P : Nat) (w : World) (n g cap : Nat) (vs : List Value) : Prop where
  pos : 0 < n
  box : Blk w P #[.slice (some ⟨g, 0, none⟩) n cap] 100
  row : Sl w g 22 n cap vs
  nats : ∀ i v, vs[i]? = some v → Nt w v (pw base i)
  low : B ≤ P
  lowg : B ≤ g
  bound : B ≤ w.heap.size
  few : n ≤ 1000000
theorem Tab.after {base B P : Nat} {w w' : World} {n g cap : Nat} {vs : List Value} (h : Tab base B P w n g cap vs) (hb : Below w.heap.size w w') : Tab base B P w' n g cap vs :=
  ⟨h.pos, (hb.block P h.box.lt).trans h.box, h.row.same (hb.block g h.row.lt), fun i v hv => (h.nats i v hv).below hb, h.low, h.lowg, Nat.le_trans h.bound hb.size, h.few⟩
/-- there is a table -/
def Tb (base B P : Nat) (w : World) : Prop := ∃ n g cap vs, Tab base B P w n g cap vs
theorem Tb.after {base B P : Nat} {w w' : World} (h : Tb base B P w) (hb : Below w.heap.size w w') : Tb base B P w' := by
  obtain ⟨n, g, cap, vs, t⟩ := h
  exact ⟨n, g, cap, vs, t.after hb⟩
end Go.Proofs.YtopbfgmpilnghaaDoor

namespace Go.Proofs.YtopbfgmpilnghaaDoor
open Go.RowKit

theorem info_nats : (Tryd.prog.info? 22).map (fun i => (i.zero, i.size, i.bytes)) = some (some (.slice none 0 0), 1, 24) := by kernel_rfl

theorem Tab.val {base B P : Nat} {w : World} {n g cap : Nat} {vs : List Value} (h : Tab base B P w n g cap vs) {i : Nat} (hi : i < n) : ∃ v, vs[i]? = some v ∧ Nt w v (pw base i) := by
  have hl := h.row.len
  obtain ⟨v, hv⟩ : ∃ v, vs[i]? = some v := ⟨vs[i]'(by omega), List.getElem?_eq_getElem (by omega)⟩
  exact ⟨v, hv, h.nats i v hv⟩

theorem box_solid {W : World} {k : Nat} {v : Value} {e : TypeId} (h : Blk W k #[v] e) (hv : notInt v = true) : Solid W k := by
  intro j kk x he
  unfold Blk at h
  simp only [World.cell?, h] at he
  rcases j with _ | j
  · simp at he; subst he; cases hv
  · simp at he

/-- the table after one step -/
theorem Tab.step {base B P : Nat} {w : World} {n g cap : Nat} {vs : List Value} (h : Tab base B P w n g cap vs) (hn1 : n + 1 ≤ 1000000) {w2 w3 : World} {v : Value} {g' cap' : Nat} (hb : Below w.heap.size w w2) (hv : Nt w2 v (pw base n))
    (hs : Sl w3 g' 22 (n + 1) cap' (vs ++ [v])) (hg : (w2.alloc (.cells #[v] 22)).grownBy w3 (some g)) (ho : g' = g ∨ g' = (w2.alloc (.cells #[v] 22)).heap.size) :
    Tab base B P (w3.setCell ⟨P, 0, none⟩ (.slice (some ⟨g', 0, none⟩) (n + 1) cap')) (n + 1) g' cap' (vs ++ [v]) ∧ Kept B w (w3.setCell ⟨P, 0, none⟩ (.slice (some ⟨g', 0, none⟩) (n + 1) cap')) ∧
      w3.cell? ⟨P, 0, none⟩ = some (.slice (some ⟨g, 0, none⟩) n cap) ∧ w3.frozen? ⟨P, 0, none⟩ = false := by
  have hPg : P ≠ g := by
    rintro rfl
    obtain ⟨cur, hc, _, _, hsz, ht, _⟩ := h.row
    have hbx := h.box
    unfold Blk at hbx
    rw [hc] at hbx
    have e := Option.some.inj hbx
    injection e with e1 e2 e3
    exact absurd e2 (by decide)
  have hgl := h.row.lt
  have hPl := h.box.lt
  have hz2 := hb.size
  have hz3 : w2.heap.size + 1 ≤ w3.heap.size := by have := hg.size; rw [World.size_alloc] at this; exact this
  have hbx2 : Blk w2 P #[.slice (some ⟨g, 0, none⟩) n cap] 100 := (hb.block P hPl).trans h.box
  have hbx3 : Blk w3 P #[.slice (some ⟨g, 0, none⟩) n cap] 100 := (hbx2.alloc _).grown hg (by simp; exact hPg)
  have hPg' : g' ≠ P := by
    rcases ho with rfl | rfl
    · exact Ne.symm hPg
    · rw [World.size_alloc]; omega
  have hK2 : Kept B w w2 := Kept.after hb h.bound
  have hK3 : Kept B w2 w3 := by
    have hlow := h.lowg
    have hbd := h.bound
    refine ⟨?_, by omega, fun b hbl hns => ?_⟩
    · exact Below.grown ((Below.refl B w2).alloc (by omega) _) hg (by rw [World.size_alloc]; omega) (fun k e => by cases e; omega)
    · have hne : b ≠ g := by
        rintro rfl
        exact hns (h.row.same (hb.block b hgl)).solid
      exact (hg.block b (by rw [World.size_alloc]; omega) (by simpa using hne)).trans (heap_alloc_old w2 _ hbl)
  have hK4 : Kept B w3 (w3.setCell ⟨P, 0, none⟩ (.slice (some ⟨g', 0, none⟩) (n + 1) cap')) := by
    refine ⟨Below.setCell (Below.refl _ _) h.low _, by simp [World.setCell], fun b hbl hns => ?_⟩
    have hne : b ≠ P := by
      rintro rfl
      exact hns (box_solid hbx3 rfl)
    exact Below.heap_setCell _ _ _ _ (by simpa using hne)
  have hK := (hK2.trans hK3).trans hK4
  refine ⟨⟨by omega, hbx3.setCell, hs.same (Below.heap_setCell _ _ _ _ (by simpa using hPg')), fun i u hu => ?_, h.low, ?_, ?_, hn1⟩, hK, hbx3.cell rfl, hbx3.free⟩
  · by_cases hi : i < n
    · rw [List.getElem?_append_left (by rw [h.row.len]; exact hi)] at hu
      exact (h.nats i u hu).kept hK
    · have hl := h.row.len
      rw [List.getElem?_append_right (by omega)] at hu
      have hi2 : i = n := by
        have := (List.getElem?_eq_some_iff.1 hu).1
        simp at this
        omega
      subst hi2
      rw [hl, Nat.sub_self] at hu
      simp at hu
      subst hu
      exact (hv.kept hK3).kept hK4
  · rcases ho with rfl | rfl
    · exact h.lowg
    · rw [World.size_alloc]
      have := h.bound
      omega
  · have := hK.size
    have := h.bound
    omega

set_option maxRecDepth 100000 in
set_option maxHeartbeats 8000000 in
theorem power_any {base B P k : Nat} {w : World} (hk : k ≤ 100000) (ht : Hid (Tb base B P w)) (hm : Hid (∀ i, i < k → MulFit (pw base i) (pw base i))) (i : Int) (hi : i = (k : Int)) :
    Calls Tryd.prog 84 #[.int .i64 i, .pointer (some ⟨P, 0, none⟩)] w fun e w' => ∃ v, e = .returned v ∧ Nt w' v (pw base k) ∧ (∃ n g cap vs, Tab base B P w' n g cap vs ∧ k < n) ∧ Kept B w w' := by
  subst hi
  obtain ⟨i0, hi, hz0, hz1, hz2⟩ := info_parts info_nats
  go_enter Tryd.func84, Tryd.ntmps84
  go_wp2_with fail
  obtain ⟨n, g, cap, vs, ht0⟩ := ht.out
  have HT := Lib.hid ht0
  clear ht0
  go_loopg [4] (k + 1 - n) (fun gk s4 wr => ∃ (n g cap : Nat) (vs : List Value), gk = k + 1 - n ∧ Hid (Tab base B P wr n g cap vs) ∧ Hid (Kept B w wr))
  case atStart => exact ⟨n, g, cap, vs, rfl, HT, Kept.refl _ _⟩
  case round =>
    clear HT
    obtain ⟨n, g, cap, vs, rfl, ht, hkp⟩ := hrel
    have hpos := ht.out.pos
    have c0 := Blk.cell (cs := #[_]) ht.out.box rfl
    by_cases hle : n ≤ k
    · obtain ⟨v, hv, nv⟩ := ht.out.val (show n - 1 < n by omega)
      obtain ⟨av, cv, fv, rfl, -⟩ := nv.open
      have hfit := hm.out (n - 1) (by omega)
      have hc1 := ht.out.row.cell hv
      have hmul := mul_fit (w := wr.drew) (nv.below (Drawn.below ⟨1, rfl⟩)) (nv.below (Drawn.below ⟨1, rfl⟩)) hfit
      rw [← pw_succ, show n - 1 + 1 = n by omega] at hmul
      have HM := Lib.hid hmul
      clear hmul nv hv hfit
      generalize limbs (pw base (n - 1)) = lv at *
      go_wp2_with fail
      have c0d : wr.drew.cell? ⟨P, 0, none⟩ = some (.slice (some ⟨g, 0, none⟩) n cap) := c0
      go_region_law (first
        | (go_simp; go_at_call 67; (with_reducible refine HM.out.mono ?_); rintro e w2 ⟨v2, rfl, hv2, hb2⟩; obtain ⟨a2, c2, f2, rfl, -⟩ := hv2.open; have c02 : w2.cell? ⟨P, 0, none⟩ = some (.slice (some ⟨g, 0, none⟩) n cap) := (hb2.cell (p := ⟨P, 0, none⟩) ht.out.box.lt).trans c0d; have c03 : (w2.alloc (.cells #[.slice a2 (limbs (pw base n)) c2] 22)).cell? ⟨P, 0, none⟩ = some (.slice (some ⟨g, 0, none⟩) n cap) := (World.cell?_alloc_lt _ _ _ (Nat.lt_of_lt_of_le ht.out.box.lt hb2.size)).trans c02; have HV2 := Lib.hid hv2; have HB2 := Lib.hid hb2; clear hv2 hb2)
        | (refine step_append_sl rfl (.tmp 15) (.tmp 19) 100 rfl 22 i0 (.slice none 0 0) 24 Tryd.underlying100 hi hz0 hz1 hz2 rfl rfl g n cap vs rfl ((ht.out.row.same (HB2.out.block g ht.out.row.lt)).same (heap_alloc_old _ _ (Nat.lt_of_lt_of_le ht.out.row.lt HB2.out.size))) ⟨w2.heap.size, 0, none⟩ 1 (.slice a2 (limbs (pw base n)) c2) rfl (cell_one_new w2 _ _ 0 _ rfl) rfl rfl (by unfold maxLen; omega) (by omega) ?_; intro g3 cap3 w3 hsl3 hgr3 hor3; obtain ⟨hT3, hK3, e3, e4⟩ := ht.out.step (by omega) ((Drawn.below (B := wr.heap.size) ⟨1, rfl⟩).trans HB2.out) HV2.out hsl3 hgr3 hor3; have HT3 := Lib.hid hT3; have HK3 := Lib.hid hK3; clear hT3 hK3 hsl3 hgr3 hor3))
      all_goals
        go_wp2_with fail
        go_roundg (k + 1 - (n + 1))
        case measure => omega
        case rel => exact ⟨n + 1, g3, cap3, _, rfl, HT3, hkp.out.trans HK3.out⟩
    · obtain ⟨v, hv, nv⟩ := ht.out.val (show k < n by omega)
      obtain ⟨av, cv, fv, rfl, -⟩ := nv.open
      have hc1 := ht.out.row.cell hv
      have HNV := Lib.hid nv
      clear nv hv
      generalize hlv : limbs (pw base k) = lv at *
      have HLV := Lib.hid hlv
      clear hlv
      go_wp2_with fail
      go_ret
      exact ⟨_, rfl, HNV.out, ⟨n, g, cap, vs, ht.out, by omega⟩, hkp.out⟩

theorem limbs_small {a : Nat} (h : a < 4294967296) : limbs a ≤ 1 := limbs_le (by simpa using h)

set_option maxRecDepth 100000 in
set_option maxHeartbeats 2000000 in
theorem powers_any {base : Nat} (hb : 2 ≤ base) (hb2 : base ≤ 36) (w : World) (i : Int) (hi : i = (base : Int)) :
    Calls Tryd.prog 62 #[.int .i64 i] w fun e w' => ∃ P, e = .returned (.func (.func 84) #[] #[.pointer (some ⟨P, 0, none⟩)]) ∧ Tb base w.heap.size P w' ∧ Below w.heap.size w w' := by
  subst hi
  have h5 : base ^ 5 ≤ 36 ^ 5 := Nat.pow_le_pow_left hb2 5
  have hp5 : Hid (PFit (base ^ 5)) := PFit.of (by have := limbs_small (a := base ^ 5) (by omega); omega)
  clear h5
  go_enter Tryd.func62, Tryd.ntmps62
  go_wp2_with fail
  (with_reducible refine (of_any (x := base) (by omega) _ (by omega) _).mono ?_)
  rintro e w1 ⟨v1, rfl, hv1, hb1⟩
  go_wp2_with fail
  (with_reducible refine (pow_nt hv1 (by omega) 5 _ (by omega) (by omega) hp5.out).mono ?_)
  rintro e w2 ⟨v2, rfl, hv2, hb2⟩
  obtain ⟨a2, c2, f2, rfl, -⟩ := hv2.open
  have HV2 := Lib.hid hv2
  have HB : Hid (After w w2) := After.t hb1 hb2
  clear hv1 hb1 hb2 hv2
  generalize hl : limbs (base ^ 5) = l2 at *
  have HL := Lib.hid hl
  clear hl
  go_wp2_with fail
  go_ret
  refine ⟨w2.heap.size + 1, rfl, ⟨1, w2.heap.size, 1, [.slice a2 l2 c2], ?_⟩, ?_⟩
  · have hsz := HB.out.out.size
    have hg : ((w2.alloc (.cells #[.slice a2 l2 c2] 22)).alloc (.cells #[.slice (some ⟨w2.heap.size, 0, none⟩) 1 1] 100)).heap[w2.heap.size]? = some (.cells #[.slice a2 l2 c2] 22 (0, 0)) := by
      rw [heap_alloc_old _ _ (by simp)]
      exact heap_alloc_new w2 _
    have hP : Blk ((w2.alloc (.cells #[.slice a2 l2 c2] 22)).alloc (.cells #[.slice (some ⟨w2.heap.size, 0, none⟩) 1 1] 100)) (w2.heap.size + 1) #[.slice (some ⟨w2.heap.size, 0, none⟩) 1 1] 100 := by
      have := Blk.new (w2.alloc (.cells #[.slice a2 l2 c2] 22)) #[.slice (some ⟨w2.heap.size, 0, none⟩) 1 1] 100
      rw [World.size_alloc] at this
      exact this
    refine ⟨by omega, hP, ⟨#[.slice a2 l2 c2], hg, by omega, by unfold maxLen; omega, rfl, rfl, by simp [notInt]⟩, fun i v hv => ?_, by omega, by omega, by simp; omega, by omega⟩
    rcases i with _ | i
    · simp at hv
      subst hv
      have hn : Nt w2 (.slice a2 l2 c2) (pw base 0) := HV2.out
      exact hn.below (After.alloc (After.alloc (After.refl w2) _) _)
    · simp at hv
  · exact (After.alloc (After.alloc HB.out _) _).out
end Go.Proofs.YtopbfgmpilnghaaDoor
