/- div.take and div.back: so many times the divisor from a part of a row, and back. div.back: the divisor is given back to a part of a row. nat.Of, nat.Low; radix.may, radix.worth. radix.worth: what a byte is worth as a digit. The closure of slices.Backward as an iterator: whatever loop body it is handed, it comes by each limb, the last one first. -/
import Derived.Test.YtopbfgmpilnghaaDoorMuls
import Derived.Deep.RegionHeld3
set_option linter.unusedVariables false
set_option linter.unusedSimpArgs false
namespace Go.Proofs.YtopbfgmpilnghaaDoor
open Go.RowKit

/-- a block whose first n cells are numbers -/
def Row (k : IntKind) (W : World) (g : Nat) (e : TypeId) (n : Nat) (f : Nat → Nat) : Prop :=
  ∃ cs : Array Value, W.heap[g]? = some (.cells cs e (0, 0)) ∧ n ≤ cs.size ∧ ∀ j, j < n → cs[j]? = some (.int k (f j))
theorem Row.lt {k : IntKind} {W : World} {g : Nat} {e : TypeId} {n : Nat} {f : Nat → Nat} (h : Row k W g e n f) : g < W.heap.size := by
  obtain ⟨cs, hb, _⟩ := h
  exact (Array.getElem?_eq_some_iff.1 hb).1
theorem Row.cell {k : IntKind} {W : World} {g : Nat} {e : TypeId} {n : Nat} {f : Nat → Nat} (h : Row k W g e n f) {j : Nat} (hj : j < n) : W.cell? ⟨g, j, none⟩ = some (.int k (f j)) := by
  obtain ⟨cs, hb, hs, hc⟩ := h
  simp only [World.cell?, hb]
  exact hc j hj
theorem Row.free {k : IntKind} {W : World} {g : Nat} {e : TypeId} {n : Nat} {f : Nat → Nat} (h : Row k W g e n f) (j : Nat) : W.frozen? ⟨g, j, none⟩ = false := by
  obtain ⟨cs, hb, hs, hc⟩ := h
  simp [World.frozen?, hb]
theorem Row.same {k : IntKind} {W W' : World} {g : Nat} {e : TypeId} {n : Nat} {f : Nat → Nat} (h : Row k W g e n f) (hb : W'.heap[g]? = W.heap[g]?) : Row k W' g e n f := by
  obtain ⟨cs, hc, hr⟩ := h
  exact ⟨cs, hb.trans hc, hr⟩
theorem Row.congr {k : IntKind} {W : World} {g : Nat} {e : TypeId} {n : Nat} {f f' : Nat → Nat} (h : Row k W g e n f) (hf : ∀ j, j < n → f j = f' j) : Row k W g e n f' := by
  obtain ⟨cs, hb, hs, hc⟩ := h
  exact ⟨cs, hb, hs, fun j hj => by rw [hc j hj, hf j hj]⟩
theorem Row.put {k : IntKind} {W : World} {g : Nat} {e : TypeId} {n : Nat} {f : Nat → Nat} (h : Row k W g e n f) (i x : Nat) {v : Int} (hv : v = (x : Int)) : Row k (W.setCell ⟨g, i, none⟩ (.int k v)) g e n (upd f i x) := by
  subst hv
  obtain ⟨cs, hb, hs, hc⟩ := h
  refine ⟨cs.setIfInBounds i (.int k x), ?_, by simpa using hs, fun j hj => ?_⟩
  · simp [World.setCell, Array.getElem?_modify, hb]
  · rw [Array.getElem?_setIfInBounds]
    by_cases e : i = j
    · subst e; simp [upd, show i < cs.size from by omega]
    · rw [if_neg e, hc j hj, upd_other f x (Ne.symm e)]

/-- nothing is turned but the block g -/
structure Only (g : Nat) (w w' : World) : Prop where
  os : w'.os = w.os
  tape : w'.tape = w.tape
  output : w'.output = w.output
  size : w.heap.size ≤ w'.heap.size
  block : ∀ k, k < w.heap.size → k ≠ g → w'.heap[k]? = w.heap[k]?
theorem Only.refl (g : Nat) (w : World) : Only g w w := ⟨rfl, rfl, rfl, Nat.le_refl _, fun _ _ _ => rfl⟩
theorem Only.trans {g : Nat} {a b c : World} (h : Only g a b) (k : Only g b c) : Only g a c :=
  ⟨k.os.trans h.os, k.tape.trans h.tape, k.output.trans h.output, Nat.le_trans h.size k.size, fun j hj hn => (k.block j (Nat.lt_of_lt_of_le hj h.size) hn).trans (h.block j hj hn)⟩
theorem Only.set {g : Nat} {a b : World} (h : Only g a b) (i : Nat) (v : Value) : Only g a (b.setCell ⟨g, i, none⟩ v) :=
  h.trans ⟨rfl, rfl, rfl, by simp [World.setCell], fun k _ hn => Below.heap_setCell _ _ _ _ hn⟩
theorem Only.drawn {g : Nat} {a b c : World} (h : Only g a b) (d : Drawn b c) : Only g a c := by
  obtain ⟨q, rfl⟩ := d
  exact h.trans ⟨rfl, rfl, rfl, Nat.le_refl _, fun _ _ _ => rfl⟩
theorem Only.of_below {g : Nat} {w w' : World} (h : Below w.heap.size w w') : Only g w w' := ⟨h.os, h.tape, h.output, h.size, fun k hk _ => h.block k hk⟩
theorem Only.below {B g : Nat} {a w w' : World} (h : Below B a w) (k : Only g w w') (hg : B ≤ g) (hB : B ≤ a.heap.size) : Below B a w' :=
  ⟨k.os.trans h.os, k.tape.trans h.tape, k.output.trans h.output, Nat.le_trans h.size k.size, fun j hj => (k.block j (by have := h.size; omega) (by omega)).trans (h.block j hj)⟩
theorem Only.cell {g : Nat} {w w' : World} (h : Only g w w') {p : Addr} (hp : p.block < w.heap.size) (hn : p.block ≠ g) : w'.cell? p = w.cell? p := World.cell?_of_block (w := w) (h.block p.block hp hn)

/-- q times y is being taken from x: k limbs are done; c is carried, t borrowed -/
structure Taking (x y : Nat → Nat) (q : Nat) (G : Nat → Nat) (k c t : Nat) : Prop where
  carry : c < 4294967296
  owed : t ≤ 1
  sum : nv x k + t * 4294967296 ^ k + c * 4294967296 ^ k = nv G k + q * nv y k

theorem Taking.start (x y : Nat → Nat) (q : Nat) (G : Nat → Nat) : Taking x y q G 0 0 0 := ⟨by omega, by omega, by simp [nv]⟩

theorem Taking.step {x y G : Nat → Nat} {q k c t : Nat} (h : Taking x y q G k c t) (hx : x k < 4294967296) (hy : y k < 4294967296) (hq : q < 4294967296) :
    Taking x y q (upd G k ((x k + 4294967296 - (q * y k + c) % 4294967296 - t) % 4294967296)) (k + 1) ((q * y k + c) / 4294967296) (borrow (x k) ((q * y k + c) % 4294967296) t) := by
  obtain ⟨h1, h2, h3⟩ := h
  have hb : q * y k ≤ 4294967295 * 4294967295 := Nat.mul_le_mul (by omega) (by omega)
  have e1 : nv (upd G k ((x k + 4294967296 - (q * y k + c) % 4294967296 - t) % 4294967296)) k = nv G k := nv_congr (fun j hj => upd_other _ _ (by omega))
  refine ⟨by omega, by unfold borrow; split <;> omega, ?_⟩
  simp only [nv, upd_same, e1]
  rw [Nat.mul_add q, Nat.pow_succ]
  have e2 : q * (y k * 4294967296 ^ k) = (q * y k) * 4294967296 ^ k := by rw [Nat.mul_assoc]
  rw [e2]
  generalize q * y k = p at *
  generalize hP : 4294967296 ^ k = P at *
  generalize q * nv y k = Y at *
  have hk : x k + 4294967296 * borrow (x k) ((p + c) % 4294967296) t + 4294967296 * ((p + c) / 4294967296) = (x k + 4294967296 - (p + c) % 4294967296 - t) % 4294967296 + p + c + t := by
    unfold borrow
    split <;> omega
  generalize borrow (x k) ((p + c) % 4294967296) t = t' at *
  generalize (x k + 4294967296 - (p + c) % 4294967296 - t) % 4294967296 = z at *
  generalize (p + c) / 4294967296 = c' at *
  clear hb e1 e2 h1 h2 hP
  have hm := congrArg (· * P) hk
  simp only [Nat.add_mul, Nat.mul_assoc] at hm
  have e5 : ∀ u, u * (P * 4294967296) = 4294967296 * (u * P) := fun u => by rw [← Nat.mul_assoc, Nat.mul_comm]
  rw [e5 t', e5 c']
  clear e5 hk
  generalize x k * P = a1 at *
  generalize t' * P = a2 at *
  generalize c' * P = a3 at *
  generalize z * P = a4 at *
  generalize p * P = a5 at *
  generalize c * P = a6 at *
  generalize t * P = a7 at *
  omega
theorem upd_shift (G : Nat → Nat) (off k v : Nat) : (fun j => upd G (off + k) v (off + j)) = upd (fun j => G (off + j)) k v := by
  funext j
  unfold upd
  by_cases h : j = k
  · rw [if_pos (by omega), if_pos h]
  · rw [if_neg (by omega), if_neg h]

/-- the limbs of y, and noughts behind -/
def ext (f : Nat → Nat) (m : Nat) (j : Nat) : Nat := if j < m then f j else 0
theorem ext_nv (f : Nat → Nat) (m : Nat) : nv (ext f m) (m + 1) = nv f m := by
  have h : nv (ext f m) m = nv f m := nv_congr (fun j hj => by unfold ext; rw [if_pos hj])
  simp only [nv]
  rw [h]
  unfold ext
  rw [if_neg (by omega), Nat.zero_mul, Nat.add_zero]

/-- the row while it is taken from -/
structure TakeIn (F y : Nat → Nat) (q off N k c t : Nat) (G : Nat → Nat) : Prop where
  fits : Fits N G
  taking : Taking (fun j => F (off + j)) y q (fun j => G (off + j)) k c t
  else' : ∀ j, j < off ∨ off + k ≤ j → G j = F j

theorem TakeIn.start {F y : Nat → Nat} {q off N : Nat} (hF : Fits N F) : TakeIn F y q off N 0 0 0 F := ⟨hF, Taking.start _ _ _ _, fun _ _ => rfl⟩
theorem TakeIn.step {F y G : Nat → Nat} {q off N k c t : Nat} (h : TakeIn F y q off N k c t G) (hk : off + k < N) (hF : Fits N F) (hy : y k < 4294967296) (hq : q < 4294967296) :
    TakeIn F y q off N (k + 1) ((q * y k + c) / 4294967296) (borrow (F (off + k)) ((q * y k + c) % 4294967296) t) (upd G (off + k) ((F (off + k) + 4294967296 - (q * y k + c) % 4294967296 - t) % 4294967296)) := by
  refine ⟨h.fits.upd _ (by omega), ?_, fun j hj => ?_⟩
  · have := h.taking.step (hF (off + k) hk) hy hq
    rw [upd_shift]
    exact this
  · rw [upd_other _ _ (by omega)]
    exact h.else' j (by omega)

theorem sub32_int (x y c : Nat) (yi : Int) (w : World) (hyi : yi = (y : Int)) (hx : x < 4294967296) (hy : y < 4294967296) (hc : c ≤ 1) :
    Calls Tryd.prog 100 #[.int .u32 x, .int .u32 yi, .int .u32 c] w fun e w' =>
      e = .returned (.tuple #[.int .u32 (((x + 4294967296 - y - c) % 4294967296 : Nat) : Int), .int .u32 (borrow x y c : Int)]) ∧ w = w' := by
  subst hyi
  exact sub32_any x y c w hx hy hc

set_option maxRecDepth 100000 in
set_option maxHeartbeats 2000000 in
theorem take_any {g off m N bb ob cx cb q : Nat} {e : TypeId} {F fb : Nat → Nat} {w : World} (hm : m ≤ 1000000000) (hq : q < 4294967296) (hN : Hid (off + m + 1 ≤ N)) (hr : Hid (Row .u32 w g e N F)) (hF : Hid (Fits N F)) (hf : Hid (Fits m fb)) (hb : Hid (bb < w.heap.size ∧ bb ≠ g))
    (hc : Hid (∀ j, j < m → w.cell? ⟨bb, ob + j, none⟩ = some (.int .u32 (fb j)))) :
    Calls Tryd.prog 96 #[.slice (some ⟨g, off, none⟩) (m + 1) cx, .slice (some ⟨bb, ob, none⟩) m cb, .int .u64 q] w fun e1 w' =>
      ∃ (t : Nat) (G : Nat → Nat), e1 = .returned (.bool (decide (0 < t))) ∧ Row .u32 w' g e N G ∧ TakeIn F (ext fb m) q off N (m + 1) 0 t G ∧ Only g w w' := by
  go_enter Tryd.func96, Tryd.ntmps96
  go_wp2_with fail
  go_loopw [7, 8, 14] (fun cv tv i wr => ∃ (k c t : Nat) (G : Nat → Nat), k ≤ m + 1 ∧ i = .int .i64 k ∧ cv = .int .u64 c ∧ tv = .int .u32 t ∧ Hid (Row .u32 wr g e N G) ∧ Hid (TakeIn F (ext fb m) q off N k c t G) ∧ Hid (Only g w wr) ∧ Hid (k = m + 1 → c = 0)) (fun _ _ i _ => m + 1 - (intOf i).toNat)
  case atStart => exact ⟨0, 0, 0, F, by omega, rfl, rfl, rfl, hr, TakeIn.start hF.out, Only.refl _ _, fun _ => rfl⟩
  case round =>
    obtain ⟨k, c, t, G, hk, rfl, rfl, rfl, hrow, hti, hon, hc0⟩ := hrel
    have hcc := hti.out.taking.carry
    have htt := hti.out.taking.owed
    by_cases hlt : k < m
    · have hcell : wr.cell? ⟨bb, ob + k, none⟩ = _ := (hon.out.cell (p := ⟨bb, ob + k, none⟩) hb.out.1 hb.out.2).trans (hc.out k hlt)
      have hfk := hf.out k hlt
      have hx := hrow.out.cell (j := off + k) (by have := hN.out; omega)
      have hGF := hti.out.else' (off + k) (by omega)
      rw [hGF] at hx
      have hFk := hF.out (off + k) (by have := hN.out; omega)
      have hfree := hrow.out.free (off + k)
      have hbd := cell_bound hcc (show q < 4294967296 by omega) hfk hFk
      have hstep := Lib.hid (hti.out.step (by have := hN.out; omega) hF.out (show ext fb m k < 4294967296 by unfold ext; rw [if_pos hlt]; exact hfk) hq)
      rw [show ext fb m k = fb k by unfold ext; rw [if_pos hlt]] at hstep
      generalize F (off + k) = x at *
      generalize fb k = y at *
      have hP : ((q : Int) * (y : Int)) = ((q * y : Nat) : Int) := (Int.natCast_mul q y).symm
      generalize q * y = p at *
      rw [hP] at hbd
      go_wp2_with fail
      (with_reducible refine (sub32_int x ((p + c) % 4294967296) t _ _ (by omega) hFk (by omega) htt).mono ?_)
      rintro e1 w2 ⟨rfl, rfl⟩
      generalize hz : (x + 4294967296 - (p + c) % 4294967296 - t) % 4294967296 = z at *
      generalize hbo : borrow x ((p + c) % 4294967296) t = t' at *
      have hzl : z < 4294967296 := by omega
      go_wp2_with fail
      go_roundw
      case rel => exact ⟨k + 1, (p + c) / 4294967296, t', _, by omega, by go_num, val_eq (by omega), rfl, hrow.out.put (off + k) z rfl, hstep.out, hon.out.set _ _, fun h => absurd h (by omega)⟩
      case measure => simp [intOf] <;> omega
    · by_cases hlast : k = m
      · subst hlast
        have hx := hrow.out.cell (j := off + k) (by have := hN.out; omega)
        have hGF := hti.out.else' (off + k) (by omega)
        rw [hGF] at hx
        have hFk := hF.out (off + k) (by have := hN.out; omega)
        have hfree := hrow.out.free (off + k)
        have hstep := Lib.hid (hti.out.step (by have := hN.out; omega) hF.out (show ext fb k k < 4294967296 by unfold ext; rw [if_neg (by omega)]; omega) hq)
        rw [show ext fb k k = 0 by unfold ext; rw [if_neg (by omega)], Nat.mul_zero, Nat.zero_add] at hstep
        generalize F (off + k) = x at *
        go_wp2_with fail
        (with_reducible refine (sub32_int x (c % 4294967296) t _ _ (by omega) hFk (by omega) htt).mono ?_)
        rintro e1 w2 ⟨rfl, rfl⟩
        generalize hz : (x + 4294967296 - c % 4294967296 - t) % 4294967296 = z at *
        generalize hbo : borrow x (c % 4294967296) t = t' at *
        have hzl : z < 4294967296 := by omega
        go_wp2_with fail
        go_roundw
        case rel => exact ⟨k + 1, c / 4294967296, t', _, by omega, by go_num, val_eq (by omega), rfl, hrow.out.put (off + k) z rfl, hstep.out, hon.out.set _ _, fun _ => Nat.div_eq_of_lt hcc⟩
        case measure => simp [intOf] <;> omega
      · obtain rfl : k = m + 1 := by omega
        obtain rfl : c = 0 := hc0.out rfl
        go_wp2_with fail
        go_ret
        first | exact ⟨t, G, rfl, hrow.out, hti.out, hon.out⟩ | exact ⟨t, rfl, G, hrow.out, hti.out, hon.out⟩
end Go.Proofs.YtopbfgmpilnghaaDoor

namespace Go.Proofs.YtopbfgmpilnghaaDoor
open Go.RowKit

/-- the row while y is given back: k limbs are done, t is carried -/
structure BackIn (F y : Nat → Nat) (off N k t : Nat) (G : Nat → Nat) : Prop where
  fits : Fits N G
  owed : t ≤ 1
  sum : nv (fun j => F (off + j)) k + nv y k = nv (fun j => G (off + j)) k + t * 4294967296 ^ k
  else' : ∀ j, j < off ∨ off + k ≤ j → G j = F j

theorem BackIn.start {F y : Nat → Nat} {off N : Nat} (hF : Fits N F) : BackIn F y off N 0 0 F := ⟨hF, by omega, by simp [nv], fun _ _ => rfl⟩
theorem BackIn.step {F y G : Nat → Nat} {off N k t : Nat} (h : BackIn F y off N k t G) (hk : off + k < N) (hF : Fits N F) (hy : y k < 4294967296) :
    BackIn F y off N (k + 1) ((F (off + k) + y k + t) / 4294967296) (upd G (off + k) ((F (off + k) + y k + t) % 4294967296)) := by
  obtain ⟨h1, h2, h3, h4⟩ := h
  have hFk := hF (off + k) hk
  refine ⟨h1.upd _ (by omega), by omega, ?_, fun j hj => ?_⟩
  · rw [upd_shift]
    have e1 : nv (upd (fun j => G (off + j)) k ((F (off + k) + y k + t) % 4294967296)) k = nv (fun j => G (off + j)) k := nv_congr (fun j hj => upd_other _ _ (by omega))
    simp only [nv, upd_same, e1, Nat.pow_succ]
    have hk2 : F (off + k) + y k + t = (F (off + k) + y k + t) % 4294967296 + 4294967296 * ((F (off + k) + y k + t) / 4294967296) := by omega
    generalize (F (off + k) + y k + t) % 4294967296 = z at *
    generalize (F (off + k) + y k + t) / 4294967296 = t' at *
    generalize 4294967296 ^ k = P at *
    have hm := congrArg (· * P) hk2
    simp only [Nat.add_mul, Nat.mul_assoc] at hm
    have e5 : t' * (P * 4294967296) = 4294967296 * (t' * P) := by rw [← Nat.mul_assoc, Nat.mul_comm]
    rw [e5]
    clear e5 hk2 e1
    generalize F (off + k) * P = a1 at *
    generalize y k * P = a2 at *
    generalize t * P = a3 at *
    generalize z * P = a4 at *
    generalize t' * P = a5 at *
    omega
  · rw [upd_other _ _ (by omega)]
    exact h4 j (by omega)

theorem cell_apart {W : World} {g bb i j : Nat} {x v : Value} (h : W.cell? ⟨bb, j, none⟩ = some x) (hn : bb ≠ g) : (W.setCell ⟨g, i, none⟩ v).cell? ⟨bb, j, none⟩ = some x :=
  (World.cell?_of_block (w := W) (Below.heap_setCell W ⟨g, i, none⟩ v bb hn)).trans h

set_option maxRecDepth 100000 in
set_option maxHeartbeats 2000000 in
theorem back_any {g off m N bb ob cx cb : Nat} {e : TypeId} {F fb : Nat → Nat} {w : World} (hm : m ≤ 1000000000) (hN : Hid (off + m + 1 ≤ N)) (hr : Hid (Row .u32 w g e N F)) (hF : Hid (Fits N F)) (hf : Hid (Fits m fb)) (hb : Hid (bb < w.heap.size ∧ bb ≠ g))
    (hc : Hid (∀ j, j < m → w.cell? ⟨bb, ob + j, none⟩ = some (.int .u32 (fb j)))) :
    Calls Tryd.prog 97 #[.slice (some ⟨g, off, none⟩) (m + 1) cx, .slice (some ⟨bb, ob, none⟩) m cb] w fun e1 w' =>
      ∃ (s : Nat) (G : Nat → Nat), e1 = .returned (.tuple #[]) ∧ Row .u32 w' g e N G ∧ BackIn F (ext fb m) off N (m + 1) s G ∧ Only g w w' := by
  go_enter Tryd.func97, Tryd.ntmps97
  go_wp2_with fail
  go_loopw [4, 8] (fun tv i wr => ∃ (k t : Nat) (G : Nat → Nat), k ≤ m ∧ i = .int .i64 k ∧ tv = .int .u32 t ∧ Hid (Row .u32 wr g e N G) ∧ Hid (BackIn F (ext fb m) off N k t G) ∧ Hid (Only g w wr)) (fun _ i _ => m - (intOf i).toNat)
  case atStart => exact ⟨0, 0, F, by omega, rfl, rfl, hr, BackIn.start hF.out, Only.refl _ _⟩
  case round =>
    obtain ⟨k, t, G, hk, rfl, rfl, hrow, hti, hon⟩ := hrel
    have htt := hti.out.owed
    have hGF := hti.out.else' (off + k) (by omega)
    have hx := hrow.out.cell (j := off + k) (by have := hN.out; omega)
    rw [hGF] at hx
    have hFk := hF.out (off + k) (by have := hN.out; omega)
    have hfree := hrow.out.free (off + k)
    have hne := Lib.hid hb.out.2
    by_cases hlt : k < m
    · have hcell : wr.cell? ⟨bb, ob + k, none⟩ = _ := (hon.out.cell (p := ⟨bb, ob + k, none⟩) hb.out.1 hb.out.2).trans (hc.out k hlt)
      have hfk := hf.out k hlt
      have hstep := Lib.hid (hti.out.step (by have := hN.out; omega) hF.out (show ext fb m k < 4294967296 by unfold ext; rw [if_pos hlt]; exact hfk))
      rw [show ext fb m k = fb k by unfold ext; rw [if_pos hlt]] at hstep
      clear hGF
      generalize F (off + k) = x at *
      generalize fb k = y at *
      go_wp2_with fail
      have hx' : wr.drew.cell? ⟨g, off + k, none⟩ = some (.int .u32 x) := hx
      have hfree' : wr.drew.frozen? ⟨g, off + k, none⟩ = false := hfree
      have hcell' : wr.drew.cell? ⟨bb, ob + k, none⟩ = some (.int .u32 y) := hcell
      go_region_with (first
          | (go_at_call 99; (with_reducible refine (add32_any x y t _ hFk hfk (by omega)).mono ?_); rintro e1 w2 ⟨rfl, rfl⟩))
      all_goals
        go_wp2_with fail
        go_roundw
        case rel => exact ⟨k + 1, (x + y + t) / 4294967296, _, by omega, by go_num, val_eq (by omega), (hrow.out.put (off + k) ((x + y + t) % 4294967296) (by omega)).same rfl, hstep.out, (hon.out.set _ _).drawn ⟨1, rfl⟩⟩
        case measure => simp [intOf] <;> omega
    · obtain rfl : k = m := by omega
      have hstep := Lib.hid (hti.out.step (by have := hN.out; omega) hF.out (show ext fb k k < 4294967296 by unfold ext; rw [if_neg (by omega)]; omega))
      rw [show ext fb k k = 0 by unfold ext; rw [if_neg (by omega)], Nat.add_zero] at hstep
      clear hGF
      generalize F (off + k) = x at *
      go_wp2_with fail
      refine bodyPost_end (results_none rfl _ _ _) rfl ?_
      exact ⟨(x + t) / 4294967296, _, rfl, hrow.out.put (off + k) ((x + t) % 4294967296) (by omega), hstep.out, hon.out.set _ _⟩
end Go.Proofs.YtopbfgmpilnghaaDoor

namespace Go.Proofs.YtopbfgmpilnghaaDoor
open Go.RowKit

/-- the two limbs of a number -/
def duo (x : Nat) (j : Nat) : Nat := if j = 0 then x % 4294967296 else x / 4294967296
theorem duo_nv (x : Nat) : nv (duo x) 2 = x := by simp [nv, duo]; omega
theorem duo_fits {x : Nat} (h : x < 18446744073709551616) : Fits 2 (duo x) := fun j _ => by unfold duo; split <;> omega
theorem duo_rd (w : World) (x : Nat) (t : TypeId) (lo hi : Int) (hl : lo = ((x % 4294967296 : Nat) : Int)) (hh : hi = ((x / 4294967296 : Nat) : Int)) : Rd .u32 (w.alloc (.cells #[.int .u32 lo, .int .u32 hi] t)) (.slice (some ⟨w.heap.size, 0, none⟩) 2 2) 2 (duo x) := by
  have h := heap_alloc_new w (.cells #[.int .u32 lo, .int .u32 hi] t)
  refine ⟨_, 2, rfl, Nat.le_refl _, by unfold maxLen; omega, fun _ => ⟨w.heap.size, 0, rfl, (Array.getElem?_eq_some_iff.1 h).1, fun j hj => ?_⟩⟩
  simp only [World.cell?]
  rw [h]
  subst hl hh
  rcases j with _ | _ | j
  · rfl
  · rfl
  · omega

set_option maxRecDepth 100000 in
set_option maxHeartbeats 2000000 in
/-- nat.Of: the natural. -/
theorem of_any {x : Nat} (hx : x < 18446744073709551616) (i : Int) (hi : i = (x : Int)) (w : World) :
    Calls Tryd.prog 66 #[.int .u64 i] w fun e w' => ∃ v, e = .returned v ∧ Nt w' v x ∧ Below w.heap.size w w' := by
  subst hi
  go_enter Tryd.func66, Tryd.ntmps66
  go_wp2_with fail
  (with_reducible refine (make_nt (duo_rd w x _ _ _ (by omega) (by omega)) (by omega) (duo_fits hx)).mono ?_)
  rintro e w3 ⟨v, rfl, hv, hb⟩
  rw [duo_nv] at hv
  go_wp2_with fail
  go_ret
  exact ⟨v, rfl, hv, After.t (After.alloc (After.refl w) _) hb⟩

/-- what bases there are -/
theorem may_any (b : Int) (w : World) : Calls Tryd.prog 61 #[.int .i64 b] w fun e w' => e = .returned (.bool (decide (2 ≤ b ∧ b ≤ 36))) ∧ w' = w := by
  by_cases h1 : 2 ≤ b
  · have hd : decide (2 ≤ b) = true := decide_eq_true h1
    rw [show decide (2 ≤ b ∧ b ≤ 36) = decide (b ≤ 36) by simp [h1]]
    go_enter Tryd.func61, Tryd.ntmps61
    go_wp2_with fail
    go_ret
    exact ⟨rfl, rfl⟩
  · have hd : decide (2 ≤ b) = false := decide_eq_false h1
    rw [show decide (2 ≤ b ∧ b ≤ 36) = false by simp [h1]]
    go_enter Tryd.func61, Tryd.ntmps61
    go_wp2_with fail
    go_ret
    exact ⟨rfl, rfl⟩
end Go.Proofs.YtopbfgmpilnghaaDoor

namespace Go.Proofs.YtopbfgmpilnghaaDoor
open Go.RowKit

def worthOf (c : Nat) : Nat := if 48 ≤ c ∧ c ≤ 57 then c - 48 else if 97 ≤ c ∧ c ≤ 122 then c - 87 else 36

set_option maxRecDepth 100000 in
set_option maxHeartbeats 2000000 in
theorem worth_any {c : Nat} (hc : c < 256) (i : Int) (hi : i = (c : Int)) (w : World) : Calls Tryd.prog 68 #[.int .u8 i] w fun e w' => e = .returned (.int .i64 (worthOf c)) ∧ w' = w := by
  subst hi
  unfold worthOf
  by_cases h1 : 48 ≤ c
  · have hd1 : decide (48 ≤ c) = true := decide_eq_true h1
    by_cases h2 : c ≤ 57
    · have hd2 : decide (c ≤ 57) = true := decide_eq_true h2
      rw [if_pos ⟨h1, h2⟩]
      go_enter Tryd.func68, Tryd.ntmps68
      go_wp2_with fail
      all_goals
        go_ret
        exact ⟨congrArg (fun z => Ending.returned (.int .i64 z)) (by omega), rfl⟩
    · have hd2 : decide (c ≤ 57) = false := decide_eq_false h2
      rw [if_neg (by omega)]
      by_cases h3 : 97 ≤ c
      · have hd3 : decide (97 ≤ c) = true := decide_eq_true h3
        by_cases h4 : c ≤ 122
        · have hd4 : decide (c ≤ 122) = true := decide_eq_true h4
          rw [if_pos ⟨h3, h4⟩]
          go_enter Tryd.func68, Tryd.ntmps68
          go_wp2_with fail
          all_goals
            go_ret
            exact ⟨congrArg (fun z => Ending.returned (.int .i64 z)) (by omega), rfl⟩
        · have hd4 : decide (c ≤ 122) = false := decide_eq_false h4
          rw [if_neg (by omega)]
          go_enter Tryd.func68, Tryd.ntmps68
          go_wp2_with fail
          all_goals
            go_ret
            exact ⟨rfl, rfl⟩
      · have hd3 : decide (97 ≤ c) = false := decide_eq_false h3
        rw [if_neg (by omega)]
        go_enter Tryd.func68, Tryd.ntmps68
        go_wp2_with fail
        all_goals
          go_ret
          exact ⟨rfl, rfl⟩
  · have hd1 : decide (48 ≤ c) = false := decide_eq_false h1
    have hd3 : decide (97 ≤ c) = false := decide_eq_false (by omega)
    rw [if_neg (by omega), if_neg (by omega)]
    go_enter Tryd.func68, Tryd.ntmps68
    go_wp2_with fail
    all_goals
      go_ret
      exact ⟨rfl, rfl⟩
end Go.Proofs.YtopbfgmpilnghaaDoor

namespace Go.Proofs.YtopbfgmpilnghaaDoor
open Go.RowKit Go.Shelf

/-- the j-th limb from the end, with its place -/
def encBack (n : Nat) (f : Nat → Nat) (j : Nat) : Array Value := #[.int .i64 ((n - 1 - j : Nat) : Int), .int .u32 (f (n - 1 - j) : Int)]

set_option maxRecDepth 100000 in
set_option maxHeartbeats 2000000 in
theorem backward1_in (m l Bs b off cap N p q r n : Nat) (f : Nat → Nat) (hn : n < 4611686018427387904) (J Jx : List Nat → World → Prop) (W : World)
    (hY : Hid (∀ pre x W1, J pre W1 → pre.length < n → YieldAt Fence.wide (m - 1) Tryd.prog l (encBack n f x) W1 fun e W' =>
      (e = .returned (.bool true) ∧ J (pre ++ [x]) W' ∧ KpAll N p q r W1 W') ∨ (e = .returned (.bool false) ∧ Jx (pre ++ [x]) W')))
    (hs : Hid (∀ W', KpAll N p q r W W' → W'.cell? ⟨Bs, 0, none⟩ = some (.slice (some ⟨b, off, none⟩) n cap)))
    (hc : Hid (∀ W', KpAll N p q r W W' → ∀ i, i < n → W'.cell? ⟨b, off + i, none⟩ = some (.int .u32 (f i)))) (h0 : J [] W) :
    CallsIn Fence.wide m Tryd.prog 126 (#[.func (.yield l) #[] #[]] ++ #[.pointer (some ⟨Bs, 0, none⟩)]) W fun e W' => (∃ v, e = .returned v) ∧
      ((∃ ys, ys = List.range n ∧ J ys W') ∨ (∃ pre, True ∧ Jx pre W')) := by
  refine callsIn_of_wp Tryd.func126 rfl trivial ?_ rfl
  simp only [Tryd.ntmps126, List.size_toArray, List.length_cons, List.length_nil, Nat.reduceAdd, Nat.reduceSub, Array.replicate_succ, Array.replicate_zero, List.push_toArray, List.append_toArray, List.nil_append, List.cons_append]
  have hkp : KpAll N p q r W W := ⟨Nat.le_refl _, fun _ _ _ _ _ => rfl⟩
  have hs0 := hs.out W hkp
  have hKP := Lib.hid hkp
  clear hkp
  have hsem : ∀ (l : Nat) (ρ : Operand → Value) (o : Oper), (∀ c, o.op ≠ .defer c) → Oper.semAt (some l) ρ o = execOp ρ o := Oper.semAt_some
  gi_wp2
  gi_loopw [3] (fun i wr => ∃ j : Nat, j ≤ n ∧ i = .int .i64 ((n : Int) - 1 - (j : Int)) ∧ J (List.range j) wr ∧ Hid (KpAll N p q r W wr))
    (fun i _ => (intOf i + 1).toNat)
  case atStart => exact ⟨0, Nat.zero_le _, by first | rfl | go_num, h0, hKP⟩
  case round =>
    obtain ⟨j, hj, rfl, hJs, hkr⟩ := hrel
    by_cases hlt : j < n
    · have hbx := hs.out wr hkr.out
      have hcl := hc.out wr hkr.out (n - 1 - j) (by omega)
      obtain ⟨fn, tmps, assign, body, hy, hR⟩ := hY.out (List.range j) j wr hJs (by simpa using hlt)
      unfold encBack at hy
      have hR2 := round_one hR
      clear hR
      have hF1 : Fence.wide.depth = none := rfl
      have hF2 : ∀ f, Fence.wide.fn f := fun _ => trivial
      obtain ⟨i, hi⟩ : ∃ i, n - 1 - j = i := ⟨_, rfl⟩
      rw [hi] at hcl hy
      have hii : (n : Int) - 1 - (j : Int) = (i : Int) := by omega
      rw [hii]
      gi_wp2_with (first
        | (refine ⟨trivial, fun h => (by cases h), ?_⟩; refine hR2.mono ?_; rintro e w' ⟨t, rfl, ht⟩)
        | (refine ⟨fun h => (by cases h), ?_⟩; refine hR2.mono ?_; rintro e w' ⟨t, rfl, ht⟩)
        | (refine hR2.mono ?_; rintro e w' ⟨t, rfl, ht⟩))
      · rcases ht with ⟨rfl, hJ3, hk3⟩ | ⟨rfl, hJx3⟩
        · first | (exfalso; rename_i h; revert h; decide) | (exfalso; simp at *)
        · refine bodyPost_ret (results_none rfl _ _ _) rfl ?_
          exact ⟨⟨_, rfl⟩, .inr ⟨_, trivial, hJx3⟩⟩
      · rcases ht with ⟨rfl, hJ3, hk3⟩ | ⟨rfl, hJx3⟩
        · go_roundw
          case rel => exact ⟨j + 1, by omega, congrArg (Value.int .i64) (by omega), by rw [List.range_succ]; exact hJ3, KpAll.t hkr.out hk3⟩
          case measure => simp [intOf] <;> omega
        · first | (exfalso; rename_i h; revert h; decide) | (exfalso; simp at *)
    · obtain rfl : j = n := by omega
      gi_wp2
      go_end0
      exact ⟨⟨_, rfl⟩, .inl ⟨_, rfl, hJs⟩⟩
end Go.Proofs.YtopbfgmpilnghaaDoor
