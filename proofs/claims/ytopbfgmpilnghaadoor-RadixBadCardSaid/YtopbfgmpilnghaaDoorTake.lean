/- div.take and div.back: so many times the divisor from a part of a row, and back. -/
import Derived.Test.YtopbfgmpilnghaaDoorOwn
set_option linter.unusedVariables false
set_option linter.unusedSimpArgs false
namespace Go.Proofs.YtopbfgmpilnghaaDoor
open Go.RowKit

/-- a block whose first n cells are numbers -/
def Row (k : IntKind) (W : World) (g : Nat) (e : TypeId) (n : Nat) (f : Nat → Nat) : Prop :=
  ∃ cs : Array Value, W.heap[g]? = some (.cells cs e (0, 0)) ∧ n ≤ cs.size ∧ ∀ j, j < n → cs[j]? = some (.int k (f j))
theorem Row.lt {k : IntKind} {W : World} {g : Nat} {e : TypeId} {n : Nat} {f : Nat → Nat} (h : Row k W g e n f) : g < W.heap.size := by
  obtain ⟨cs, hb, _⟩ := h
  exact (Array.getElem?_eq_some_iff.1 hb).1
theorem Row.cell {k : IntKind} {W : World} {g : Nat} {e : TypeId} {n : Nat} {f : Nat → Nat} (h : Row k W g e n f) {j : Nat} (hj : j < n) : W.cell? ⟨g, j, none⟩ = some (.int k (f j)) := by
  obtain ⟨cs, hb, hs, hc⟩ := h
  simp only [World.cell?, hb]
  exact hc j hj
theorem Row.free {k : IntKind} {W : World} {g : Nat} {e : TypeId} {n : Nat} {f : Nat → Nat} (h : Row k W g e n f) (j : Nat) : W.frozen? ⟨g, j, none⟩ = false := by
  obtain ⟨cs, hb, hs, hc⟩ := h
  simp [World.frozen?, hb]
theorem Row.same {k : IntKind} {W W' : World} {g : Nat} {e : TypeId} {n : Nat} {f : Nat → Nat} (h : Row k W g e n f) (hb : W'.heap[g]? = W.heap[g]?) : Row k W' g e n f := by
  obtain ⟨cs, hc, hr⟩ := h
  exact ⟨cs, hb.trans hc, hr⟩
theorem Row.congr {k : IntKind} {W : World} {g : Nat} {e : TypeId} {n : Nat} {f f' : Nat → Nat} (h : Row k W g e n f) (hf : ∀ j, j < n → f j = f' j) : Row k W g e n f' := by
  obtain ⟨cs, hb, hs, hc⟩ := h
  exact ⟨cs, hb, hs, fun j hj => by rw [hc j hj, hf j hj]⟩
theorem Row.put {k : IntKind} {W : World} {g : Nat} {e : TypeId} {n : Nat} {f : Nat → Nat} (h : Row k W g e n f) (i x : Nat) {v : Int} (hv : v = (x : Int)) : Row k (W.setCell ⟨g, i, none⟩ (.int k v)) g e n (upd f i x) := by
  subst hv
  obtain ⟨cs, hb, hs, hc⟩ := h
  refine ⟨cs.setIfInBounds i (.int k x), ?_, by simpa using hs, fun j hj => ?_⟩
  · simp [World.setCell, Array.getElem?_modify, hb]
  · rw [Array.getElem?_setIfInBounds]
    by_cases e : i = j
    · subst e; simp [upd, show i < cs.size from by omega]
    · rw [if_neg e, hc j hj, upd_other f x (Ne.symm e)]

/-- nothing is turned but the block g -/
structure Only (g : Nat) (w w' : World) : Prop where
  os : w'.os = w.os
  tape : w'.tape = w.tape
  output : w'.output = w.output
  size : w.heap.size ≤ w'.heap.size
  block : ∀ k, k < w.heap.size → k ≠ g → w'.heap[k]? = w.heap[k]?
theorem Only.refl (g : Nat) (w : World) : Only g w w := ⟨rfl, rfl, rfl, Nat.le_refl _, fun _ _ _ => rfl⟩
theorem Only.trans {g : Nat} {a b c : World} (h : Only g a b) (k : Only g b c) : Only g a c :=
  ⟨k.os.trans h.os, k.tape.trans h.tape, k.output.trans h.output, Nat.le_trans h.size k.size, fun j hj hn => (k.block j (Nat.lt_of_lt_of_le hj h.size) hn).trans (h.block j hj hn)⟩
theorem Only.set {g : Nat} {a b : World} (h : Only g a b) (i : Nat) (v : Value) : Only g a (b.setCell ⟨g, i, none⟩ v) :=
  h.trans ⟨rfl, rfl, rfl, by simp [World.setCell], fun k _ hn => Below.heap_setCell _ _ _ _ hn⟩
theorem Only.drawn {g : Nat} {a b c : World} (h : Only g a b) (d : Drawn b c) : Only g a c := by
  obtain ⟨q, rfl⟩ := d
  exact h.trans ⟨rfl, rfl, rfl, Nat.le_refl _, fun _ _ _ => rfl⟩
theorem Only.of_below {g : Nat} {w w' : World} (h : Below w.heap.size w w') : Only g w w' := ⟨h.os, h.tape, h.output, h.size, fun k hk _ => h.block k hk⟩
theorem Only.below {B g : Nat} {a w w' : World} (h : Below B a w) (k : Only g w w') (hg : B ≤ g) (hB : B ≤ a.heap.size) : Below B a w' :=
  ⟨k.os.trans h.os, k.tape.trans h.tape, k.output.trans h.output, Nat.le_trans h.size k.size, fun j hj => (k.block j (by have := h.size; omega) (by omega)).trans (h.block j hj)⟩
theorem Only.cell {g : Nat} {w w' : World} (h : Only g w w') {p : Addr} (hp : p.block < w.heap.size) (hn : p.block ≠ g) : w'.cell? p = w.cell? p := World.cell?_of_block (w := w) (h.block p.block hp hn)

/-- q times y is being taken from x: k limbs are done; c is carried, t borrowed -/
structure Taking (x y : Nat → Nat) (q : Nat) (G : Nat → Nat) (k c t : Nat) : Prop where
  carry : c < 4294967296
  owed : t ≤ 1
  sum : nv x k + t * 4294967296 ^ k + c * 4294967296 ^ k = nv G k + q * nv y k

theorem Taking.start (x y : Nat → Nat) (q : Nat) (G : Nat → Nat) : Taking x y q G 0 0 0 := ⟨by omega, by omega, by simp [nv]⟩

theorem Taking.step {x y G : Nat → Nat} {q k c t : Nat} (h : Taking x y q G k c t) (hx : x k < 4294967296) (hy : y k < 4294967296) (hq : q < 4294967296) :
    Taking x y q (upd G k ((x k + 4294967296 - (q * y k + c) % 4294967296 - t) % 4294967296)) (k + 1) ((q * y k + c) / 4294967296) (borrow (x k) ((q * y k + c) % 4294967296) t) := by
  obtain ⟨h1, h2, h3⟩ := h
  have hb : q * y k ≤ 4294967295 * 4294967295 := Nat.mul_le_mul (by omega) (by omega)
  have e1 : nv (upd G k ((x k + 4294967296 - (q * y k + c) % 4294967296 - t) % 4294967296)) k = nv G k := nv_congr (fun j hj => upd_other _ _ (by omega))
  refine ⟨by omega, by unfold borrow; split <;> omega, ?_⟩
  simp only [nv, upd_same, e1]
  rw [Nat.mul_add q, Nat.pow_succ]
  have e2 : q * (y k * 4294967296 ^ k) = (q * y k) * 4294967296 ^ k := by rw [Nat.mul_assoc]
  rw [e2]
  generalize q * y k = p at *
  generalize hP : 4294967296 ^ k = P at *
  generalize q * nv y k = Y at *
  have hk : x k + 4294967296 * borrow (x k) ((p + c) % 4294967296) t + 4294967296 * ((p + c) / 4294967296) = (x k + 4294967296 - (p + c) % 4294967296 - t) % 4294967296 + p + c + t := by
    unfold borrow
    split <;> omega
  generalize borrow (x k) ((p + c) % 4294967296) t = t' at *
  generalize (x k + 4294967296 - (p + c) % 4294967296 - t) % 4294967296 = z at *
  generalize (p + c) / 4294967296 = c' at *
  clear hb e1 e2 h1 h2 hP
  have hm := congrArg (· * P) hk
  simp only [Nat.add_mul, Nat.mul_assoc] at hm
  have e5 : ∀ u, u * (P * 4294967296) = 4294967296 * (u * P) := fun u => by rw [← Nat.mul_assoc, Nat.mul_comm]
  rw [e5 t', e5 c']
  clear e5 hk
  generalize x k * P = a1 at *
  generalize t' * P = a2 at *
  generalize c' * P = a3 at *
  generalize z * P = a4 at *
  generalize p * P = a5 at *
  generalize c * P = a6 at *
  generalize t * P = a7 at *
  omega
theorem upd_shift (G : Nat → Nat) (off k v : Nat) : (fun j => upd G (off + k) v (off + j)) = upd (fun j => G (off + j)) k v := by
  funext j
  unfold upd
  by_cases h : j = k
  · rw [if_pos (by omega), if_pos h]
  · rw [if_neg (by omega), if_neg h]

/-- the limbs of y, and noughts behind -/
def ext (f : Nat → Nat) (m : Nat) (j : Nat) : Nat := if j < m then f j else 0
theorem ext_nv (f : Nat → Nat) (m : Nat) : nv (ext f m) (m + 1) = nv f m := by
  have h : nv (ext f m) m = nv f m := nv_congr (fun j hj => by unfold ext; rw [if_pos hj])
  simp only [nv]
  rw [h]
  unfold ext
  rw [if_neg (by omega), Nat.zero_mul, Nat.add_zero]

/-- the row while it is taken from -/
structure TakeIn (F y : Nat → Nat) (q off N k c t : Nat) (G : Nat → Nat) : Prop where
  fits : Fits N G
  taking : Taking (fun j => F (off + j)) y q (fun j => G (off + j)) k c t
  else' : ∀ j, j < off ∨ off + k ≤ j → G j = F j

theorem TakeIn.start {F y : Nat → Nat} {q off N : Nat} (hF : Fits N F) : TakeIn F y q off N 0 0 0 F := ⟨hF, Taking.start _ _ _ _, fun _ _ => rfl⟩
theorem TakeIn.step {F y G : Nat → Nat} {q off N k c t : Nat} (h : TakeIn F y q off N k c t G) (hk : off + k < N) (hF : Fits N F) (hy : y k < 4294967296) (hq : q < 4294967296) :
    TakeIn F y q off N (k + 1) ((q * y k + c) / 4294967296) (borrow (F (off + k)) ((q * y k + c) % 4294967296) t) (upd G (off + k) ((F (off + k) + 4294967296 - (q * y k + c) % 4294967296 - t) % 4294967296)) := by
  refine ⟨h.fits.upd _ (by omega), ?_, fun j hj => ?_⟩
  · have := h.taking.step (hF (off + k) hk) hy hq
    rw [upd_shift]
    exact this
  · rw [upd_other _ _ (by omega)]
    exact h.else' j (by omega)

theorem sub32_int (x y c : Nat) (yi : Int) (w : World) (hyi : yi = (y : Int)) (hx : x < 4294967296) (hy : y < 4294967296) (hc : c ≤ 1) :
    Calls Tryd.prog 100 #[.int .u32 x, .int .u32 yi, .int .u32 c] w fun e w' =>
      e = .returned (.tuple #[.int .u32 (((x + 4294967296 - y - c) % 4294967296 : Nat) : Int), .int .u32 (borrow x y c : Int)]) ∧ w = w' := by
  subst hyi
  exact sub32_any x y c w hx hy hc

set_option maxRecDepth 100000 in
set_option maxHeartbeats 2000000 in
theorem take_any {g off m N bb ob cx cb q : Nat} {e : TypeId} {F fb : Nat → Nat} {w : World} (hm : m ≤ 1000000000) (hq : q < 4294967296) (hN : Hid (off + m + 1 ≤ N)) (hr : Hid (Row .u32 w g e N F)) (hF : Hid (Fits N F)) (hf : Hid (Fits m fb)) (hb : Hid (bb < w.heap.size ∧ bb ≠ g))
    (hc : Hid (∀ j, j < m → w.cell? ⟨bb, ob + j, none⟩ = some (.int .u32 (fb j)))) :
    Calls Tryd.prog 96 #[.slice (some ⟨g, off, none⟩) (m + 1) cx, .slice (some ⟨bb, ob, none⟩) m cb, .int .u64 q] w fun e1 w' =>
      ∃ (t : Nat) (G : Nat → Nat), e1 = .returned (.bool (decide (0 < t))) ∧ Row .u32 w' g e N G ∧ TakeIn F (ext fb m) q off N (m + 1) 0 t G ∧ Only g w w' := by
  go_enter Tryd.func96, Tryd.ntmps96
  go_wp2_with fail
  go_loopw [7, 8, 14] (fun cv tv i wr => ∃ (k c t : Nat) (G : Nat → Nat), k ≤ m + 1 ∧ i = .int .i64 k ∧ cv = .int .u64 c ∧ tv = .int .u32 t ∧ Hid (Row .u32 wr g e N G) ∧ Hid (TakeIn F (ext fb m) q off N k c t G) ∧ Hid (Only g w wr) ∧ Hid (k = m + 1 → c = 0)) (fun _ _ i _ => m + 1 - (intOf i).toNat)
  case atStart => exact ⟨0, 0, 0, F, by omega, rfl, rfl, rfl, hr, TakeIn.start hF.out, Only.refl _ _, fun _ => rfl⟩
  case round =>
    obtain ⟨k, c, t, G, hk, rfl, rfl, rfl, hrow, hti, hon, hc0⟩ := hrel
    have hcc := hti.out.taking.carry
    have htt := hti.out.taking.owed
    by_cases hlt : k < m
    · have hcell : wr.cell? ⟨bb, ob + k, none⟩ = _ := (hon.out.cell (p := ⟨bb, ob + k, none⟩) hb.out.1 hb.out.2).trans (hc.out k hlt)
      have hfk := hf.out k hlt
      have hx := hrow.out.cell (j := off + k) (by have := hN.out; omega)
      have hGF := hti.out.else' (off + k) (by omega)
      rw [hGF] at hx
      have hFk := hF.out (off + k) (by have := hN.out; omega)
      have hfree := hrow.out.free (off + k)
      have hbd := cell_bound hcc (show q < 4294967296 by omega) hfk hFk
      have hstep := Lib.hid (hti.out.step (by have := hN.out; omega) hF.out (show ext fb m k < 4294967296 by unfold ext; rw [if_pos hlt]; exact hfk) hq)
      rw [show ext fb m k = fb k by unfold ext; rw [if_pos hlt]] at hstep
      generalize F (off + k) = x at *
      generalize fb k = y at *
      have hP : ((q : Int) * (y : Int)) = ((q * y : Nat) : Int) := (Int.natCast_mul q y).symm
      generalize q * y = p at *
      rw [hP] at hbd
      go_wp2_with fail
      (with_reducible refine (sub32_int x ((p + c) % 4294967296) t _ _ (by omega) hFk (by omega) htt).mono ?_)
      rintro e1 w2 ⟨rfl, rfl⟩
      generalize hz : (x + 4294967296 - (p + c) % 4294967296 - t) % 4294967296 = z at *
      generalize hbo : borrow x ((p + c) % 4294967296) t = t' at *
      have hzl : z < 4294967296 := by omega
      go_wp2_with fail
      go_roundw
      case rel => exact ⟨k + 1, (p + c) / 4294967296, t', _, by omega, by go_num, val_eq (by omega), rfl, hrow.out.put (off + k) z rfl, hstep.out, hon.out.set _ _, fun h => absurd h (by omega)⟩
      case measure => simp [intOf] <;> omega
    · by_cases hlast : k = m
      · subst hlast
        have hx := hrow.out.cell (j := off + k) (by have := hN.out; omega)
        have hGF := hti.out.else' (off + k) (by omega)
        rw [hGF] at hx
        have hFk := hF.out (off + k) (by have := hN.out; omega)
        have hfree := hrow.out.free (off + k)
        have hstep := Lib.hid (hti.out.step (by have := hN.out; omega) hF.out (show ext fb k k < 4294967296 by unfold ext; rw [if_neg (by omega)]; omega) hq)
        rw [show ext fb k k = 0 by unfold ext; rw [if_neg (by omega)], Nat.mul_zero, Nat.zero_add] at hstep
        generalize F (off + k) = x at *
        go_wp2_with fail
        (with_reducible refine (sub32_int x (c % 4294967296) t _ _ (by omega) hFk (by omega) htt).mono ?_)
        rintro e1 w2 ⟨rfl, rfl⟩
        generalize hz : (x + 4294967296 - c % 4294967296 - t) % 4294967296 = z at *
        generalize hbo : borrow x (c % 4294967296) t = t' at *
        have hzl : z < 4294967296 := by omega
        go_wp2_with fail
        go_roundw
        case rel => exact ⟨k + 1, c / 4294967296, t', _, by omega, by go_num, val_eq (by omega), rfl, hrow.out.put (off + k) z rfl, hstep.out, hon.out.set _ _, fun _ => Nat.div_eq_of_lt hcc⟩
        case measure => simp [intOf] <;> omega
      · obtain rfl : k = m + 1 := by omega
        obtain rfl : c = 0 := hc0.out rfl
        go_wp2_with fail
        go_ret
        first | exact ⟨t, G, rfl, hrow.out, hti.out, hon.out⟩ | exact ⟨t, rfl, G, hrow.out, hti.out, hon.out⟩
end Go.Proofs.YtopbfgmpilnghaaDoor
