/- The reference's Text, Count (layer 5). The reference's Read (layer 5). The reference's Count (layer 5); two readings of one text. -/
import Derived.Test.YtopbfgmpilnghaaDoorNats5
set_option linter.unusedVariables false
set_option linter.unusedSimpArgs false
namespace Go.Proofs.YtopbfgmpilnghaaDoor
open Go.RowKit

theorem base5_any (b : Int) (w : World) : Calls Tryd.prog 64 #[.int .i64 b] w fun e w' => e = .returned (.bool (decide (2 ≤ b ∧ b ≤ 36))) ∧ w' = w := by
  by_cases h1 : 2 ≤ b
  · have hd : decide (2 ≤ b) = true := decide_eq_true h1
    rw [show decide (2 ≤ b ∧ b ≤ 36) = decide (b ≤ 36) by simp [h1]]
    go_enter Tryd.func64, Tryd.ntmps64
    go_wp2_with fail
    go_ret
    exact ⟨rfl, rfl⟩
  · have hd : decide (2 ≤ b) = false := decide_eq_false h1
    rw [show decide (2 ≤ b ∧ b ≤ 36) = false by simp [h1]]
    go_enter Tryd.func64, Tryd.ntmps64
    go_wp2_with fail
    go_ret
    exact ⟨rfl, rfl⟩

/-- digit number t from below -/
def low5 (base a t : Nat) : Nat := dgb (a / base ^ t % base)
def bytesF (k : Nat) (F : Nat → Nat) : List Value := (List.range k).map fun j => Value.int .u8 (F j : Int)
theorem bytesF_len (k : Nat) (F : Nat → Nat) : (bytesF k F).length = k := by simp [bytesF]
theorem bytesF_snoc (k : Nat) (F : Nat → Nat) : bytesF (k + 1) F = bytesF k F ++ [.int .u8 (F k : Int)] := by simp [bytesF, List.range_succ]
theorem rowp_row {B : Nat} {e : TypeId} {W : World} {g cap k : Nat} {F : Nat → Nat} (h : RowP isU8 B e W (.slice (some ⟨g, 0, none⟩) k cap) (bytesF k F)) : Row .u8 W g e k F := by
  rcases h with ⟨h, _⟩ | ⟨g', cap', cur, h, hb, hg, hn, hm, hs, ht, ha⟩
  · cases h
  · rw [bytesF_len] at *
    cases h
    refine ⟨cur, hg, by omega, fun j hj => ?_⟩
    have hq : (bytesF k F)[j]? = some (.int .u8 (F j : Int)) := by simp [bytesF, List.getElem?_range hj]
    rw [← ht, List.getElem?_take, if_pos hj] at hq
    simpa using hq

set_option maxRecDepth 100000 in
theorem row_str {w : World} {g cap : Nat} {e : TypeId} {F : Nat → Nat} {l : List Nat} (h : Row .u8 w g e l.length F) (hF : ∀ j, j < l.length → l[j]? = some (F j)) (hl : ∀ x ∈ l, x < 256) :
    (convert 49 9 (.slice (some ⟨g, 0, none⟩) l.length cap)).run Tryd.prog w = .ok (.string (str l)) w := by
  have := run_convert_bytes_back (P := Tryd.prog) w 49 9 5 ⟨g, 0, none⟩ cap (l.map UInt8.ofNat) Tryd.underlying49 Tryd.underlying5 Tryd.underlying9 (fun j hj => by
    rw [Addr.add_lit, Nat.zero_add]
    rw [List.length_map] at hj
    rw [h.cell hj]
    have h1 := hF j hj
    rw [List.getElem?_eq_getElem hj] at h1
    have h2 := Option.some.inj h1
    have hlt := hl l[j] (List.getElem_mem hj)
    simp only [List.getElem_map]
    have e2 : (UInt8.ofNat l[j]).toNat = l[j] := by rw [UInt8.toNat_ofNat', Nat.mod_eq_of_lt hlt]
    rw [e2, h2])
  rw [List.length_map] at this
  exact this

theorem digs_low {base a k : Nat} (hb : 2 ≤ base) (hb2 : base ≤ 36) (h0 : 0 < k) (h1 : a / base ^ k = 0) (h2 : a / base ^ (k - 1) ≠ 0) : (digs base a).length = k ∧ ∀ j, j < k → (digs base a)[j]? = some (low5 base a (k - 1 - j)) := by
  obtain ⟨m, rfl⟩ : ∃ m, k = m + 1 := ⟨k - 1, by omega⟩
  rw [Nat.add_sub_cancel] at h2
  have hp : 0 < base ^ (m + 1) := Nat.pow_pos (by omega)
  have hlt : a < base ^ (m + 1) := by
    apply Classical.byContradiction
    intro h
    have := Nat.div_pos (show base ^ (m + 1) ≤ a by omega) hp
    omega
  have hge : base ^ m ≤ a := by
    apply Classical.byContradiction
    intro h
    exact h2 (Nat.div_eq_of_lt (by omega))
  have hid : digs base a = pad base (m + 1) a := by
    rw [← digs_pad hb hlt (by omega), bare_id]
    rw [pad_get base (m + 1) a 0 (by omega)]
    intro h
    have h3 := Option.some.inj h
    rw [show m + 1 - 1 - 0 = m by omega] at h3
    have hq : a / base ^ m < base := by rw [Nat.div_lt_iff_lt_mul (Nat.pow_pos (by omega)), Nat.mul_comm, ← Nat.pow_succ]; exact hlt
    rw [Nat.mod_eq_of_lt hq] at h3
    exact h2 ((dgb_zero (show a / base ^ m < 36 by omega)).1 h3)
  rw [hid]
  exact ⟨pad_len _ _ _, fun j hj => pad_get base (m + 1) a j hj⟩

theorem low_bound {base a k : Nat} (hb : 2 ≤ base) (h : a / base ^ k ≠ 0) : k < 32 * limbs a := by
  apply Classical.byContradiction
  intro hc
  apply h
  apply Nat.div_eq_of_lt
  have h1 := lt_limbs a
  rw [pow32] at h1
  have h2 : 2 ^ (32 * limbs a) ≤ 2 ^ k := Nat.pow_le_pow_right (by omega) (by omega)
  have h3 : 2 ^ k ≤ base ^ k := Nat.pow_le_pow_left hb k
  omega
theorem swap_step {F G : Nat → Nat} {k j q : Nat} (hj : 2 * j + 2 ≤ k) (hq : k - 1 - j = q) (hG : ∀ t, t < k → G t = if t < j ∨ k - 1 - t < j then F (k - 1 - t) else F t) :
    ∀ t, t < k → upd (upd G j (G q)) q (G j) t = if t < j + 1 ∨ k - 1 - t < j + 1 then F (k - 1 - t) else F t := by
  intro t ht
  have gj := hG j (by omega)
  have gq := hG q (by omega)
  rw [if_neg (by omega)] at gj gq
  by_cases e1 : t = q
  · subst e1
    rw [upd_same, gj, if_pos (by omega)]
    congr 1; omega
  · rw [upd_other _ _ e1]
    by_cases e2 : t = j
    · subst e2
      rw [upd_same, gq, if_pos (by omega), ← hq]
    · rw [upd_other _ _ e2, hG t ht]
      by_cases e3 : t < j ∨ k - 1 - t < j
      · rw [if_pos e3, if_pos (by omega)]
      · rw [if_neg e3, if_neg (by omega)]
theorem swap_end {F G : Nat → Nat} {k j : Nat} (hj : k ≤ 2 * j + 1) (hG : ∀ t, t < k → G t = if t < j ∨ k - 1 - t < j then F (k - 1 - t) else F t) :
    ∀ t, t < k → G t = F (k - 1 - t) := by
  intro t ht
  rw [hG t ht]
  by_cases e3 : t < j ∨ k - 1 - t < j
  · rw [if_pos e3]
  · rw [if_neg e3]
    congr 1; omega

set_option maxRecDepth 100000 in
set_option maxHeartbeats 2000000 in
theorem text5_bad {va : Value} {base : Int} (h : ¬ (2 ≤ base ∧ base ≤ 36)) (w : World) :
    Calls Tryd.prog 22 #[va, .int .i64 base] w fun e w' => e = .returned (.tuple #[.string ⟨#[]⟩, .int .i64 1]) ∧ w = w' := by
  have hd : decide (2 ≤ base ∧ base ≤ 36) = false := decide_eq_false h
  go_enter Tryd.func22, Tryd.ntmps22
  go_wp2_with fail
  (with_reducible refine (base5_any base _).mono ?_)
  rintro e w1 ⟨rfl, rfl⟩
  rw [hd]
  go_wp2_with fail
  refine bodyPost_ret (v := .tuple #[.string ⟨#[]⟩, .int .i64 1]) (by simp [results, Tryd.f22]) rfl ?_
  exact ⟨rfl, rfl⟩

set_option maxRecDepth 100000 in
set_option maxHeartbeats 8000000 in
theorem text5_any {va : Value} {base a : Nat} {w : World} (hb : 2 ≤ base) (hb2 : base ≤ 36) (na : Nt w va a) (la : limbs a ≤ 10000) (i : Int) (hi : i = (base : Int)) :
    Calls Tryd.prog 22 #[va, .int .i64 i] w fun e w' => e = .returned (.tuple #[.string (str (digs base a)), .int .i64 0]) ∧ Below w.heap.size w w' := by
  subst hi
  obtain ⟨i0, hi, hz0, hz1, hz2⟩ := info_parts info_u8
  have hd : decide (2 ≤ (base : Int) ∧ (base : Int) ≤ 36) = true := decide_eq_true (by omega)
  go_enter Tryd.func22, Tryd.ntmps22
  go_wp2_with fail
  (with_reducible refine (base5_any _ _).mono ?_)
  rintro e w0 ⟨rfl, rfl⟩
  rw [hd]
  clear hd
  go_wp2_with fail
  have HR0 : Hid (RowP isU8 w0.heap.size 5 (w0.alloc (.cells #[] 5)) (.slice (some ⟨w0.heap.size, 0, none⟩) 0 0) (bytesF 0 (low5 base a))) :=
    .inr ⟨w0.heap.size, 0, #[], rfl, Nat.le_refl _, heap_alloc_new w0 _, Nat.zero_le _, Nat.zero_le _, rfl, rfl, fun x hx => by cases hx⟩
  have HT0 := Lib.hid (After.alloc (After.refl w0) (.cells #[] 5))
  have HA0 := Lib.hid (na.below HT0.out.out)
  clear na
  obtain ⟨H, hH⟩ : ∃ H, w0.heap.size = H := ⟨_, rfl⟩
  have HH := Lib.hid hH
  rw [hH] at HR0 ⊢
  clear hH
  generalize w0.alloc _ = w1 at *
  go_loopg [0, 6, 7, 8] a (fun gk avv out _ _ wr => ∃ (av : Value) (k g cap : Nat), av = avv ∧ gk = a / base ^ k ∧ out = .slice (some ⟨g, 0, none⟩) k cap ∧ k ≤ 32 * limbs a ∧ (k = 0 ∨ a / base ^ (k - 1) ≠ 0) ∧ Hid (Nt wr av (a / base ^ k)) ∧ Hid (RowP isU8 H 5 wr (.slice (some ⟨g, 0, none⟩) k cap) (bytesF k (low5 base a))) ∧ Hid (After w0 wr))
  case atStart => exact ⟨_, 0, H, 0, rfl, by simp, rfl, by omega, .inl rfl, by unfold Hid; simpa using HA0.out, HR0, HT0⟩
  case round =>
    clear HR0 HT0 HA0
    obtain ⟨av, k, g, cap, rfl, rfl, rfl, hk, hlast, hna, hrow, T⟩ := hrel
    have hws := T.out.out.size
    obtain ⟨aa, ca, fa, rfl, -⟩ := hna.out.open
    by_cases hz : a / base ^ k = 0
    · have hl0 : limbs (a / base ^ k) = 0 := by rw [hz]; rfl
      rw [hl0]
      rw [hl0] at hna
      by_cases hk0 : k = 0
      · subst hk0
        have hdz : Hid (digs base a = [48]) := by
          have : a = 0 := by simpa using hz
          unfold Hid
          rw [this]; exact digs_zero
        clear hl0 hz
        go_wp2_with fail
        refine bodyPost_ret (v := .tuple #[.string ⟨#[48]⟩, .int .i64 0]) (by simp [results, Tryd.f22]) rfl ?_
        exact ⟨by rw [hdz.out]; rfl, T.out.out⟩
      · have hdl := Lib.hid (digs_low hb hb2 (show 0 < k by omega) hz (by rcases hlast with h | h; exact absurd h hk0; exact h))
        have hrw := Lib.hid (rowp_row hrow.out)
        have hgb := (hrow.out.lt rfl).2
        have hk1 : (((k : Nat) : Int) == 0) = false := by simp <;> omega
        have hbyte : Hid (∀ j, low5 base a j < 256) := fun j => (dgb_lt (by have := Nat.mod_lt (a / base ^ j) (show 0 < base by omega); omega)).1
        clear hl0 hz hlast hrow hna
        generalize hF : low5 base a = F at *
        clear hF
        go_wp2_with fail
        obtain ⟨wo, hwo⟩ : ∃ wo : World, wr = wo := ⟨_, rfl⟩
        rw [hwo] at hrw T hws ⊢
        clear hwo
        go_loopw [9, 10] (fun i _ wr => ∃ (j : Nat) (G : Nat → Nat), 2 * j ≤ k ∧ i = .int .i64 (j : Int) ∧ Hid (Row .u8 wr g 5 k G) ∧ Hid (∀ t, t < k → G t = if t < j ∨ k - 1 - t < j then F (k - 1 - t) else F t) ∧ Hid (Only g wo wr)) (fun i _ _ => k - (intOf i).toNat)
        case atStart => exact ⟨0, F, by omega, rfl, hrw, fun t ht => by rw [if_neg (by omega)], Only.refl _ _⟩
        case round =>
          clear hrw
          obtain ⟨j, G, hj, rfl, hrw, hG, hon⟩ := hrel
          by_cases hlt : 2 * j + 2 ≤ k
          · have hjk : (j : Int) < (k : Int) / 2 := by omega
            have hjd : decide ((j : Int) < (k : Int) / 2) = true := decide_eq_true hjk
            obtain ⟨q, hq⟩ : ∃ q, k - 1 - j = q := ⟨_, rfl⟩
            have c1 := hrw.out.cell (j := j) (by omega)
            have c2 := hrw.out.cell (j := q) (by omega)
            have f1 := hrw.out.free j
            have f2 := hrw.out.free q
            have hqi : (k : Int) - 1 - (j : Int) = (q : Int) := by omega
            have hqk : q < k := by omega
            have hjq : j ≠ q := by omega
            have HQ := Lib.hid hq
            have HR2 := Lib.hid ((hrw.out.put j (G q) rfl).put q (G j) rfl)
            have c3 : (wr.setCell ⟨g, j, none⟩ (.int .u8 (G q : Int))).cell? ⟨g, q, none⟩ = some (.int .u8 (G q : Int)) := by
              have := (hrw.out.put j (G q) rfl).cell hqk
              rw [upd_other _ _ (Ne.symm hjq)] at this
              exact this
            clear hq
            go_wp2_with fail
            refine ⟨⟨j + 1, _, by omega, by go_num, HR2, Lib.hid (swap_step hlt HQ.out hG.out), Lib.hid ((hon.out.set j _).set q _)⟩, by simp [intOf] <;> omega⟩
          · have hjd : decide ((j : Int) < (k : Int) / 2) = false := decide_eq_false (by omega)
            have hfin := swap_end (show k ≤ 2 * j + 1 by omega) hG.out
            obtain ⟨dl, dg⟩ := hdl.out
            have hconv : (convert 49 9 (.slice (some ⟨g, 0, none⟩) k cap)).run Tryd.prog wr = .ok (.string (str (digs base a))) wr := by
              have := row_str (w := wr) (g := g) (cap := cap) (e := 5) (F := G) (l := digs base a) (by rw [dl]; exact hrw.out) (fun j hj => by rw [dl] at hj; rw [dg j hj, hfin j hj]) (fun x hx => digs_byte hb hb2 hx)
              rw [dl] at this
              exact this
            have HB := Lib.hid (hon.out.below T.out.out (by rw [HH.out]; exact hgb) (Nat.le_of_eq rfl))
            clear hfin dl dg hdl hG hrw hon
            go_wp2_with fail
            refine bodyPost_ret (v := .tuple #[.string (str (digs base a)), .int .i64 0]) (by simp [results, Tryd.f22]) rfl ?_
            exact ⟨rfl, HB.out⟩
    · have hpos := limbs_pos hz
      have hkb := low_bound hb hz
      have hlm := limbs_div a (base ^ k)
      have hdv : a / base ^ k / base = a / base ^ (k + 1) := by rw [Nat.div_div_eq_div_mul, Nat.pow_succ]
      have hmod := Nat.mod_lt (a / base ^ k) (show 0 < base by omega)
      have hlow := Lib.hid (show dgb (a / base ^ k % base) = low5 base a k from rfl)
      have hov := Lib.hid (over_nt hna.out hz (by omega) hb hb2 _ rfl)
      obtain ⟨d, hd⟩ : ∃ d, a / base ^ k % base = d := ⟨_, rfl⟩
      rw [hd] at hov hlow hmod
      have HLOW := Lib.hid hlow.out
      clear hd hlow
      have hlt8 := (dgb_lt (show d < 36 by omega)).1
      have HDV := Lib.hid hdv
      have HZ := Lib.hid hz
      clear hdv hz hlast hna
      have hxl := bytesF_len k (low5 base a)
      have HXL := Lib.hid hxl
      clear hxl
      go_wp2_with fail
      (with_reducible refine hov.out.mono ?_)
      rintro e w2 ⟨v2, rfl, hn2, hb2'⟩
      rw [HDV.out] at hn2
      have HN2 := Lib.hid hn2
      have T2 := Lib.hid (T.out.t hb2')
      have HR2 := Lib.hid (hrow.out.after hb2')
      clear hn2 hb2' hrow T hov
      go_wp2_with fail
      (with_reducible refine (byte_any (d := d) (by omega) _).mono ?_)
      rintro e w3 ⟨rfl, rfl⟩
      go_wp2_with (at_builtin; refine wpList_append_p _ rfl _ _ 49 rfl isU8 H 5 i0 (.int .u8 0) 1 Tryd.underlying49 hi hz0 hz1 hz2 rfl rfl (.slice (some ⟨g, 0, none⟩) k cap) (bytesF k (low5 base a)) rfl ((HR2.out.same (fun g hg => heap_alloc_old _ _ (HR2.out.lt hg).1))) ⟨w3.heap.size, 0, none⟩ 1 1 [.int .u8 (dgb d : Int)] rfl rfl ?c2 ?c3 ?c4 ?c5 ?c6 ?c7 ?c8 ?_)
      case c2 => exact cell_one_new _ _ _
      case c3 => simp [Value.oneCell']
      case c4 => simp [isU8]
      case c5 => omega
      case c6 => rw [HXL.out]; unfold maxLen; omega
      case c7 => rw [HXL.out]; omega
      case c8 => have := T2.out.out.size; have := HH.out; simp; omega
      intro v' w4 hr4 hg4
      have e5 : bytesF k (low5 base a) ++ [.int .u8 (dgb d : Int)] = bytesF (k + 1) (low5 base a) := by rw [bytesF_snoc, HLOW.out]
      rw [e5] at hr4
      have hnn : ∃ g cap, v' = .slice (some ⟨g, 0, none⟩) (k + 1) cap := by
        rcases hr4 with ⟨_, he⟩ | ⟨g, cap, cur, rfl, _⟩
        · have := congrArg List.length he; rw [bytesF_len] at this; simp at this
        · exact ⟨g, cap, by rw [bytesF_len]⟩
      obtain ⟨g4, c4, rfl⟩ := hnn
      have HR4 := Lib.hid hr4
      have T4 : Hid (After w0 w4) := Below.grown (After.alloc T2.out _).out hg4 (by have := T2.out.out.size; simp; omega) (fun j ej => by rw [HH.out]; exact (HR2.out.lt ej).2)
      have HN4 : Hid (Nt w4 v2 (a / base ^ (k + 1))) := (HN2.out.below (Below.alloc (Below.refl _ _) (Nat.le_refl _) _)).keptP (KeptP.grown (HR2.out.same (fun g hg => heap_alloc_old _ _ (HR2.out.lt hg).1)) hg4 (by have := T2.out.out.size; have := HH.out; simp; omega))
      clear hr4 hg4 e5 HN2 HR2 T2
      go_wp2_with fail
      go_roundg (a / base ^ (k + 1))
      case measure => rw [← HDV.out]; exact Nat.div_lt_self (Nat.pos_of_ne_zero HZ.out) hb
      case rel => exact ⟨_, k + 1, g4, c4, rfl, rfl, rfl, by omega, .inr (by rw [Nat.add_sub_cancel]; exact HZ.out), HN4, HR4, T4⟩
end Go.Proofs.YtopbfgmpilnghaaDoor

namespace Go.Proofs.YtopbfgmpilnghaaDoor
open Go.RowKit

set_option maxRecDepth 100000 in
set_option maxHeartbeats 2000000 in
theorem read5_base {base : Int} {v : Value} (h : ¬ (2 ≤ base ∧ base ≤ 36)) (w : World) :
    Calls Tryd.prog 26 #[v, .int .i64 base] w fun e w' => e = .returned (.tuple #[.slice none 0 0, .int .i64 0, .int .i64 1]) ∧ w = w' := by
  have hd : decide (2 ≤ base ∧ base ≤ 36) = false := decide_eq_false h
  go_enter Tryd.func26, Tryd.ntmps26
  go_wp2_with fail
  (with_reducible refine (base5_any base _).mono ?_)
  rintro e w1 ⟨rfl, rfl⟩
  rw [hd]
  go_wp2_with fail
  refine bodyPost_ret (v := .tuple #[.slice none 0 0, .int .i64 0, .int .i64 1]) (by simp [results, Tryd.f26]) rfl ?_
  exact ⟨rfl, rfl⟩

set_option maxRecDepth 100000 in
set_option maxHeartbeats 4000000 in
theorem read5_any {base : Nat} {s : ByteArray} (hb : 2 ≤ base) (hb2 : base ≤ 36) (hs : s.size ≤ 100000) (w : World) (i : Int) (hi : i = (base : Int)) :
    Calls Tryd.prog 26 #[.string s, .int .i64 i] w (ReadPost base (bl s) w) := by
  subst hi
  have hmx : s.size ≤ maxLen := by unfold maxLen; omega
  have hd : decide (2 ≤ (base : Int) ∧ (base : Int) ≤ 36) = true := decide_eq_true (by omega)
  go_enter Tryd.func26, Tryd.ntmps26
  go_wp2_with fail
  (with_reducible refine (base5_any _ _).mono ?_)
  rintro e w0 ⟨rfl, rfl⟩
  rw [hd]
  clear hd
  by_cases h0 : s.size = 0
  · have hnil : Hid (bl s = []) := List.eq_nil_of_length_eq_zero (by rw [bl_len]; exact h0)
    have he2 : s.toList.isEmpty = true := by
      rw [Lib.toList_data]
      have : s.data.toList = [] := List.eq_nil_of_length_eq_zero (by rw [Array.length_toList]; exact h0)
      rw [this]
      rfl
    go_wp2_with fail
    refine bodyPost_ret (v := .tuple #[.slice none 0 0, .int .i64 0, .int .i64 50]) (by simp [results, Tryd.f26]) rfl ?_
    exact ⟨Below.refl _ _, .inr (.inl ⟨hnil.out, rfl⟩)⟩
  · have hne : Hid (bl s ≠ []) := fun h => h0 (by rw [← bl_len, h]; rfl)
    have he2 : s.toList.isEmpty = false := by
      rw [Lib.toList_data]
      cases hq : s.data.toList with
      | nil =>
        have : s.size = 0 := by
          have := congrArg List.length hq
          rw [Array.length_toList] at this
          exact this
        exact absurd this h0
      | cons x l => rfl
    go_wp2_with fail
    have HT0 := Lib.hid (After.alloc (After.refl w0) (.cells #[] 46))
    have HN0 : Hid (Nt (w0.alloc (.cells #[] 46)) (.slice (some ⟨w0.heap.size, 0, none⟩) 0 0) (dv base ((bl s).take 0))) := Nt.zero _ _ _ (Nat.zero_le _)
    generalize w0.alloc _ = w1 at *
    go_loopw [7, 8, 9] (fun ov i _ wr => ∃ (out : Value) (k : Nat), out = ov ∧ k ≤ s.size ∧ i = .int .i64 (k : Int) ∧ Hid (Nt wr out (dv base ((bl s).take k))) ∧ Hid (Dig base ((bl s).take k)) ∧ Hid (After w0 wr)) (fun _ i _ _ => s.size - (intOf i).toNat)
    case atStart => exact ⟨_, 0, rfl, by omega, rfl, HN0, (fun c hc => by simp at hc), HT0⟩
    case round =>
      clear HN0 HT0
      obtain ⟨out, k, rfl, hk, rfl, hout, hdg, T⟩ := hrel
      by_cases hlt : k < s.size
      · have hget := Lib.hid (bl_get hlt)
        have hc := (s[k]'hlt).toNat_lt
        have hda := Lib.hid (fun W => digit_any (c := (s[k]'hlt).toNat) hc _ rfl W)
        have hwd := dig_worth (base := base) (c := (s[k]'hlt).toNat) hb2
        have hwe : Hid (worthOf (s[k]'hlt).toNat < base → worthOf (s[k]'hlt).toNat = digOf (s[k]'hlt).toNat) := fun h => dig_worth_eq hb2 h
        have hsn : Hid (worthOf (s[k]'hlt).toNat < base → Dig base ((bl s).take (k + 1))) := fun h c hcm => by
          rw [bl_take_snoc hlt] at hcm
          rcases List.mem_append.1 hcm with h1 | h1
          · exact hdg.out c h1
          · simp at h1; rw [h1]; exact h
        have hval : Hid (dv base ((bl s).take (k + 1)) = dv base ((bl s).take k) * base + worthOf (s[k]'hlt).toNat) := by
          unfold Hid
          rw [bl_take_snoc hlt, dv_app, dv_one]
          simp
        have hlim : Hid (limbs (dv base ((bl s).take k)) ≤ 1000000) := by
          have h1 := dv_lt hdg.out
          rw [List.length_take, bl_len, Nat.min_eq_left hk] at h1
          have h2 : base ^ k ≤ 4294967296 ^ k := Nat.pow_le_pow_left (by omega) k
          have := limbs_le (Nat.lt_of_lt_of_le h1 h2)
          unfold Hid; omega
        clear hc
        obtain ⟨x, hx⟩ : ∃ x, digOf (s[k]'hlt).toNat = x := ⟨_, rfl⟩
        obtain ⟨y, hy⟩ : ∃ y, worthOf (s[k]'hlt).toNat = y := ⟨_, rfl⟩
        rw [hx] at hda hwd hwe
        rw [hy] at hwd hwe hsn hval
        have HY := Lib.hid hy
        clear hx hy
        by_cases hxb : base ≤ x
        · have h1 : decide (base ≤ x) = true := decide_eq_true hxb
          have h2 : decide ((base : Int) ≤ (x : Int)) = true := decide_eq_true (by omega)
          have hyb : Hid (base ≤ y) := by unfold Hid; omega
          clear hwd
          go_wp2_with (go_at_call 31; (with_reducible refine (hda.out _).mono ?_); rintro e w' ⟨rfl, rfl⟩)
          refine bodyPost_ret (v := .tuple #[.slice none 0 0, .int .i64 (k : Int), .int .i64 50]) (by simp [results, Tryd.f26]) rfl ?_
          exact ⟨T.out.out, .inl ⟨k, _, hget.out, by rw [HY.out]; exact hyb.out, hdg.out, rfl⟩⟩
        · have h1 : decide (base ≤ x) = false := decide_eq_false hxb
          have h2 : decide ((base : Int) ≤ (x : Int)) = false := decide_eq_false (by omega)
          have hyb : Hid (y < base) := by unfold Hid; omega
          have hyx : Hid (y = x) := hwe.out hyb.out
          have hx36 : x < 4294967296 := by omega
          clear hwd
          go_wp2_with (go_at_call 31; (with_reducible refine (hda.out _).mono ?_); rintro e w' ⟨rfl, rfl⟩)
          (with_reducible refine (step_nt hout.out hlim.out hb2 hx36 _ _ rfl rfl).mono ?_)
          rintro e w2 ⟨v2, rfl, hv2, hb2'⟩
          have HV2 : Hid (Nt w2 v2 (dv base ((bl s).take (k + 1)))) := by rw [hval.out, hyx.out]; exact hv2
          have T2 := Lib.hid (After.t T.out hb2')
          clear hv2 hb2' hout T
          go_wp2_with fail
          go_roundw
          case rel => exact ⟨_, k + 1, rfl, by omega, by go_num, HV2, hsn.out hyb.out, T2⟩
          case measure => simp [intOf] <;> omega
      · obtain rfl : k = s.size := by omega
        have e : (bl s).take s.size = bl s := List.take_of_length_le (by rw [bl_len]; omega)
        rw [e] at hdg hout
        clear e
        go_wp2_with fail
        refine bodyPost_ret (v := .tuple #[out, .int .i64 0, .int .i64 0]) (by simp [results, Tryd.f26]) rfl ?_
        exact ⟨T.out.out, .inr (.inr ⟨hne.out, hdg.out, out, rfl, hout.out⟩)⟩
end Go.Proofs.YtopbfgmpilnghaaDoor

namespace Go.Proofs.YtopbfgmpilnghaaDoor
open Go.RowKit

set_option maxRecDepth 100000 in
set_option maxHeartbeats 2000000 in
theorem count5_bad {va : Value} {base : Int} (h : ¬ (2 ≤ base ∧ base ≤ 36)) (w : World) :
    Calls Tryd.prog 24 #[va, .int .i64 base] w fun e w' => e = .returned (.tuple #[.int .i64 0, .int .i64 1]) ∧ w = w' := by
  go_enter Tryd.func24, Tryd.ntmps24
  go_wp2_with fail
  (with_reducible refine (text5_bad h _).mono ?_)
  rintro e w1 ⟨rfl, rfl⟩
  go_wp2_with fail
  refine bodyPost_ret (v := .tuple #[.int .i64 0, .int .i64 1]) (by simp [results, Tryd.f24]) rfl ?_
  exact ⟨rfl, rfl⟩

set_option maxRecDepth 100000 in
set_option maxHeartbeats 2000000 in
theorem count5_any {va : Value} {base a : Nat} {w : World} (hb : 2 ≤ base) (hb2 : base ≤ 36) (na : Nt w va a) (la : limbs a ≤ 10000) (i : Int) (hi : i = (base : Int)) :
    Calls Tryd.prog 24 #[va, .int .i64 i] w fun e w' => e = .returned (.tuple #[.int .i64 ((digs base a).length : Int), .int .i64 0]) ∧ Below w.heap.size w w' := by
  subst hi
  have hsz : Hid ((str (digs base a)).size = (digs base a).length) := str_size _
  go_enter Tryd.func24, Tryd.ntmps24
  go_wp2_with fail
  (with_reducible refine (text5_any hb hb2 na la _ rfl).mono ?_)
  rintro e w1 ⟨rfl, hb1⟩
  have HB1 := Lib.hid hb1
  clear hb1 na
  obtain ⟨S, hS⟩ : ∃ S, str (digs base a) = S := ⟨_, rfl⟩
  rw [hS] at hsz ⊢
  clear hS
  go_wp2_with fail
  refine bodyPost_ret (v := .tuple #[.int .i64 (S.size : Int), .int .i64 0]) (by simp [results, Tryd.f24]) rfl ?_
  exact ⟨by rw [hsz.out], HB1.out⟩

/-- what a reading of a text answers -/
def Reads (base : Nat) (l : List Nat) (p q : Int) (a : Nat) : Prop :=
  (∃ (k c : Nat), l[k]? = some c ∧ base ≤ worthOf c ∧ Dig base (l.take k) ∧ p = (k : Int) ∧ q = 50 ∧ a = 0) ∨ (l = [] ∧ p = 0 ∧ q = 50 ∧ a = 0) ∨ (l ≠ [] ∧ Dig base l ∧ p = 0 ∧ q = 0 ∧ a = dv base l)
theorem ReadPost.reads {base : Nat} {l : List Nat} {w w' : World} {e : Ending} (h : ReadPost base l w e w') :
    Below w.heap.size w w' ∧ ∃ (v : Value) (p q : Int) (a : Nat), e = .returned (.tuple #[v, .int .i64 p, .int .i64 q]) ∧ Reads base l p q a ∧ Nt w' v a := by
  obtain ⟨hb, ⟨k, c, h1, h2, h3, rfl⟩ | ⟨h1, rfl⟩ | ⟨h1, h2, v, rfl, hv⟩⟩ := h
  · exact ⟨hb, _, _, _, 0, rfl, .inl ⟨k, c, h1, h2, h3, rfl, rfl, rfl⟩, Nt.zero _ _ _ (Nat.zero_le _)⟩
  · exact ⟨hb, _, _, _, 0, rfl, .inr (.inl ⟨h1, rfl, rfl, rfl⟩), Nt.zero _ _ _ (Nat.zero_le _)⟩
  · exact ⟨hb, _, _, _, _, rfl, .inr (.inr ⟨h1, h2, rfl, rfl, rfl⟩), hv⟩
theorem Dig.not {base k c : Nat} {l : List Nat} (h1 : l[k]? = some c) (h2 : base ≤ worthOf c) (h : Dig base l) : False := by
  have := h c (List.mem_of_getElem? h1)
  omega
theorem Dig.take_not {base k m c : Nat} {l : List Nat} (h1 : l[k]? = some c) (h2 : base ≤ worthOf c) (h : Dig base (l.take m)) : m ≤ k := by
  apply Classical.byContradiction
  intro hc
  exact Dig.not (l := l.take m) (k := k) (by rw [List.getElem?_take, if_pos (by omega)]; exact h1) h2 h
theorem Reads.same {base : Nat} {l : List Nat} {p q p2 q2 : Int} {a a2 : Nat} (h : Reads base l p q a) (h2 : Reads base l p2 q2 a2) : p2 = p ∧ q2 = q ∧ a2 = a := by
  rcases h with ⟨k, c, x1, x2, x3, rfl, rfl, rfl⟩ | ⟨x1, rfl, rfl, rfl⟩ | ⟨x1, x2, rfl, rfl, rfl⟩ <;>
    rcases h2 with ⟨k', c', y1, y2, y3, rfl, rfl, rfl⟩ | ⟨y1, rfl, rfl, rfl⟩ | ⟨y1, y2, rfl, rfl, rfl⟩
  · have := Dig.take_not x1 x2 y3
    have := Dig.take_not y1 y2 x3
    exact ⟨by omega, rfl, rfl⟩
  · subst y1; simp at x1
  · exact (Dig.not x1 x2 y2).elim
  · subst x1; simp at y1
  · exact ⟨rfl, rfl, rfl⟩
  · exact absurd x1 y1
  · exact (Dig.not y1 y2 x2).elim
  · exact absurd y1 x1
  · exact ⟨rfl, rfl, rfl⟩
theorem Reads.small {base n : Nat} {l : List Nat} {p q : Int} {a : Nat} (h : Reads base l p q a) (hn : limbs (base ^ l.length) ≤ n) : limbs a ≤ n := by
  rcases h with ⟨k, c, _, _, _, _, _, rfl⟩ | ⟨_, _, _, rfl⟩ | ⟨_, hd, _, _, rfl⟩
  · exact Nat.zero_le _
  · exact Nat.zero_le _
  · exact Nat.le_trans (limbs_mono (Nat.le_of_lt (dv_lt hd))) hn
end Go.Proofs.YtopbfgmpilnghaaDoor
