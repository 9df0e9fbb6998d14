/- The statements' own writes, reads, head (layer 5). RadixBad: the walk. -/
import Derived.Test.YtopbfgmpilnghaaDoorCounts
set_option linter.unusedVariables false
set_option linter.unusedSimpArgs false
namespace Go.Proofs.YtopbfgmpilnghaaDoor
open Go.RowKit

theorem str_size (l : List Nat) : (str l).size = l.length := by
  show ((l.map UInt8.ofNat).toArray).size = _
  rw [List.size_toArray, List.length_map]

set_option maxRecDepth 100000 in
set_option maxHeartbeats 4000000 in
theorem writes_true {va : Value} {base a : Nat} {S : ByteArray} {w : World} (hb : 2 ≤ base) (hb2 : base ≤ 36) (na : Nt w va a) (la : limbs a ≤ 47) (hS : S = str (digs base a)) (i : Int) (hi : i = (base : Int)) :
    Calls Tryd.prog 37 #[va, .int .i64 i, .string S] w fun e w' => e = .returned (.bool true) ∧ Below w.heap.size w w' := by
  subst hi
  have hsz : Hid (S.size = (digs base a).length) := by rw [hS]; exact str_size _
  have HS : Hid (str (digs base a) = S) := hS.symm
  have hpf : Hid (PowFit base a) := PowFit.of la
  have haf : Hid (AFit a) := AFit.of la
  clear hS
  go_enter Tryd.func37, Tryd.ntmps37
  go_wp2_with fail
  (with_reducible refine (text_any hb hb2 na (by omega) hpf _ rfl).mono ?_)
  rintro e w1 ⟨rfl, hb1⟩
  rw [HS.out]
  have HB1 := Lib.hid hb1
  have HA1 := Lib.hid (na.below hb1)
  clear na hb1
  go_wp2_with fail
  (with_reducible refine (count_any hb hb2 HA1.out (by omega) haf _ rfl).mono ?_)
  rintro e w2 ⟨rfl, hb2'⟩
  have HB2 : Hid (Below w.heap.size w w2) := HB1.out.trans (hb2'.mono HB1.out.size)
  rw [← hsz.out]
  clear hb2' HB1 HA1
  go_wp2_with fail
  go_ret
  exact ⟨rfl, HB2.out⟩

set_option maxRecDepth 100000 in
set_option maxHeartbeats 4000000 in
/-- digits are read as a natural -/
theorem reads_ok {vw : Value} {base : Nat} {s : ByteArray} {w : World} (hb : 2 ≤ base) (hb2 : base ≤ 36) (hs : s.size ≤ 1000) (hp : limbs (base ^ s.size) ≤ 94) (hd : Dig base (bl s)) (hne : bl s ≠ []) (nw : Nt w vw (dv base (bl s))) (i : Int) (hi : i = (base : Int)) :
    Calls Tryd.prog 60 #[.string s, .int .i64 i, vw, .int .i64 0, .int .i64 0] w fun e w' => e = .returned (.bool true) ∧ Below w.heap.size w w' := by
  subst hi
  have hpf : Hid (PFit (base ^ s.size)) := PFit.of hp
  have hlim : Hid (limbs (dv base (bl s)) ≤ 1073741824) := by
    have h1 := dv_lt hd
    rw [bl_len] at h1
    have := limbs_mono (Nat.le_of_lt h1)
    unfold Hid; omega
  have HD := Lib.hid hd
  have HNE := Lib.hid hne
  clear hd hne
  go_enter Tryd.func60, Tryd.ntmps60
  go_wp2_with fail
  (with_reducible refine (readTop_any hb hb2 (by omega) hpf _ _ rfl).mono ?_)
  rintro e w1 ⟨hb1, ⟨k, c, hk, hc, _⟩ | ⟨h, _⟩ | ⟨_, _, v, rfl, hv⟩⟩
  · exact absurd (HD.out c (List.mem_of_getElem? hk)) (by omega)
  · exact absurd h HNE.out
  · have HV := Lib.hid hv
    have HW := Lib.hid (nw.below hb1)
    have HB1 := Lib.hid hb1
    clear hv nw hb1
    go_wp2_with fail
    (with_reducible refine (same_any HV.out HW.out hlim.out hlim.out).mono ?_)
    rintro e w2 ⟨rfl, hd2⟩
    rw [decide_eq_true (show dv base (bl s) = dv base (bl s) from rfl)]
    have HB2 : Hid (Below w.heap.size w w2) := HB1.out.trans hd2.below
    clear hd2 HB1 HV HW
    go_wp2_with fail
    go_ret
    exact ⟨rfl, HB2.out⟩

/-- these are no digits: the first bad one is number k -/
def NoDig (base k : Nat) (l : List Nat) : Prop := (l = [] ∧ k = 0) ∨ (∃ c, l[k]? = some c ∧ base ≤ worthOf c ∧ Dig base (l.take k))
set_option maxRecDepth 100000 in
set_option maxHeartbeats 4000000 in
/-- no digits: where -/
theorem reads_no {base k : Nat} {s : ByteArray} {w : World} (hb : 2 ≤ base) (hb2 : base ≤ 36) (hs : s.size ≤ 1000) (hp : limbs (base ^ s.size) ≤ 94)
    (hd : NoDig base k (bl s)) (i : Int) (hi : i = (base : Int)) (kk : Int) (hkk : kk = (k : Int)) :
    Calls Tryd.prog 60 #[.string s, .int .i64 i, .slice none 0 0, .int .i64 kk, .int .i64 50] w fun e w' => e = .returned (.bool true) ∧ Below w.heap.size w w' := by
  subst hi
  subst hkk
  have hpf : Hid (PFit (base ^ s.size)) := PFit.of hp
  unfold NoDig at hd
  have HD := Lib.hid hd
  clear hd
  have hz : limbs 0 ≤ 1073741824 := by rw [limbs_zero]; omega
  go_enter Tryd.func60, Tryd.ntmps60
  go_wp2_with fail
  (with_reducible refine (readTop_any hb hb2 (by omega) hpf _ _ rfl).mono ?_)
  rintro e w1 ⟨hb1, h⟩
  have hw : e = .returned (.tuple #[.slice none 0 0, .int .i64 (k : Int), .int .i64 50]) := by
    rcases h with ⟨j, c, hj, hc, hdg, rfl⟩ | ⟨h, rfl⟩ | ⟨hne, hdg, v, rfl, hv⟩
    · rcases HD.out with ⟨hn, _⟩ | ⟨c', hk, hc', hdg'⟩
      · rw [hn] at hj; simp at hj
      · have hjk : j = k := by
          rcases Nat.lt_trichotomy j k with h1 | h1 | h1
          · have : c ∈ (bl s).take k := List.mem_of_getElem? (i := j) (by rw [List.getElem?_take, if_pos h1]; exact hj)
            have := hdg' c this
            omega
          · exact h1
          · have : c' ∈ (bl s).take j := List.mem_of_getElem? (i := k) (by rw [List.getElem?_take, if_pos h1]; exact hk)
            have := hdg c' this
            omega
        rw [hjk]
    · rcases HD.out with ⟨_, rfl⟩ | ⟨c', hk, _⟩
      · rfl
      · rw [h] at hk; simp at hk
    · rcases HD.out with ⟨hn, _⟩ | ⟨c', hk, hc', _⟩
      · exact absurd hn hne
      · have := hdg c' (List.mem_of_getElem? hk)
        omega
  subst hw
  have HB1 := Lib.hid hb1
  clear h hb1
  go_wp2_with fail
  (with_reducible refine (same_any (Nt.nil _) (Nt.nil _) hz hz).mono ?_)
  rintro e w2 ⟨rfl, hd2⟩
  rw [decide_eq_true (show 0 = 0 from rfl)]
  have HB2 : Hid (Below w.heap.size w w2) := HB1.out.trans hd2.below
  clear hd2 HB1
  go_wp2_with fail
  go_ret
  exact ⟨rfl, HB2.out⟩

set_option maxRecDepth 100000 in
set_option maxHeartbeats 4000000 in
/-- no base -/
theorem reads_base {base : Int} {s : ByteArray} {w : World} (h : ¬ (2 ≤ base ∧ base ≤ 36)) :
    Calls Tryd.prog 60 #[.string s, .int .i64 base, .slice none 0 0, .int .i64 0, .int .i64 1] w fun e w' => e = .returned (.bool true) ∧ Below w.heap.size w w' := by
  have hz : limbs 0 ≤ 1073741824 := by rw [limbs_zero]; omega
  have HH := Lib.hid h
  clear h
  go_enter Tryd.func60, Tryd.ntmps60
  go_wp2_with fail
  (with_reducible refine (readTop_base HH.out _).mono ?_)
  rintro e w1 ⟨rfl, rfl⟩
  go_wp2_with fail
  (with_reducible refine (same_any (Nt.nil _) (Nt.nil _) hz hz).mono ?_)
  rintro e w2 ⟨rfl, hd2⟩
  rw [decide_eq_true (show 0 = 0 from rfl)]
  have HB2 : Hid (Below w.heap.size w w2) := hd2.below
  clear hd2
  go_wp2_with fail
  go_ret
  exact ⟨rfl, HB2.out⟩

theorem lits2 {w : World} {e : TypeId} (x y : Nat) (hx : x < 4294967296) (hy : y < 4294967296) (h0 : y ≠ 0) : Nt (w.alloc (.cells #[.int .u32 x, .int .u32 y] e)) (.slice (some ⟨w.heap.size, 0, none⟩) 2 2) (x + y * 4294967296) := by
  refine ⟨2, fun j => if j = 0 then x else y, Rd.new (by unfold maxLen; omega) (fun j hj => ?_), fun j hj => ?_, fun _ => ?_, by simp [nv]⟩
  · rcases j with _ | _ | j
    · rfl
    · rfl
    · omega
  · show (if j = 0 then x else y) < _
    split <;> omega
  · simpa using h0
theorem lits3 {w : World} {e : TypeId} (x y z : Nat) (hx : x < 4294967296) (hy : y < 4294967296) (hz : z < 4294967296) (h0 : z ≠ 0) : Nt (w.alloc (.cells #[.int .u32 x, .int .u32 y, .int .u32 z] e)) (.slice (some ⟨w.heap.size, 0, none⟩) 3 3) (x + y * 4294967296 + z * 18446744073709551616) := by
  refine ⟨3, fun j => if j = 0 then x else if j = 1 then y else z, Rd.new (by unfold maxLen; omega) (fun j hj => ?_), fun j hj => ?_, fun _ => ?_, by simp [nv]⟩
  · rcases j with _ | _ | _ | j
    · rfl
    · rfl
    · rfl
    · omega
  · show (if j = 0 then x else if j = 1 then y else z) < _
    split
    · omega
    · split <;> omega
  · simpa using h0

theorem limbs_big {a n : Nat} (h : a < 2 ^ (32 * n)) : limbs a ≤ n := limbs_le (by rw [pow32]; exact h)
theorem digs_lit {b a : Nat} (m : Nat) {l : List Nat} (hb : 2 ≤ b) (hm : a < b ^ m) (h0 : 0 < m) (hl : bare (pad b m a) = l) : digs b a = l := by rw [← digs_pad hb hm h0]; exact hl

abbrev hs1 : ByteArray := ⟨#[48]⟩
abbrev hs2 : ByteArray := ⟨#[102, 102]⟩
abbrev hs3 : ByteArray := ⟨#[52, 50, 57, 52, 57, 54, 55, 50, 57, 54]⟩
abbrev hs4 : ByteArray := ⟨#[51, 119, 53, 101, 49, 49, 50, 54, 52, 115, 103, 115, 102]⟩
abbrev hs5 : ByteArray := ⟨#[49, 48, 49]⟩
theorem hd1 : hs1 = str (digs 7 0) := by rw [digs_zero]; rfl
theorem hd2 : hs2 = str (digs 16 255) := by rw [digs_lit 3 (by omega) (by omega) (by omega) (l := [102, 102]) (by decide)]; rfl
theorem hd3 : hs3 = str (digs 10 4294967296) := by rw [digs_lit 11 (by omega) (by omega) (by omega) (l := [52, 50, 57, 52, 57, 54, 55, 50, 57, 54]) (by decide +kernel)]; rfl
theorem hd4 : hs4 = str (digs 36 18446744073709551615) := by rw [digs_lit 14 (by omega) (by omega) (by omega) (l := [51, 119, 53, 101, 49, 49, 50, 54, 52, 115, 103, 115, 102]) (by decide +kernel)]; rfl
theorem hd5 : hs5 = str (digs 2 5) := by rw [digs_lit 4 (by omega) (by omega) (by omega) (l := [49, 48, 49]) (by decide)]; rfl
abbrev hs6 : ByteArray := ⟨#[48, 48, 122]⟩
abbrev hs7 : ByteArray := ⟨#[49, 50, 97]⟩
abbrev hs8 : ByteArray := ⟨#[]⟩
abbrev hs10 : ByteArray := ⟨#[48, 48, 48, 48]⟩
abbrev hs11 : ByteArray := ⟨#[70, 70]⟩
abbrev hs12 : ByteArray := ⟨#[49, 56, 52, 52, 54, 55, 52, 52, 48, 55, 51, 55, 48, 57, 53, 53, 49, 54, 49, 54]⟩
theorem hb6 : bl hs6 = [48, 48, 122] := rfl
theorem hb7 : bl hs7 = [49, 50, 97] := rfl
theorem hb8 : bl hs8 = [] := rfl
theorem hb10 : bl hs10 = [48, 48, 48, 48] := rfl
theorem hb11 : bl hs11 = [70, 70] := rfl
theorem hb12 : bl hs12 = [49, 56, 52, 52, 54, 55, 52, 52, 48, 55, 51, 55, 48, 57, 53, 53, 49, 54, 49, 54] := rfl
theorem dig_dec {base : Nat} {l : List Nat} (h : (l.all fun c => decide (worthOf c < base)) = true) : Dig base l := fun c hc => by
  have := List.all_eq_true.1 h c hc
  simpa using this

set_option maxRecDepth 100000 in
set_option maxHeartbeats 8000000 in
theorem head_any (w : World) : Calls Tryd.prog 19 #[] w fun e w' => e = .returned (.bool true) ∧ Below w.heap.size w w' := by
  have l47 : Hid (∀ a : Nat, a < 18446744073709551616 → limbs a ≤ 47) := fun a h => by have := limbs_big (n := 2) (a := a) (by omega); omega
  have q1 : Hid (¬ ((2 : Int) ≤ 1 ∧ (1 : Int) ≤ 36)) := by unfold Hid; omega
  have q0 : Hid (¬ ((2 : Int) ≤ 37 ∧ (37 : Int) ≤ 36)) := by unfold Hid; omega
  have q2 : Hid (¬ ((2 : Int) ≤ 0 ∧ (0 : Int) ≤ 36)) := by unfold Hid; omega
  have p2 : Hid (2 ≤ 2) := by unfold Hid; omega
  have p2' : Hid (2 ≤ 36) := by unfold Hid; omega
  have e2 : Hid ((2 : Int) = ((2 : Nat) : Int)) := rfl
  have p7 : Hid (2 ≤ 7) := by unfold Hid; omega
  have p7' : Hid (7 ≤ 36) := by unfold Hid; omega
  have e7 : Hid ((7 : Int) = ((7 : Nat) : Int)) := rfl
  have p10 : Hid (2 ≤ 10) := by unfold Hid; omega
  have p10' : Hid (10 ≤ 36) := by unfold Hid; omega
  have e10 : Hid ((10 : Int) = ((10 : Nat) : Int)) := rfl
  have p16 : Hid (2 ≤ 16) := by unfold Hid; omega
  have p16' : Hid (16 ≤ 36) := by unfold Hid; omega
  have e16 : Hid ((16 : Int) = ((16 : Nat) : Int)) := rfl
  have p36 : Hid (2 ≤ 36) := by unfold Hid; omega
  have p36' : Hid (36 ≤ 36) := by unfold Hid; omega
  have e36 : Hid ((36 : Int) = ((36 : Nat) : Int)) := rfl
  have e0 : Hid ((0 : Int) = ((0 : Nat) : Int)) := rfl
  have z1 : Hid (0 < 18446744073709551616) := by unfold Hid; omega
  have z2 : Hid (255 < 4294967296) := by unfold Hid; omega
  have z2' : Hid (255 ≠ 0) := by unfold Hid; omega
  have z3 : Hid (255 < 18446744073709551616) := by unfold Hid; omega
  have z4 : Hid (0 < 4294967296) := by unfold Hid; omega
  have z4' : Hid (1 < 4294967296) := by unfold Hid; omega
  have z4'' : Hid (1 ≠ 0) := by unfold Hid; omega
  have z5 : Hid (0 + 1 * 4294967296 < 18446744073709551616) := by unfold Hid; omega
  have z6 : Hid (4294967295 < 4294967296) := by unfold Hid; omega
  have z6' : Hid (4294967295 ≠ 0) := by unfold Hid; omega
  have z7 : Hid (4294967295 + 4294967295 * 4294967296 < 18446744073709551616) := by unfold Hid; omega
  have z8 : Hid (5 < 4294967296) := by unfold Hid; omega
  have z8' : Hid (5 ≠ 0) := by unfold Hid; omega
  have z9 : Hid (5 < 18446744073709551616) := by unfold Hid; omega
  have z10 : Hid (35 < 4294967296) := by unfold Hid; omega
  have z10' : Hid (35 ≠ 0) := by unfold Hid; omega
  have y6 : Hid (hs6.size ≤ 1000) := by unfold Hid; decide
  have y6' : Hid (limbs (36 ^ hs6.size) ≤ 94) := by unfold Hid; have := limbs_big (n := 8) (a := 36 ^ hs6.size) (by decide +kernel); omega
  have y7 : Hid (hs7.size ≤ 1000) := by unfold Hid; decide
  have y7' : Hid (limbs (10 ^ hs7.size) ≤ 94) := by unfold Hid; have := limbs_big (n := 8) (a := 10 ^ hs7.size) (by decide +kernel); omega
  have y8 : Hid (hs8.size ≤ 1000) := by unfold Hid; decide
  have y8' : Hid (limbs (10 ^ hs8.size) ≤ 94) := by unfold Hid; have := limbs_big (n := 8) (a := 10 ^ hs8.size) (by decide +kernel); omega
  have y10 : Hid (hs10.size ≤ 1000) := by unfold Hid; decide
  have y10' : Hid (limbs (2 ^ hs10.size) ≤ 94) := by unfold Hid; have := limbs_big (n := 8) (a := 2 ^ hs10.size) (by decide +kernel); omega
  have y11 : Hid (hs11.size ≤ 1000) := by unfold Hid; decide
  have y11' : Hid (limbs (16 ^ hs11.size) ≤ 94) := by unfold Hid; have := limbs_big (n := 8) (a := 16 ^ hs11.size) (by decide +kernel); omega
  have y12 : Hid (hs12.size ≤ 1000) := by unfold Hid; decide
  have y12' : Hid (limbs (10 ^ hs12.size) ≤ 94) := by unfold Hid; have := limbs_big (n := 8) (a := 10 ^ hs12.size) (by decide +kernel); omega
  have d6 : Hid (Dig 36 (bl hs6)) := by unfold Hid; rw [hb6]; exact dig_dec (by decide)
  have n6 : Hid (bl hs6 ≠ []) := by unfold Hid; rw [hb6]; exact List.cons_ne_nil _ _
  have d10 : Hid (Dig 2 (bl hs10)) := by unfold Hid; rw [hb10]; exact dig_dec (by decide)
  have n10 : Hid (bl hs10 ≠ []) := by unfold Hid; rw [hb10]; exact List.cons_ne_nil _ _
  have d12 : Hid (Dig 10 (bl hs12)) := by unfold Hid; rw [hb12]; exact dig_dec (by decide)
  have n12 : Hid (bl hs12 ≠ []) := by unfold Hid; rw [hb12]; exact List.cons_ne_nil _ _
  have d7 : Hid (NoDig 10 2 (bl hs7)) := by unfold Hid; rw [hb7]; exact .inr ⟨97, rfl, by decide, dig_dec (by decide)⟩
  have d8 : Hid (NoDig 10 0 (bl hs8)) := .inl ⟨rfl, rfl⟩
  have d11 : Hid (NoDig 16 0 (bl hs11)) := by unfold Hid; rw [hb11]; exact .inr ⟨70, rfl, by decide, dig_dec (by decide)⟩
  have n0 : Hid (∀ W : World, Nt W (.slice none 0 0) (dv 2 (bl hs10))) := fun W => by rw [hb10]; exact Nt.nil W
  have m2 : Hid (∀ (W : World) (e : TypeId), Nt (W.alloc (.cells #[.int .u32 255] e)) (.slice (some ⟨W.heap.size, 0, none⟩) 1 1) (255)) := fun W e => one_limb 255 (by omega) (by omega)
  have m3 : Hid (∀ (W : World) (e : TypeId), Nt (W.alloc (.cells #[.int .u32 0, .int .u32 1] e)) (.slice (some ⟨W.heap.size, 0, none⟩) 2 2) (0 + 1 * 4294967296)) := fun W e => lits2 0 1 (by omega) (by omega) (by omega)
  have m4 : Hid (∀ (W : World) (e : TypeId), Nt (W.alloc (.cells #[.int .u32 4294967295, .int .u32 4294967295] e)) (.slice (some ⟨W.heap.size, 0, none⟩) 2 2) (4294967295 + 4294967295 * 4294967296)) := fun W e => lits2 4294967295 4294967295 (by omega) (by omega) (by omega)
  have m5 : Hid (∀ (W : World) (e : TypeId), Nt (W.alloc (.cells #[.int .u32 5] e)) (.slice (some ⟨W.heap.size, 0, none⟩) 1 1) (5)) := fun W e => one_limb 5 (by omega) (by omega)
  have m6 : Hid (∀ (W : World) (e : TypeId), Nt (W.alloc (.cells #[.int .u32 35] e)) (.slice (some ⟨W.heap.size, 0, none⟩) 1 1) (dv 36 (bl hs6))) := fun W e => by rw [hb6]; exact one_limb 35 (by omega) (by omega)
  have m12 : Hid (∀ (W : World) (e : TypeId), Nt (W.alloc (.cells #[.int .u32 0, .int .u32 0, .int .u32 1] e)) (.slice (some ⟨W.heap.size, 0, none⟩) 3 3) (dv 10 (bl hs12))) := fun W e => by rw [hb12]; exact (lits3 0 0 1 (by omega) (by omega) (by omega) (by omega)).as (by decide +kernel)
  go_enter Tryd.func19, Tryd.ntmps19
  go_wp2_with fail
  (with_reducible refine (text_bad q1.out _).mono ?_)
  rintro e w1 ⟨rfl, rfl⟩
  have T := Lib.hid (After.alloc (After.refl w) (.cells #[.int .u32 1] 46))
  generalize w.alloc _ = w1 at *
  go_wp2_with fail
  (with_reducible refine (text_bad q0.out _).mono ?_)
  rintro e w2 ⟨rfl, rfl⟩
  go_wp2_with fail
  (with_reducible refine (count_bad q2.out _).mono ?_)
  rintro e w3 ⟨rfl, rfl⟩
  have T2 := Lib.hid (After.alloc T.out (.cells #[.int .u32 1] 46))
  clear T
  generalize w1.alloc _ = w3 at *
  go_wp2_with fail
  (with_reducible refine (writes_true (base := 7) (a := 0) (S := hs1) p7.out p7'.out (Nt.nil _) (l47.out 0 z1.out) hd1 _ e7.out).mono ?_)
  rintro e x0 ⟨rfl, hb0⟩
  have S0 := Lib.hid (After.t T2.out hb0)
  clear hb0 T2
  go_wp2_with fail
  (with_reducible refine (writes_true (base := 16) (a := 255) (S := hs2) p16.out p16'.out (m2.out _ _) (l47.out 255 z3.out) hd2 _ e16.out).mono ?_)
  rintro e x1 ⟨rfl, hb1⟩
  have S1 := Lib.hid (After.t (After.alloc S0.out (.cells #[.int .u32 255] 46)) hb1)
  clear hb1 S0
  go_wp2_with fail
  (with_reducible refine (writes_true (base := 10) (a := 0 + 1 * 4294967296) (S := hs3) p10.out p10'.out (m3.out _ _) (l47.out _ z5.out) hd3 _ e10.out).mono ?_)
  rintro e x2 ⟨rfl, hb2⟩
  have S2 := Lib.hid (After.t (After.alloc S1.out (.cells #[.int .u32 0, .int .u32 1] 46)) hb2)
  clear hb2 S1
  go_wp2_with fail
  (with_reducible refine (writes_true (base := 36) (a := 4294967295 + 4294967295 * 4294967296) (S := hs4) p36.out p36'.out (m4.out _ _) (l47.out _ z7.out) hd4 _ e36.out).mono ?_)
  rintro e x3 ⟨rfl, hb3⟩
  have S3 := Lib.hid (After.t (After.alloc S2.out (.cells #[.int .u32 4294967295, .int .u32 4294967295] 46)) hb3)
  clear hb3 S2
  go_wp2_with fail
  (with_reducible refine (writes_true (base := 2) (a := 5) (S := hs5) p2.out p2'.out (m5.out _ _) (l47.out 5 z9.out) hd5 _ e2.out).mono ?_)
  rintro e x4 ⟨rfl, hb4⟩
  have S4 := Lib.hid (After.t (After.alloc S3.out (.cells #[.int .u32 5] 46)) hb4)
  clear hb4 S3
  go_wp2_with fail
  (with_reducible refine (reads_ok (base := 36) (s := hs6) p36.out p36'.out y6.out y6'.out d6.out n6.out (m6.out _ _) _ e36.out).mono ?_)
  rintro e x5 ⟨rfl, hb5⟩
  have S5 := Lib.hid (After.t (After.alloc S4.out (.cells #[.int .u32 35] 46)) hb5)
  clear hb5 S4
  go_wp2_with fail
  (with_reducible refine (reads_no (base := 10) (k := 2) (s := hs7) p10.out p10'.out y7.out y7'.out d7.out _ e10.out _ e2.out).mono ?_)
  rintro e x6 ⟨rfl, hb6⟩
  have S6 := Lib.hid (After.t S5.out hb6)
  clear hb6 S5
  go_wp2_with fail
  (with_reducible refine (reads_no (base := 10) (k := 0) (s := hs8) p10.out p10'.out y8.out y8'.out d8.out _ e10.out _ e0.out).mono ?_)
  rintro e x7 ⟨rfl, hb7⟩
  have S7 := Lib.hid (After.t S6.out hb7)
  clear hb7 S6
  go_wp2_with fail
  (with_reducible refine (reads_base (s := ⟨#[49]⟩) q1.out).mono ?_)
  rintro e x8 ⟨rfl, hb8⟩
  have S8 := Lib.hid (After.t S7.out hb8)
  clear hb8 S7
  go_wp2_with fail
  (with_reducible refine (reads_ok (base := 2) (s := hs10) p2.out p2'.out y10.out y10'.out d10.out n10.out (n0.out _) _ e2.out).mono ?_)
  rintro e x9 ⟨rfl, hb9⟩
  have S9 := Lib.hid (After.t S8.out hb9)
  clear hb9 S8
  go_wp2_with fail
  (with_reducible refine (reads_no (base := 16) (k := 0) (s := hs11) p16.out p16'.out y11.out y11'.out d11.out _ e16.out _ e0.out).mono ?_)
  rintro e x10 ⟨rfl, hb10⟩
  have S10 := Lib.hid (After.t S9.out hb10)
  clear hb10 S9
  go_wp2_with fail
  (with_reducible refine (reads_ok (base := 10) (s := hs12) p10.out p10'.out y12.out y12'.out d12.out n12.out (m12.out _ _) _ e10.out).mono ?_)
  rintro e x11 ⟨rfl, hb11⟩
  have S11 := Lib.hid (After.t (After.alloc S10.out (.cells #[.int .u32 0, .int .u32 0, .int .u32 1] 46)) hb11)
  clear hb11 S10
  go_wp2_with fail
  go_ret
  exact ⟨rfl, S11.out⟩
end Go.Proofs.YtopbfgmpilnghaaDoor

namespace Go.Proofs.YtopbfgmpilnghaaDoor
open Go.RowKit

theorem pow36_le {base n m : Nat} (hb2 : base ≤ 36) (h : 6 * n < 32 * m) : limbs (base ^ n) ≤ m := by
  have h1 : base ^ n ≤ 64 ^ n := Nat.pow_le_pow_left (by omega) n
  have h2 : (64 : Nat) ^ n = 2 ^ (6 * n) := by rw [show (64 : Nat) = 2 ^ 6 from rfl, ← Nat.pow_mul]
  have h3 : (2 : Nat) ^ (6 * n) < 2 ^ (32 * m) := Nat.pow_lt_pow_right (by omega) h
  exact limbs_big (Nat.lt_of_le_of_lt (Nat.le_trans h1 (Nat.le_of_eq h2)) h3)
theorem pow36 {base n : Nat} (hb2 : base ≤ 36) (hn : n ≤ 200) : limbs (base ^ n) ≤ 94 := pow36_le hb2 (by omega)

/-- the first bytes of a text -/
def cut (s : ByteArray) (n : Nat) : ByteArray := s.extract 0 (min s.size n)
theorem cut_size (s : ByteArray) (n : Nat) : (cut s n).size = min s.size n := extract_low_size s _ (Nat.min_le_left _ _)

set_option maxRecDepth 100000 in
set_option maxHeartbeats 8000000 in
theorem bad_walk {s : ByteArray} {n : Nat} (hs : s.size ≤ maxLen) (hn : n < 256) (w : World) :
    Calls Tryd.prog 11 #[.string s, .int .u8 (n : Int)] w fun e w' => e = .returned (.bool true) ∧ Below w.heap.size w w' := by
  unfold maxLen at hs
  obtain ⟨hb, hb2⟩ := baseOf_ok n
  have hcs := cut_size s 200
  have HCS := Lib.hid hcs
  clear hcs
  go_enter Tryd.func11, Tryd.ntmps11
  go_wp2_with fail
  (with_reducible refine (head_any _).mono ?_)
  rintro e w1 ⟨rfl, hb1⟩
  have T1 := Lib.hid hb1
  clear hb1
  go_wp2_with fail
  (with_reducible refine (base_any hn _).mono ?_)
  rintro e w2 ⟨rfl, rfl⟩
  generalize baseOf n = base at *
  have hmm : (min ((s.size : Nat) : Int) 200).toNat = min s.size 200 := by omega
  go_wp2_with fail
  rw [show s.extract 0 (min s.size 200) = cut s 200 from rfl]
  have hS2 : (cut s 200).size ≤ 200 := by have := HCS.out; omega
  clear HCS hmm
  generalize cut s 200 = S at *
  have hpf : Hid (PFit (base ^ S.size)) := PFit.of (pow36 hb2 hS2)
  (with_reducible refine (readTop_any hb hb2 (by omega) hpf _ _ rfl).mono ?_)
  rintro e w3 ⟨hb3, h⟩
  have T3 := Lib.hid (After.t T1.out hb3)
  have hdg : Hid (∀ c, c < 256 → (worthOf c < base ↔ digOf c < base)) := fun c _ => dig_worth hb2
  have hmx : S.size ≤ maxLen := by unfold maxLen; omega
  clear hb3 T1 hpf
  rcases h with ⟨k, c, hk, hc, hdig, rfl⟩ | ⟨h, rfl⟩ | ⟨hne, hdig, v, rfl, hv⟩
  · have hkl : k < S.size := by have := (List.getElem?_eq_some_iff.1 hk).1; rw [bl_len] at this; exact this
    have hck : Hid (base ≤ digOf (S[k]'hkl).toNat) := by
      rw [bl_get hkl] at hk
      have h1 := Option.some.inj hk
      unfold Hid
      rw [h1]
      have hlt := bl_lt (List.mem_of_getElem? (bl_get hkl))
      rw [h1] at hlt
      have := (hdg.out c hlt)
      omega
    have HDIG := Lib.hid hdig
    clear hk hc hdig
    have he2 : S.toList.isEmpty = false := by
      rw [Lib.toList_data]
      cases hq : S.data.toList with
      | nil =>
        have : S.size = 0 := by
          have := congrArg List.length hq
          rw [Array.length_toList] at this
          exact this
        omega
      | cons x l => rfl
    have hk0 : ((k : Int) == (S.size : Int)) = false := by simp; omega
    have hk1 : (k == S.size) = false := by simp; omega
    have hk2 : decide ((k : Int) < 0) = false := decide_eq_false (by omega)
    have hk3 : decide (S.size < k) = false := decide_eq_false (by omega)
    go_wp2_with fail
    go_loopw [11] (fun i wr => ∃ j : Nat, j ≤ k ∧ i = .int .i64 (j : Int) ∧ Hid (After w wr)) (fun i _ => k - (intOf i).toNat)
    case atStart => exact ⟨0, by omega, rfl, T3⟩
    case round =>
      clear T3
      obtain ⟨j, hj, rfl, T⟩ := hrel
      by_cases hlt : j < k
      · have hjs : j < S.size := by omega
        have hcj := (S[j]'hjs).toNat_lt
        have hd := Lib.hid (fun W => digit_any (c := (S[j]'hjs).toNat) hcj _ rfl W)
        have hsm : digOf (S[j]'hjs).toNat < base := by
          refine (hdg.out _ hcj).1 (HDIG.out _ (List.mem_of_getElem? (i := j) ?_))
          rw [List.getElem?_take, if_pos hlt]
          exact bl_get hjs
        clear hcj
        generalize digOf (S[j]'hjs).toNat = x at *
        have h1 : decide (base ≤ x) = false := decide_eq_false (by omega)
        have h2 : decide ((base : Int) ≤ (x : Int)) = false := decide_eq_false (by omega)
        go_wp2_with (go_at_call 31; (with_reducible refine (hd.out _).mono ?_); rintro e w' ⟨rfl, rfl⟩)
        go_roundw
        case rel => exact ⟨j + 1, by omega, by go_num, T.out⟩
        case measure => simp [intOf] <;> omega
      · obtain rfl : j = k := by omega
        have hcj := (S[j]'hkl).toNat_lt
        have hd := Lib.hid (fun W => digit_any (c := (S[j]'hkl).toNat) hcj _ rfl W)
        have hck2 := hck.out
        clear hcj hck
        generalize digOf (S[j]'hkl).toNat = x at *
        have h1 : decide (base ≤ x) = true := decide_eq_true (by omega)
        have h2 : decide ((base : Int) ≤ (x : Int)) = true := decide_eq_true (by omega)
        go_wp2_with (go_at_call 31; (with_reducible refine (hd.out _).mono ?_); rintro e w' ⟨rfl, rfl⟩)
        go_ret
        exact ⟨rfl, T.out⟩
  · have h0 : S.size = 0 := by rw [← bl_len, h]; rfl
    have he2 : S.toList.isEmpty = true := by
      rw [Lib.toList_data]
      have : S.data.toList = [] := List.eq_nil_of_length_eq_zero (by rw [Array.length_toList]; exact h0)
      rw [this]
      rfl
    clear h
    go_wp2_with fail
    go_loop [11] (fun i => i = .int .i64 0) (fun _ => 0)
    case atStart => rfl
    case round =>
      subst hrel
      go_wp2_with fail
      go_ret
      exact ⟨rfl, T3.out⟩
  · have HDIG := Lib.hid hdig
    have he2 : S.toList.isEmpty = false := by
      rw [Lib.toList_data]
      cases hq : S.data.toList with
      | nil => exact absurd (show bl S = [] by unfold bl; rw [hq]; rfl) hne
      | cons x l => rfl
    obtain ⟨av, cv, fv, rfl, -⟩ := hv.open
    clear hdig hne hv
    generalize limbs (dv base (bl S)) = lv at *
    go_wp2_with fail
    go_loopw [10] (fun i wr => ∃ j : Nat, j ≤ S.size ∧ i = .int .i64 (j : Int) ∧ Hid (After w wr)) (fun i _ => S.size - (intOf i).toNat)
    case atStart => exact ⟨0, by omega, rfl, T3⟩
    case round =>
      clear T3
      obtain ⟨j, hj, rfl, T⟩ := hrel
      by_cases hjs : j < S.size
      · have hcj := (S[j]'hjs).toNat_lt
        have hd := Lib.hid (fun W => digit_any (c := (S[j]'hjs).toNat) hcj _ rfl W)
        have hsm : digOf (S[j]'hjs).toNat < base := (hdg.out _ hcj).1 (HDIG.out _ (List.mem_of_getElem? (i := j) (bl_get hjs)))
        clear hcj
        generalize digOf (S[j]'hjs).toNat = x at *
        have h1 : decide (base ≤ x) = false := decide_eq_false (by omega)
        have h2 : decide ((base : Int) ≤ (x : Int)) = false := decide_eq_false (by omega)
        go_wp2_with (go_at_call 31; (with_reducible refine (hd.out _).mono ?_); rintro e w' ⟨rfl, rfl⟩)
        go_roundw
        case rel => exact ⟨j + 1, by omega, by go_num, T.out⟩
        case measure => simp [intOf] <;> omega
      · obtain rfl : j = S.size := by omega
        go_wp2_with fail
        go_ret
        exact ⟨rfl, T.out⟩
end Go.Proofs.YtopbfgmpilnghaaDoor
