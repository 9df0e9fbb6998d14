/- radix.read: the natural of digits. radix.Read: which natural a text is. -/
import Derived.Test.YtopbfgmpilnghaaDoorWrites
set_option linter.unusedVariables false
set_option linter.unusedSimpArgs false
namespace Go.Proofs.YtopbfgmpilnghaaDoor
open Go.RowKit

/-- the bytes of a string -/
def bl (s : ByteArray) : List Nat := s.data.toList.map (·.toNat)
theorem bl_len (s : ByteArray) : (bl s).length = s.size := by
  unfold bl
  rw [List.length_map, Array.length_toList]
  rfl
theorem bl_lt {s : ByteArray} {c : Nat} (h : c ∈ bl s) : c < 256 := by
  unfold bl at h
  obtain ⟨x, _, rfl⟩ := List.mem_map.1 h
  exact x.toNat_lt
theorem bl_get {s : ByteArray} {i : Nat} (h : i < s.size) : (bl s)[i]? = some ((s[i]'h).toNat) := by
  unfold bl
  rw [List.getElem?_map, List.getElem?_eq_getElem (by rw [Array.length_toList]; exact h)]
  rfl
theorem bl_take_snoc {s : ByteArray} {i : Nat} (h : i < s.size) : (bl s).take (i + 1) = (bl s).take i ++ [(s[i]'h).toNat] := by
  rw [List.take_add_one, bl_get h]
  rfl
theorem bl_low (s : ByteArray) (k : Nat) : bl (s.extract 0 k) = (bl s).take k := by
  unfold bl
  rw [Lib.extract_data, List.map_take, List.drop_zero, Nat.sub_zero]
theorem bl_high (s : ByteArray) (k : Nat) : bl (s.extract k s.size) = (bl s).drop k := by
  unfold bl
  rw [Lib.extract_data, List.take_of_length_le (by rw [List.length_drop, Array.length_toList]; exact Nat.le_refl _), List.map_drop]

/-- what digits are worth -/
def dv (base : Nat) (l : List Nat) : Nat := l.foldl (fun n c => n * base + worthOf c) 0
theorem dv_go (base : Nat) (l : List Nat) (n : Nat) : l.foldl (fun n c => n * base + worthOf c) n = n * base ^ l.length + dv base l := by
  unfold dv
  induction l generalizing n with
  | nil => simp
  | cons c l ih =>
    simp only [List.foldl_cons, List.length_cons]
    rw [ih, ih (0 * base + worthOf c), Nat.pow_succ]
    generalize List.foldl (fun n c => n * base + worthOf c) 0 l = z
    grind
theorem dv_app (base : Nat) (l r : List Nat) : dv base (l ++ r) = dv base l * base ^ r.length + dv base r := by
  show (l ++ r).foldl _ 0 = _
  rw [List.foldl_append]
  exact dv_go base r _
theorem dv_one (base c : Nat) : dv base [c] = worthOf c := by simp [dv]
/-- each byte is a digit -/
def Dig (base : Nat) (l : List Nat) : Prop := ∀ c ∈ l, worthOf c < base
theorem dv_lt {base : Nat} : ∀ {l : List Nat}, Dig base l → dv base l < base ^ l.length := by
  intro l
  induction l with
  | nil => intro _; simp [dv]
  | cons c l ih =>
    intro h
    have h1 := ih (fun x hx => h x (List.mem_cons_of_mem _ hx))
    have h2 := h c (by simp)
    rw [show c :: l = [c] ++ l from rfl, dv_app, dv_one]
    simp only [List.length_append, List.length_singleton]
    rw [Nat.add_comm 1, Nat.pow_succ]
    have h3 : (worthOf c + 1) * base ^ l.length ≤ base * base ^ l.length := Nat.mul_le_mul_right _ h2
    rw [Nat.add_mul, Nat.mul_comm base] at h3
    omega
theorem Dig.take {base k : Nat} {l : List Nat} (h : Dig base l) : Dig base (l.take k) := fun c hc => h c (List.mem_of_mem_take hc)
theorem Dig.drop {base k : Nat} {l : List Nat} (h : Dig base l) : Dig base (l.drop k) := fun c hc => h c (List.mem_of_mem_drop hc)

theorem PFit.mono {a b : Nat} (h : PFit b) (hab : a ≤ b) : PFit a := fun x y hx hy hxy => h x y hx hy (Nat.le_trans hxy hab)
theorem PFit.use {Z x y : Nat} (h : PFit Z) (hy : 0 < y) (hyz : y ≤ Z) (hxy : x * y ≤ Z) : MulFit x y := by
  rcases Nat.eq_zero_or_pos x with rfl | hx
  · have := (h 1 y (by omega) hy (by omega)).2.1
    exact ⟨by rw [limbs_zero]; omega, this, .inl (by rw [limbs_zero]; omega)⟩
  · exact h x y hx hy hxy
theorem PFit.limbs {Z y : Nat} (h : PFit Z) (hyz : y ≤ Z) : limbs y ≤ 16777216 := by
  rcases Nat.eq_zero_or_pos y with rfl | hy
  · rw [limbs_zero]; omega
  · exact (h 1 y (by omega) hy (by omega)).2.1

set_option maxRecDepth 100000 in
set_option maxHeartbeats 4000000 in
theorem read_small {base : Nat} {s : ByteArray} {pf : Value} (hb : 2 ≤ base) (hb2 : base ≤ 36) (hs : s.size ≤ 5) (hd : Hid (Dig base (bl s))) (w : World) :
    Calls Tryd.prog 69 #[.string s, .int .i64 (base : Int), pf] w fun e w' => ∃ v, e = .returned v ∧ Nt w' v (dv base (bl s)) ∧ Below w.heap.size w w' := by
  have hmx : s.size ≤ maxLen := by unfold maxLen; omega
  have hd5 : decide ((s.size : Int) ≤ 5) = true := decide_eq_true (by omega)
  go_enter Tryd.func69, Tryd.ntmps69
  go_wp2_with fail
  go_loop [7, 17] (fun nn i => ∃ k : Nat, k ≤ s.size ∧ i = .int .i64 (k : Int) ∧ nn = .int .u64 ((dv base ((bl s).take k) : Nat) : Int)) (fun _ i => s.size - (intOf i).toNat)
  case atStart => exact ⟨0, by omega, rfl, by simp [dv]⟩
  case round =>
    obtain ⟨k, hk, rfl, rfl⟩ := hrel
    have hlv := dv_lt (Dig.take (k := k) hd.out)
    have hl36 : base ^ ((bl s).take k).length ≤ 36 ^ 5 := Nat.le_trans (Nat.pow_le_pow_left hb2 _) (Nat.pow_le_pow_right (by omega) (by rw [List.length_take, bl_len]; omega))
    by_cases hlt : k < s.size
    · have hsn : Hid (dv base ((bl s).take (k + 1)) = dv base ((bl s).take k) * base + worthOf (s[k]'hlt).toNat) := by
        unfold Hid
        rw [bl_take_snoc hlt, dv_app, dv_one]
        simp
      have hwl : worthOf (s[k]'hlt).toNat < base := hd.out _ (List.mem_of_getElem? (bl_get hlt))
      have hc := (s[k]'hlt).toNat_lt
      have hwa := Lib.hid (fun W => worth_any (c := (s[k]'hlt).toNat) hc _ rfl W)
      have hcb : dv base ((bl s).take k) ≤ 60466176 := by omega
      clear hlv hl36 hc
      generalize dv base ((bl s).take k) = q at *
      generalize worthOf (s[k]'hlt).toNat = x at *
      have hP : ((q : Int) * (base : Int)) = ((q * base : Nat) : Int) := (Int.natCast_mul q base).symm
      have hpb : q * base ≤ 60466176 * 36 := Nat.mul_le_mul hcb hb2
      generalize q * base = p at *
      go_wp2_with (go_at_call 68; (with_reducible refine (hwa.out _).mono ?_); rintro e w' ⟨rfl, rfl⟩)
      go_round
      case rel => exact ⟨k + 1, by omega, by go_num, val_eq (by rw [hsn.out]; first | rfl | omega | simp)⟩
      case measure => simp [intOf] <;> omega
    · obtain rfl : k = s.size := by omega
      have e : (bl s).take s.size = bl s := List.take_of_length_le (by rw [bl_len]; omega)
      rw [e] at hlv hl36 ⊢
      have hof : dv base (bl s) < 18446744073709551616 := by omega
      clear e hlv hl36
      generalize hqq : dv base (bl s) = q at *
      have HQQ := Lib.hid hqq
      clear hqq
      go_wp2_with (go_at_call 66; (with_reducible refine (of_any hof _ rfl _).mono ?_); rintro e w2 ⟨v, rfl, hv, hb'⟩)
      go_ret
      exact ⟨v, rfl, by rw [HQQ.out]; exact hv, hb'⟩

theorem extract_low_size (s : ByteArray) (k : Nat) (h : k ≤ s.size) : (s.extract 0 k).size = k := by rw [← bl_len, bl_low, List.length_take, bl_len]; omega
theorem extract_high_size (s : ByteArray) (k : Nat) : (s.extract k s.size).size = s.size - k := by rw [← bl_len, bl_high, List.length_drop, bl_len]

theorem Tb.bd {base B P : Nat} {w : World} (h : Tb base B P w) : B ≤ w.heap.size := by
  obtain ⟨n, g, cap, vs, t⟩ := h
  exact t.bound
theorem tb_of {base B P k : Nat} {w : World} (h : ∃ n g cap vs, Tab base B P w n g cap vs ∧ k < n) : Tb base B P w := by
  obtain ⟨n, g, cap, vs, t, _⟩ := h
  exact ⟨n, g, cap, vs, t⟩
theorem Tb.step {base B P : Nat} {w w' : World} (h : Tb base B P w) (hb : Below w.heap.size w w') : Tb base B P w' := h.after hb

set_option maxRecDepth 100000 in
set_option maxHeartbeats 8000000 in
theorem read_any {base B P : Nat} (hb : 2 ≤ base) (hb2 : base ≤ 36) (N : Nat) : ∀ (s : ByteArray) (w : World), s.size ≤ N → s.size ≤ 100000 → Dig base (bl s) → Tb base B P w → PFit (base ^ s.size) →
    Calls Tryd.prog 69 #[.string s, .int .i64 (base : Int), .func (.func 84) #[] #[.pointer (some ⟨P, 0, none⟩)]] w fun e w' =>
      ∃ v, e = .returned v ∧ Nt w' v (dv base (bl s)) ∧ Tb base B P w' ∧ Kept B w w' := by
  induction N using Nat.strongRecOn with
  | _ N ih =>
    intro s w hN hs hd ht hp
    have hbd : B ≤ w.heap.size := by obtain ⟨n, g, cap, vs, t⟩ := ht; exact t.bound
    by_cases h5 : s.size ≤ 5
    · refine (read_small hb hb2 h5 hd w).mono fun e w' ⟨v, he, hv, hbl⟩ => ?_
      exact ⟨v, he, hv, ht.after hbl, Kept.after hbl hbd⟩
    · have IH : Hid (∀ (s' : ByteArray) (w : World), s'.size < s.size → Dig base (bl s') → Tb base B P w → PFit (base ^ s'.size) →
        Calls Tryd.prog 69 #[.string s', .int .i64 (base : Int), .func (.func 84) #[] #[.pointer (some ⟨P, 0, none⟩)]] w fun e w' =>
        ∃ v, e = .returned v ∧ Nt w' v (dv base (bl s')) ∧ Tb base B P w' ∧ Kept B w w') := fun s' w h1 h2 h3 h4 => ih s'.size (by omega) s' w (Nat.le_refl _) (by omega) h2 h3 h4
      clear ih
      have HT := Lib.hid ht
      have HD := Lib.hid hd
      have HP := Lib.hid hp
      clear ht hd hp hN
      have hd5 : decide ((s.size : Int) ≤ 5) = false := decide_eq_false (by omega)
      go_enter Tryd.func69, Tryd.ntmps69
      go_wp2_with fail
      go_loop [9, 10] (fun kk tt => ∃ (k t : Nat), kk = .int .i64 (k : Int) ∧ tt = .int .i64 (t : Int) ∧ Hid (t = 5 * 2 ^ k) ∧ t < s.size ∧ k ≤ t) (fun _ tt => s.size - (intOf tt).toNat)
      case atStart => exact ⟨0, 5, rfl, rfl, rfl, by omega, by omega⟩
      case round =>
        obtain ⟨k, t, rfl, rfl, htk, hts, hkt⟩ := hrel
        have htpos : Hid (0 < t) := by rw [htk.out]; have : 0 < 2 ^ k := Nat.pow_pos (by omega); unfold Hid; omega
        have ht0 := htpos.out
        by_cases hlt : 2 * t < s.size
        · go_wp2_with fail
          go_round
          case rel => exact ⟨k + 1, 2 * t, by go_num, by first | rfl | go_num, by unfold Hid; rw [htk.out, Nat.pow_succ]; omega, hlt, by omega⟩
          case measure => simp [intOf] <;> omega
        · obtain ⟨q, hq⟩ : ∃ q, s.size - t = q := ⟨_, rfl⟩
          have hqt : (s.size : Int) - (t : Int) = (q : Int) := by omega
          have hq1 : q ≤ s.size := by omega
          have hq2 : 0 < q := by omega
          have hq3 : q ≤ t := by omega
          have HQ : Hid (s.size = q + t) := by unfold Hid; omega
          have hpw : Hid (pw base k = base ^ t) := by unfold pw Hid; rw [htk.out]
          clear hlt hq htpos
          have HLOW : Hid ((s.extract 0 q).size = q) := extract_low_size s q hq1
          have HHIGH : Hid ((s.extract q s.size).size = t) := by have := extract_high_size s q; have := HQ.out; unfold Hid; omega
          have hbase : 0 < base := by omega
          have hR1 : Hid (∀ W, Tb base B P W → Calls Tryd.prog 69 #[.string (s.extract 0 q), .int .i64 (base : Int), .func (.func 84) #[] #[.pointer (some ⟨P, 0, none⟩)]] W fun e w' =>
              ∃ v, e = .returned v ∧ Nt w' v (dv base ((bl s).take q)) ∧ Tb base B P w' ∧ Kept B W w') := fun W hW => by
            have := IH.out (s.extract 0 q) W (by have := HLOW.out; have := HQ.out; omega) (by rw [bl_low]; exact HD.out.take) hW (by rw [HLOW.out]; exact HP.out.mono (Nat.pow_le_pow_right hbase hq1))
            rw [bl_low] at this
            exact this
          have hR2 : Hid (∀ W, Tb base B P W → Calls Tryd.prog 69 #[.string (s.extract q s.size), .int .i64 (base : Int), .func (.func 84) #[] #[.pointer (some ⟨P, 0, none⟩)]] W fun e w' =>
              ∃ v, e = .returned v ∧ Nt w' v (dv base ((bl s).drop q)) ∧ Tb base B P w' ∧ Kept B W w') := fun W hW => by
            have := IH.out (s.extract q s.size) W (by have := HHIGH.out; have := HQ.out; omega) (by rw [bl_high]; exact HD.out.drop) hW (by rw [HHIGH.out]; exact HP.out.mono (Nat.pow_le_pow_right hbase (by omega)))
            rw [bl_high] at this
            exact this
          have hfit : Hid (∀ i, i < k → MulFit (pw base i) (pw base i)) := fun i hi => by
            refine HP.out _ _ (Nat.pow_pos hbase) (Nat.pow_pos hbase) ?_
            rw [← pw_succ]
            unfold pw
            refine Nat.pow_le_pow_right hbase ?_
            have : 2 ^ (i + 1) ≤ 2 ^ k := Nat.pow_le_pow_right (by omega) (by omega)
            have := htk.out
            omega
          have hv1 := dv_lt (HD.out.take (k := q))
          have hv2 := dv_lt (HD.out.drop (k := q))
          rw [List.length_take, bl_len, Nat.min_eq_left hq1] at hv1
          rw [List.length_drop, bl_len, show s.size - q = t by have := HQ.out; omega] at hv2
          have hprod : dv base ((bl s).take q) * pw base k ≤ base ^ s.size := by
            rw [hpw.out, HQ.out, Nat.pow_add]
            exact Nat.mul_le_mul_right _ (Nat.le_of_lt hv1)
          have hpk : pw base k ≤ base ^ s.size := by rw [hpw.out]; exact Nat.pow_le_pow_right hbase (by omega)
          have hmf : Hid (MulFit (dv base ((bl s).take q)) (pw base k)) := HP.out.use (Nat.pow_pos hbase : 0 < pw base k) hpk hprod
          have hlim1 : Hid (limbs (dv base ((bl s).take q) * pw base k) ≤ 536870912) := by have := HP.out.limbs hprod; unfold Hid; omega
          have hlim2 : Hid (limbs (dv base ((bl s).drop q)) ≤ 536870912) := by
            have := HP.out.limbs (y := dv base ((bl s).drop q)) (Nat.le_trans (Nat.le_of_lt hv2) (Nat.pow_le_pow_right hbase (by omega)))
            unfold Hid; omega
          have hsum : Hid (dv base (bl s) = dv base ((bl s).take q) * pw base k + dv base ((bl s).drop q)) := by
            have e := dv_app base ((bl s).take q) ((bl s).drop q)
            rw [List.take_append_drop, List.length_drop, bl_len, show s.size - q = t by have := HQ.out; omega, ← hpw.out] at e
            exact e
          clear hv1 hv2 hprod hpk HLOW HHIGH
          go_wp2_with fail
          have HT0 : Hid (Tb base B P w.drew) := HT.out.after (Drawn.below ⟨1, rfl⟩)
          have HB0 : Hid (B ≤ w.drew.heap.size) := hbd
          have hk0 : Hid (Kept B w w.drew) := Kept.after (Drawn.below ⟨1, rfl⟩) hbd
          have hkl : Hid (k ≤ 100000) := by unfold Hid; omega
          go_region_with (first
            | (go_at_call 69; (with_reducible refine (hR1.out _ HT0.out).mono ?_); rintro e w1 ⟨v1, rfl, n1, t1, k1⟩; have N1 := Lib.hid n1; have T1 := Lib.hid t1; have K1 := Lib.hid k1; clear n1 t1 k1)
            | (go_at_call 84; (with_reducible refine (power_any hkl.out T1 hfit _ rfl).mono ?_); rintro e w2 ⟨v2, rfl, n2, t2, k2⟩; have N2 := Lib.hid n2; have T2 : Hid (Tb base B P w2) := tb_of t2; have N12 := Lib.hid (N1.out.kept k2); have K2 := Lib.hid (K1.out.trans k2); clear n2 t2 k2)
            | (go_at_call 67; (with_reducible refine (mul_fit N12.out N2.out hmf.out).mono ?_); rintro e w3 ⟨v3, rfl, n3, k3⟩; have N3 := Lib.hid n3; have T3 := Lib.hid (T2.out.after k3); have K3 := Lib.hid (K2.out.trans (Kept.after k3 T2.out.bd)); clear n3 k3)
            | (go_at_call 69; (with_reducible refine (hR2.out _ T3.out).mono ?_); rintro e w4 ⟨v4, rfl, n4, t4, k4⟩; have N4 := Lib.hid n4; have T4 := Lib.hid t4; have N34 := Lib.hid (N3.out.kept k4); have K4 := Lib.hid (K3.out.trans k4); clear n4 t4 k4)
            | (go_at_call 74; (with_reducible refine (add_nt N34.out N4.out hlim1.out hlim2.out).mono ?_); rintro e w5 ⟨v5, rfl, n5, k5⟩; have N5 := Lib.hid n5; have T5 := Lib.hid (T4.out.after k5); have K5 := Lib.hid (K4.out.trans (Kept.after k5 T4.out.bd)); clear n5 k5))
          all_goals
            go_wp2_with fail
            go_ret
            exact ⟨v5, rfl, by rw [hsum.out]; exact N5.out, T5.out, hk0.out.trans K5.out⟩
end Go.Proofs.YtopbfgmpilnghaaDoor

namespace Go.Proofs.YtopbfgmpilnghaaDoor
open Go.RowKit

/-- what radix.Read answers -/
def ReadPost (base : Nat) (l : List Nat) (w : World) (e : Ending) (w' : World) : Prop :=
  Below w.heap.size w w' ∧
  ((∃ (k c : Nat), l[k]? = some c ∧ base ≤ worthOf c ∧ Dig base (l.take k) ∧ e = .returned (.tuple #[.slice none 0 0, .int .i64 (k : Int), .int .i64 50])) ∨
   (l = [] ∧ e = .returned (.tuple #[.slice none 0 0, .int .i64 0, .int .i64 50])) ∨
   (l ≠ [] ∧ Dig base l ∧ ∃ v, e = .returned (.tuple #[v, .int .i64 0, .int .i64 0]) ∧ Nt w' v (dv base l)))

set_option maxRecDepth 100000 in
set_option maxHeartbeats 2000000 in
theorem readTop_base {base : Int} {v : Value} (h : ¬ (2 ≤ base ∧ base ≤ 36)) (w : World) :
    Calls Tryd.prog 25 #[v, .int .i64 base] w fun e w' => e = .returned (.tuple #[.slice none 0 0, .int .i64 0, .int .i64 1]) ∧ w = w' := by
  have hd : decide (2 ≤ base ∧ base ≤ 36) = false := decide_eq_false h
  go_enter Tryd.func25, Tryd.ntmps25
  go_wp2_with fail
  (with_reducible refine (may_any base _).mono ?_)
  rintro e w1 ⟨rfl, rfl⟩
  rw [hd]
  go_wp2_with fail
  refine bodyPost_ret (v := .tuple #[.slice none 0 0, .int .i64 0, .int .i64 1]) (by simp [results, Tryd.f25]) rfl ?_
  exact ⟨rfl, rfl⟩

set_option maxRecDepth 100000 in
set_option maxHeartbeats 4000000 in
theorem readTop_any {base : Nat} {s : ByteArray} (hb : 2 ≤ base) (hb2 : base ≤ 36) (hs : s.size ≤ 100000) (hp : Hid (PFit (base ^ s.size))) (w : World) (i : Int) (hi : i = (base : Int)) :
    Calls Tryd.prog 25 #[.string s, .int .i64 i] w (ReadPost base (bl s) w) := by
  subst hi
  have hmx : s.size ≤ maxLen := by unfold maxLen; omega
  have hd : decide (2 ≤ (base : Int) ∧ (base : Int) ≤ 36) = true := decide_eq_true (by omega)
  go_enter Tryd.func25, Tryd.ntmps25
  go_wp2_with fail
  (with_reducible refine (may_any _ _).mono ?_)
  rintro e w0 ⟨rfl, rfl⟩
  rw [hd]
  clear hd
  go_wp2_with fail
  go_loop [7, 13] (fun _ i => ∃ k : Nat, k ≤ s.size ∧ i = .int .i64 (k : Int) ∧ Hid (Dig base ((bl s).take k))) (fun _ i => s.size - (intOf i).toNat)
  case atStart => exact ⟨0, by omega, rfl, fun c hc => by simp at hc⟩
  case round =>
    obtain ⟨k, hk, rfl, hdg⟩ := hrel
    by_cases hlt : k < s.size
    · have hget := Lib.hid (bl_get hlt)
      have hc := (s[k]'hlt).toNat_lt
      have hwa := Lib.hid (fun W => worth_any (c := (s[k]'hlt).toNat) hc _ rfl W)
      have hsn : Hid (worthOf (s[k]'hlt).toNat < base → Dig base ((bl s).take (k + 1))) := fun h c hcm => by
        rw [bl_take_snoc hlt] at hcm
        rcases List.mem_append.1 hcm with h1 | h1
        · exact hdg.out c h1
        · simp at h1; rw [h1]; exact h
      clear hc
      obtain ⟨x, hx⟩ : ∃ x, worthOf (s[k]'hlt).toNat = x := ⟨_, rfl⟩
      rw [hx] at hwa hsn
      have HX := Lib.hid hx
      clear hx
      by_cases hxb : base ≤ x
      · have h1 : decide (base ≤ x) = true := decide_eq_true hxb
        have h2 : decide ((base : Int) ≤ (x : Int)) = true := decide_eq_true (by omega)
        go_wp2_with (go_at_call 68; (with_reducible refine (hwa.out _).mono ?_); rintro e w' ⟨rfl, rfl⟩)
        refine bodyPost_ret (v := .tuple #[.slice none 0 0, .int .i64 (k : Int), .int .i64 50]) (by simp [results, Tryd.f25]) rfl ?_
        exact ⟨Below.refl _ _, .inl ⟨k, _, hget.out, by rw [HX.out]; exact hxb, hdg.out, rfl⟩⟩
      · have h1 : decide (base ≤ x) = false := decide_eq_false hxb
        have h2 : decide ((base : Int) ≤ (x : Int)) = false := decide_eq_false (by omega)
        go_wp2_with (go_at_call 68; (with_reducible refine (hwa.out _).mono ?_); rintro e w' ⟨rfl, rfl⟩)
        go_round
        case rel => exact ⟨k + 1, by omega, by go_num, hsn.out (by omega)⟩
        case measure => simp [intOf] <;> omega
    · obtain rfl : k = s.size := by omega
      have e : (bl s).take s.size = bl s := List.take_of_length_le (by rw [bl_len]; omega)
      rw [e] at hdg
      clear e hlt
      by_cases h0 : s.size = 0
      · have hnil : Hid (bl s = []) := List.eq_nil_of_length_eq_zero (by rw [bl_len]; exact h0)
        have he : s.toList = [] := by
          rw [Lib.toList_data]
          exact List.eq_nil_of_length_eq_zero (by rw [Array.length_toList]; exact h0)
        have he2 : s.toList.isEmpty = true := by rw [he]; rfl
        clear he
        go_wp2_with fail
        refine bodyPost_ret (v := .tuple #[.slice none 0 0, .int .i64 0, .int .i64 50]) (by simp [results, Tryd.f25]) rfl ?_
        exact ⟨Below.refl _ _, .inr (.inl ⟨hnil.out, rfl⟩)⟩
      · have hne : Hid (bl s ≠ []) := fun h => h0 (by rw [← bl_len, h]; rfl)
        have he2 : s.toList.isEmpty = false := by
          rw [Lib.toList_data]
          cases hq : s.data.toList with
          | nil =>
            have : s.size = 0 := by
              have := congrArg List.length hq
              rw [Array.length_toList] at this
              exact this
            exact absurd this h0
          | cons x l => rfl
        go_wp2_with fail
        (with_reducible refine (powers_any hb hb2 _ _ rfl).mono ?_)
        rintro e w1 ⟨P, rfl, ht1, hb1⟩
        have HB1 := Lib.hid hb1
        have HT1 := Lib.hid ht1
        clear hb1 ht1
        go_wp2_with fail
        (with_reducible refine (read_any hb hb2 s.size s _ (Nat.le_refl _) hs hdg.out HT1.out hp.out).mono ?_)
        rintro e w2 ⟨v, rfl, hv, ht2, hk2⟩
        have HV := Lib.hid hv
        have HB : Hid (Below w0.heap.size w0 w2) := HB1.out.trans hk2.below
        clear hv ht2 hk2
        go_wp2_with fail
        refine bodyPost_ret (v := .tuple #[v, .int .i64 0, .int .i64 0]) (by simp [results, Tryd.f25]) rfl ?_
        exact ⟨HB.out, .inr (.inr ⟨hne.out, hdg.out, v, rfl, HV.out⟩)⟩
end Go.Proofs.YtopbfgmpilnghaaDoor
