/- RadixTells: the walk. -/
import Derived.Test.YtopbfgmpilnghaaDoorRefs5
import Derived.Test.YtopbfgmpilnghaaDoorHeads
set_option linter.unusedVariables false
set_option linter.unusedSimpArgs false
namespace Go.Proofs.YtopbfgmpilnghaaDoor
open Go.RowKit

set_option maxRecDepth 100000 in
set_option maxHeartbeats 8000000 in
theorem tells_bad {v : Value} {n : Nat} {f : Nat → Nat} {s : ByteArray} {base : Int} {w : World} (h : Rd .u32 w v n f) (hnil : ∀ k c, v = .slice none k c → k = 0 ∧ c = 0) (hf : Fits n f) (hs : s.size ≤ maxLen) (hbase : ¬ (2 ≤ base ∧ base ≤ 36)) :
    Calls Tryd.prog 3 #[v, .string s, .int .i64 base] w fun e w' => e = .returned (.bool true) ∧ Below w.heap.size w w' := by
  unfold maxLen at hs
  have hcs := cut_size s 200
  have HCS := Lib.hid hcs
  have HL := Lib.hid h
  have HF := Lib.hid hf
  have HNIL := Lib.hid hnil
  have HBASE := Lib.hid hbase
  clear hcs h hf hnil hbase
  go_enter Tryd.func3, Tryd.ntmps3
  go_wp2_with fail
  (with_reducible refine (head_any _).mono ?_)
  rintro e w1 ⟨rfl, hb1⟩
  have T1 := Lib.hid hb1
  have HL1 := Lib.hid (HL.out.below hb1)
  clear hb1 HL
  go_wp2_with fail
  (with_reducible refine (nat5_any HL1.out HNIL.out HF.out 40 (by omega) _ (by omega)).mono ?_)
  rintro e w2 ⟨va, rfl, hna, hb2⟩
  have T2 := Lib.hid (After.t T1.out hb2)
  clear hb2 hna HL1 T1
  have hmm : (min ((s.size : Nat) : Int) 200).toNat = min s.size 200 := by omega
  go_wp2_with fail
  rw [show s.extract 0 (min s.size 200) = cut s 200 from rfl]
  clear HCS hmm
  generalize cut s 200 = S at *
  (with_reducible refine (text_bad HBASE.out _).mono ?_)
  rintro e w3 ⟨rfl, rfl⟩
  go_wp2_with fail
  (with_reducible refine (text5_bad HBASE.out _).mono ?_)
  rintro e w3 ⟨rfl, rfl⟩
  go_wp2_with fail
  (with_reducible refine (count_bad HBASE.out _).mono ?_)
  rintro e w3 ⟨rfl, rfl⟩
  go_wp2_with fail
  (with_reducible refine (count5_bad HBASE.out _).mono ?_)
  rintro e w3 ⟨rfl, rfl⟩
  go_wp2_with fail
  (with_reducible refine (readTop_base HBASE.out _).mono ?_)
  rintro e w3 ⟨rfl, rfl⟩
  go_wp2_with fail
  (with_reducible refine (read5_base HBASE.out _).mono ?_)
  rintro e w3 ⟨rfl, rfl⟩
  go_wp2_with fail
  (with_reducible refine (same_any (a := 0) (b := 0) (Nt.zero _ _ _ (Nat.zero_le _)) (Nt.zero _ _ _ (Nat.zero_le _)) (by decide) (by decide)).mono ?_)
  rintro e w4 ⟨rfl, hd4⟩
  have T4 := Lib.hid (T2.out.out.trans hd4.below)
  rw [show decide ((0 : Nat) = 0) = true from rfl]
  clear hd4 T2
  go_wp2_with fail
  go_ret
  exact ⟨rfl, T4.out⟩

set_option maxRecDepth 100000 in
set_option maxHeartbeats 8000000 in
theorem tells_ok {v : Value} {n base : Nat} {f : Nat → Nat} {s : ByteArray} {w : World} (h : Rd .u32 w v n f) (hnil : ∀ k c, v = .slice none k c → k = 0 ∧ c = 0) (hf : Fits n f) (hs : s.size ≤ maxLen) (hb : 2 ≤ base) (hb2 : base ≤ 36) :
    Calls Tryd.prog 3 #[v, .string s, .int .i64 (base : Int)] w fun e w' => e = .returned (.bool true) ∧ Below w.heap.size w w' := by
  unfold maxLen at hs
  have hcs := cut_size s 200
  have HCS := Lib.hid hcs
  have HL := Lib.hid h
  have HF := Lib.hid hf
  have HNIL := Lib.hid hnil
  clear hcs h hf hnil
  have hla : limbs (nv f (min n 40)) ≤ 40 := limbs_le (Nat.lt_of_lt_of_le (nv_lt (fun j hj => HF.out j (by omega))) (Nat.pow_le_pow_right (by omega) (by omega)))
  go_enter Tryd.func3, Tryd.ntmps3
  go_wp2_with fail
  (with_reducible refine (head_any _).mono ?_)
  rintro e w1 ⟨rfl, hb1⟩
  have T1 := Lib.hid hb1
  have HL1 := Lib.hid (HL.out.below hb1)
  clear hb1 HL
  go_wp2_with fail
  (with_reducible refine (nat5_any HL1.out HNIL.out HF.out 40 (by omega) _ (by omega)).mono ?_)
  rintro e w2 ⟨va, rfl, hna, hk⟩
  have T2 := Lib.hid (After.t T1.out hk)
  have HA2 := Lib.hid hna
  clear hk hna HL1 T1
  obtain ⟨a, ha⟩ : ∃ a, nv f (min n 40) = a := ⟨_, rfl⟩
  rw [ha] at hla HA2
  clear ha
  have hmm : (min ((s.size : Nat) : Int) 200).toNat = min s.size 200 := by omega
  go_wp2_with fail
  rw [show s.extract 0 (min s.size 200) = cut s 200 from rfl]
  have hS2 : (cut s 200).size ≤ 200 := by have := HCS.out; omega
  clear HCS hmm
  generalize cut s 200 = S at *
  have hpf : Hid (PFit (base ^ S.size)) := PFit.of (pow36 hb2 hS2)
  have hlim : Hid (limbs (base ^ (bl S).length) ≤ 94) := by rw [bl_len]; exact pow36 hb2 hS2
  have hpw : Hid (PowFit base a) := PowFit.of (by omega)
  have haf : Hid (AFit a) := AFit.of (by omega)
  (with_reducible refine (text_any hb hb2 HA2.out (by omega) hpw _ rfl).mono ?_)
  rintro e w3 ⟨rfl, hk⟩
  have T3 := Lib.hid (After.t T2.out hk)
  have HA3 := Lib.hid (HA2.out.below hk)
  clear hk T2 HA2
  go_wp2_with fail
  (with_reducible refine (text5_any hb hb2 HA3.out (by omega) _ rfl).mono ?_)
  rintro e w4 ⟨rfl, hk⟩
  have T4 := Lib.hid (After.t T3.out hk)
  have HA4 := Lib.hid (HA3.out.below hk)
  clear hk T3 HA3
  go_wp2_with fail
  (with_reducible refine (count_any hb hb2 HA4.out (by omega) haf _ rfl).mono ?_)
  rintro e w5 ⟨rfl, hk⟩
  have T5 := Lib.hid (After.t T4.out hk)
  have HA5 := Lib.hid (HA4.out.below hk)
  clear hk T4 HA4
  go_wp2_with fail
  (with_reducible refine (count5_any hb hb2 HA5.out (by omega) _ rfl).mono ?_)
  rintro e w6 ⟨rfl, hk⟩
  have T6 := Lib.hid (After.t T5.out hk)
  clear hk T5 HA5
  generalize (digs base a).length = dl at *
  generalize str (digs base a) = ds at *
  go_wp2_with fail
  (with_reducible refine (readTop_any hb hb2 (by omega) hpf _ _ rfl).mono ?_)
  rintro e w7 h
  obtain ⟨hk, v7, p, q, x, rfl, hr, hv⟩ := h.reads
  have T7 := Lib.hid (After.t T6.out hk)
  have HX7 := Lib.hid hv
  have HR := Lib.hid hr
  clear hk hv hr h T6
  go_wp2_with fail
  (with_reducible refine (read5_any hb hb2 (by omega) _ _ rfl).mono ?_)
  rintro e w8 h
  obtain ⟨hk, v8, p2, q2, x2, rfl, hr, hv⟩ := h.reads
  obtain ⟨rfl, rfl, rfl⟩ := HR.out.same hr
  have T8 := Lib.hid (After.t T7.out hk)
  have HX8 := Lib.hid hv
  have HX7' := Lib.hid (HX7.out.below hk)
  have hsm := hr.small hlim.out
  clear hk hv hr h T7 HX7
  go_wp2_with fail
  (with_reducible refine (same_any HX7'.out HX8.out (by omega) (by omega)).mono ?_)
  rintro e w9 ⟨rfl, hd9⟩
  have hself : decide (x2 = x2) = true := decide_eq_true rfl
  rw [hself]
  have T9 := Lib.hid (T8.out.out.trans hd9.below)
  clear hd9 T8 hself
  go_wp2_with fail
  go_ret
  exact ⟨rfl, T9.out⟩

theorem tells_walk {v : Value} {n : Nat} {base : Int} {f : Nat → Nat} {s : ByteArray} {w : World} (h : Rd .u32 w v n f) (hnil : ∀ k c, v = .slice none k c → k = 0 ∧ c = 0) (hf : Fits n f) (hs : s.size ≤ maxLen) :
    Calls Tryd.prog 3 #[v, .string s, .int .i64 base] w fun e w' => e = .returned (.bool true) ∧ Below w.heap.size w w' := by
  by_cases hb : 2 ≤ base ∧ base ≤ 36
  · obtain ⟨b, rfl⟩ : ∃ b : Nat, base = (b : Int) := ⟨base.toNat, by omega⟩
    exact tells_ok h hnil hf hs (by omega) (by omega)
  · exact tells_bad h hnil hf hs hb
end Go.Proofs.YtopbfgmpilnghaaDoor
