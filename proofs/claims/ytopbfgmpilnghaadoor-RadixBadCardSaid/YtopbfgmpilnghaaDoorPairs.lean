/- The closure of nat.pairs as an iterator: whatever loop body it is handed, it comes by each pair of limbs in turn. -/
import Derived.Test.YtopbfgmpilnghaaDoorAll
set_option linter.unusedVariables false
namespace Go.Proofs.YtopbfgmpilnghaaDoor
open Go.RowKit Go.Shelf


def encPair (A B : Nat → Nat) (i : Nat) : Array Value := #[.int .u32 (A i : Int), .int .u32 (B i : Int)]

/-- how a round has ended: it goes on, or it has said 'no more' -/
def Ended (A B : World → Prop) (t : Bool) (W : World) : Prop := (t = true ∧ A W) ∨ (t = false ∧ B W)

theorem round_one {m l fn : Nat} {tmps : Array Value} {assign body : Code} {W : World} {A B : World → Prop} (h : RoundIn Fence.wide m Tryd.prog l fn tmps assign body W fun e W' => (e = .returned (.bool true) ∧ A W') ∨ (e = .returned (.bool false) ∧ B W')) :
    RoundIn Fence.wide m Tryd.prog l fn tmps assign body W fun e W' => ∃ t, e = .returned (.bool t) ∧ Ended A B t W' :=
  h.mono fun e W' h => by
    rcases h with ⟨rfl, h⟩ | ⟨rfl, h⟩
    · exact ⟨true, rfl, .inl ⟨rfl, h⟩⟩
    · exact ⟨false, rfl, .inr ⟨rfl, h⟩⟩

set_option maxRecDepth 100000 in
set_option maxHeartbeats 2000000 in
theorem pairs1_in (m l Bn Ba Bb N p q r : Nat) (va vb : Value) (na nb k : Nat) (fa fb : Nat → Nat) (hk : k < 4611686018427387904) (J Jx : List Nat → World → Prop) (W : World)
    (hY : Hid (∀ pre x W1, J pre W1 → pre.length < k → YieldAt Fence.wide (m - 1) Tryd.prog l (encPair (lim na fa) (lim nb fb) x) W1 fun e W' =>
      (e = .returned (.bool true) ∧ J (pre ++ [x]) W' ∧ KpAll N p q r W1 W') ∨ (e = .returned (.bool false) ∧ Jx (pre ++ [x]) W')))
    (hra : Hid (∀ W', KpAll N p q r W W' → Rd .u32 W' va na fa)) (hrb : Hid (∀ W', KpAll N p q r W W' → Rd .u32 W' vb nb fb))
    (hn : Hid (∀ W', KpAll N p q r W W' → W'.cell? ⟨Bn, 0, none⟩ = some (.int .i64 k)))
    (ha : Hid (∀ W', KpAll N p q r W W' → W'.cell? ⟨Ba, 0, none⟩ = some va)) (hb : Hid (∀ W', KpAll N p q r W W' → W'.cell? ⟨Bb, 0, none⟩ = some vb)) (hJd : ∀ s W, J s W → J s W.drew) (h0 : J [] W) :
    CallsIn Fence.wide m Tryd.prog 128 (#[.func (.yield l) #[] #[]] ++ #[.pointer (some ⟨Bn, 0, none⟩), .pointer (some ⟨Ba, 0, none⟩), .pointer (some ⟨Bb, 0, none⟩)]) W fun e W' => (∃ v, e = .returned v) ∧
      ((∃ ys, ys = List.range k ∧ J ys W') ∨ (∃ pre, True ∧ Jx pre W')) := by
  refine callsIn_of_wp Tryd.func128 rfl trivial ?_ rfl
  simp only [Tryd.ntmps128, List.size_toArray, List.length_cons, List.length_nil, Nat.reduceAdd, Nat.reduceSub, Array.replicate_succ, Array.replicate_zero, List.push_toArray, List.append_toArray, List.nil_append, List.cons_append]
  have hkp : KpAll N p q r W W := ⟨Nat.le_refl _, fun _ _ _ _ _ => rfl⟩
  have hn0 := hn.out W hkp
  have hKP := Lib.hid hkp
  clear hkp
  have hsem : ∀ (l : Nat) (ρ : Operand → Value) (o : Oper), (∀ c, o.op ≠ .defer c) → Oper.semAt (some l) ρ o = execOp ρ o := Oper.semAt_some
  gi_wp2
  gi_loopw [7] (fun i wr => ∃ j : Nat, j ≤ k ∧ i = .int .i64 j ∧ J (List.range j) wr ∧ Hid (KpAll N p q r W wr))
    (fun i _ => k - (intOf i).toNat)
  case atStart => exact ⟨0, Nat.zero_le _, rfl, h0, hKP⟩
  case round =>
    obtain ⟨j, hj, rfl, hJs, hkr⟩ := hrel
    by_cases hlt : j < k
    · have hca := ha.out wr hkr.out
      have hcb := hb.out wr hkr.out
      have hRa := Lib.hid (hra.out wr hkr.out)
      have hRb := Lib.hid (hrb.out wr hkr.out)
      obtain ⟨fn, tmps, assign, body, hy, hR⟩ := hY.out (List.range j) j wr.drew (hJd _ _ hJs) (by simpa using hlt)
      unfold encPair at hy
      have hR2 := round_one hR
      clear hR
      have hF1 : Fence.wide.depth = none := rfl
      have hF2 : ∀ f, Fence.wide.fn f := fun _ => trivial
      have hmx : Tryd.prog.follows .mixedOrders = true := by kernel_rfl
      gi_wp2
      have hRa' : Hid (∀ W, W = wr.drew → Rd .u32 W va na fa) := fun W h => by rw [h]; exact hRa.out
      have hRb' : Hid (∀ W, W = wr.drew → Rd .u32 W vb nb fb) := fun W h => by rw [h]; exact hRb.out
      gi_region_with_o (first
        | (gi_at_call 102; (with_reducible refine CallsIn.mono (callsIn_wide.2 (at_any (v := va) (hRa'.out _ rfl) j (by omega))) ?_); rintro e w' ⟨rfl, rfl⟩)
        | (gi_at_call 102; (with_reducible refine CallsIn.mono (callsIn_wide.2 (at_any (v := vb) (hRb'.out _ rfl) j (by omega))) ?_); rintro e w' ⟨rfl, rfl⟩)
        | (refine ⟨trivial, fun h => (by cases h), ?_⟩; refine hR2.mono ?_; rintro e w' ⟨t, rfl, ht⟩)
        | (refine ⟨fun h => (by cases h), ?_⟩; refine hR2.mono ?_; rintro e w' ⟨t, rfl, ht⟩)
        | (refine hR2.mono ?_; rintro e w' ⟨t, rfl, ht⟩))
      all_goals
        rcases ht with ⟨rfl, hJ3, hk3⟩ | ⟨rfl, hJx3⟩
        · gi_wp2
          go_roundw
          case rel => exact ⟨j + 1, by omega, by go_num, by rw [List.range_succ]; exact hJ3, KpAll.t (KpAll.t hkr.out ⟨Nat.le_refl _, fun _ _ _ _ _ => rfl⟩) hk3⟩
          case measure => simp [intOf]; omega
        · gi_wp2
          refine bodyPost_ret (results_none rfl _ _ _) rfl ?_
          exact ⟨⟨_, rfl⟩, .inr ⟨_, trivial, hJx3⟩⟩
    · obtain rfl : j = k := by omega
      gi_wp2
      go_end0
      exact ⟨⟨_, rfl⟩, .inl ⟨_, rfl, hJs⟩⟩
end Go.Proofs.YtopbfgmpilnghaaDoor
