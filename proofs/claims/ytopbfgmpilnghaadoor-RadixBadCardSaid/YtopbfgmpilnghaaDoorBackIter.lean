/- The closure of slices.Backward as an iterator: whatever loop body it is handed, it comes by each limb, the last one first. -/
import Derived.Test.YtopbfgmpilnghaaDoorWorth
set_option linter.unusedVariables false
set_option linter.unusedSimpArgs false
namespace Go.Proofs.YtopbfgmpilnghaaDoor
open Go.RowKit Go.Shelf

/-- the j-th limb from the end, with its place -/
def encBack (n : Nat) (f : Nat → Nat) (j : Nat) : Array Value := #[.int .i64 ((n - 1 - j : Nat) : Int), .int .u32 (f (n - 1 - j) : Int)]

set_option maxRecDepth 100000 in
set_option maxHeartbeats 2000000 in
theorem backward1_in (m l Bs b off cap N p q r n : Nat) (f : Nat → Nat) (hn : n < 4611686018427387904) (J Jx : List Nat → World → Prop) (W : World)
    (hY : Hid (∀ pre x W1, J pre W1 → pre.length < n → YieldAt Fence.wide (m - 1) Tryd.prog l (encBack n f x) W1 fun e W' =>
      (e = .returned (.bool true) ∧ J (pre ++ [x]) W' ∧ KpAll N p q r W1 W') ∨ (e = .returned (.bool false) ∧ Jx (pre ++ [x]) W')))
    (hs : Hid (∀ W', KpAll N p q r W W' → W'.cell? ⟨Bs, 0, none⟩ = some (.slice (some ⟨b, off, none⟩) n cap)))
    (hc : Hid (∀ W', KpAll N p q r W W' → ∀ i, i < n → W'.cell? ⟨b, off + i, none⟩ = some (.int .u32 (f i)))) (h0 : J [] W) :
    CallsIn Fence.wide m Tryd.prog 126 (#[.func (.yield l) #[] #[]] ++ #[.pointer (some ⟨Bs, 0, none⟩)]) W fun e W' => (∃ v, e = .returned v) ∧
      ((∃ ys, ys = List.range n ∧ J ys W') ∨ (∃ pre, True ∧ Jx pre W')) := by
  refine callsIn_of_wp Tryd.func126 rfl trivial ?_ rfl
  simp only [Tryd.ntmps126, List.size_toArray, List.length_cons, List.length_nil, Nat.reduceAdd, Nat.reduceSub, Array.replicate_succ, Array.replicate_zero, List.push_toArray, List.append_toArray, List.nil_append, List.cons_append]
  have hkp : KpAll N p q r W W := ⟨Nat.le_refl _, fun _ _ _ _ _ => rfl⟩
  have hs0 := hs.out W hkp
  have hKP := Lib.hid hkp
  clear hkp
  have hsem : ∀ (l : Nat) (ρ : Operand → Value) (o : Oper), (∀ c, o.op ≠ .defer c) → Oper.semAt (some l) ρ o = execOp ρ o := Oper.semAt_some
  gi_wp2
  gi_loopw [3] (fun i wr => ∃ j : Nat, j ≤ n ∧ i = .int .i64 ((n : Int) - 1 - (j : Int)) ∧ J (List.range j) wr ∧ Hid (KpAll N p q r W wr))
    (fun i _ => (intOf i + 1).toNat)
  case atStart => exact ⟨0, Nat.zero_le _, by first | rfl | go_num, h0, hKP⟩
  case round =>
    obtain ⟨j, hj, rfl, hJs, hkr⟩ := hrel
    by_cases hlt : j < n
    · have hbx := hs.out wr hkr.out
      have hcl := hc.out wr hkr.out (n - 1 - j) (by omega)
      obtain ⟨fn, tmps, assign, body, hy, hR⟩ := hY.out (List.range j) j wr hJs (by simpa using hlt)
      unfold encBack at hy
      have hR2 := round_one hR
      clear hR
      have hF1 : Fence.wide.depth = none := rfl
      have hF2 : ∀ f, Fence.wide.fn f := fun _ => trivial
      obtain ⟨i, hi⟩ : ∃ i, n - 1 - j = i := ⟨_, rfl⟩
      rw [hi] at hcl hy
      have hii : (n : Int) - 1 - (j : Int) = (i : Int) := by omega
      rw [hii]
      gi_wp2_with (first
        | (refine ⟨trivial, fun h => (by cases h), ?_⟩; refine hR2.mono ?_; rintro e w' ⟨t, rfl, ht⟩)
        | (refine ⟨fun h => (by cases h), ?_⟩; refine hR2.mono ?_; rintro e w' ⟨t, rfl, ht⟩)
        | (refine hR2.mono ?_; rintro e w' ⟨t, rfl, ht⟩))
      · rcases ht with ⟨rfl, hJ3, hk3⟩ | ⟨rfl, hJx3⟩
        · first | (exfalso; rename_i h; revert h; decide) | (exfalso; simp at *)
        · refine bodyPost_ret (results_none rfl _ _ _) rfl ?_
          exact ⟨⟨_, rfl⟩, .inr ⟨_, trivial, hJx3⟩⟩
      · rcases ht with ⟨rfl, hJ3, hk3⟩ | ⟨rfl, hJx3⟩
        · go_roundw
          case rel => exact ⟨j + 1, by omega, congrArg (Value.int .i64) (by omega), by rw [List.range_succ]; exact hJ3, KpAll.t hkr.out hk3⟩
          case measure => simp [intOf] <;> omega
        · first | (exfalso; rename_i h; revert h; decide) | (exfalso; simp at *)
    · obtain rfl : j = n := by omega
      gi_wp2
      go_end0
      exact ⟨⟨_, rfl⟩, .inl ⟨_, rfl, hJs⟩⟩
end Go.Proofs.YtopbfgmpilnghaaDoor
