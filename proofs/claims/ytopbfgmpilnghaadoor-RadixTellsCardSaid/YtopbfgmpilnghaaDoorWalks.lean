/- nat.carried, nat.pairs and the closures that they hand back; nat.all: the limbs that a step makes of two naturals. The closure of nat.pairs as an iterator: whatever loop body it is handed, it comes by each pair of limbs in turn. A region in the body of a range over a function: what is shown of its operations outside a round holds in one (no deferred call among them, no way out by growth). nat.all: the limbs that a step makes of two naturals, without noughts at the end. -/
import Derived.Test.YtopbfgmpilnghaaDoorGround
import Derived.RangeFuncNested
import Derived.RangeFuncBound
import Derived.RangeFuncCalls
import Derived.RangeFuncLeaves
import Derived.Shelf.Abstract
import Derived.Shelf.RegionOpen
import Derived.OwnWalkIn
import Derived.TacticsInMore
import Derived.LoopNIn
import Derived.LoopIn
import Derived.StillTail
import Derived.Maps.AppendAt
set_option linter.unusedVariables false
set_option linter.unusedSimpArgs false
namespace Go.Proofs.YtopbfgmpilnghaaDoor
open Go.RowKit Go.Shelf

/-- what the closure of nat.carried does when it holds the function sf: st tells the limb and what is carried on -/
def IsDo (sf : Nat) (st : Nat → Nat → Nat → Nat × Nat) : Prop :=
  ∀ (x y c Bs Bc : Nat) (w : World), x < 4294967296 → y < 4294967296 → c ≤ 1 → w.cell? ⟨Bs, 0, none⟩ = some (.func (.func sf) #[] #[]) → w.cell? ⟨Bc, 0, none⟩ = some (.int .u32 c) → w.frozen? ⟨Bc, 0, none⟩ = false →
    Calls Tryd.prog 127 #[.int .u32 x, .int .u32 y, .pointer (some ⟨Bs, 0, none⟩), .pointer (some ⟨Bc, 0, none⟩)] w fun e w' => e = .returned (.int .u32 ((st x y c).1 : Int)) ∧ w' = w.setCell ⟨Bc, 0, none⟩ (.int .u32 ((st x y c).2 : Int))

theorem carried_any (fv : Value) (h : fv.oneCell' = true) (w : World) :
    Calls Tryd.prog 116 #[fv] w fun e w' => e = .returned (.func (.func 127) #[] #[.pointer (some ⟨w.heap.size, 0, none⟩), .pointer (some ⟨w.heap.size + 1, 0, none⟩)]) ∧
      w' = (w.alloc (.cells #[fv] 114)).alloc (.cells #[.int .u32 0] 46) := by
  go_enter Tryd.func116, Tryd.ntmps116
  go_wp2
  go_ret
  exact ⟨rfl, rfl⟩

set_option maxHeartbeats 1000000 in
theorem pairs_any (aa ab : Option Addr) (na ca nb cb k : Nat) (w : World) :
    Calls Tryd.prog 117 #[.slice aa na ca, .slice ab nb cb, .int .i64 k] w fun e w' => e = .returned (.func (.func 128) #[] #[.pointer (some ⟨w.heap.size + 2, 0, none⟩), .pointer (some ⟨w.heap.size, 0, none⟩), .pointer (some ⟨w.heap.size + 1, 0, none⟩)]) ∧
      w' = ((w.alloc (.cells #[.slice aa na ca] 22)).alloc (.cells #[.slice ab nb cb] 22)).alloc (.cells #[.int .i64 k] 3) := by
  go_enter Tryd.func117, Tryd.ntmps117
  go_wp2
  go_ret
  exact ⟨rfl, rfl⟩

def addStep (x y c : Nat) : Nat × Nat := ((x + y + c) % 4294967296, (x + y + c) / 4294967296)
def subStep (x y c : Nat) : Nat × Nat := ((x + 4294967296 - y - c) % 4294967296, borrow x y c)

theorem do_add : IsDo 99 addStep := by
  intro x y c Bs Bc w hx hy hc h1 h2 h3
  go_enter Tryd.func127, Tryd.ntmps127
  go_wp2_with (go_at_call 99; refine (add32_any x y c _ hx hy (by omega)).mono ?_; rintro e w' ⟨rfl, rfl⟩)
  go_ret
  exact ⟨rfl, rfl⟩

theorem do_sub : IsDo 100 subStep := by
  intro x y c Bs Bc w hx hy hc h1 h2 h3
  go_enter Tryd.func127, Tryd.ntmps127
  go_wp2_with (go_at_call 100; refine (sub32_any x y c _ hx hy hc).mono ?_; rintro e w' ⟨rfl, rfl⟩)
  go_ret
  exact ⟨rfl, rfl⟩

/-- what a round of the loop keeps: all that lay below N but the blocks that it writes -/
def KpAll (N p q r : Nat) (W W' : World) : Prop := W.heap.size ≤ W'.heap.size ∧ ∀ k, k < N → k ≠ p → k ≠ q → k ≠ r → W'.heap[k]? = W.heap[k]?

theorem KpAll.t {N p q r : Nat} {A B C : World} (h : KpAll N p q r A B) (k : KpAll N p q r B C) : KpAll N p q r A C :=
  ⟨Nat.le_trans h.1 k.1, fun i h1 h2 h3 h4 => (k.2 i h1 h2 h3 h4).trans (h.2 i h1 h2 h3 h4)⟩

theorem KpAll.b {N p q r : Nat} {n0 : Nat} (hn : N ≤ n0) (W : World) (l : Nat) (o o' : Obj) (hl : n0 ≤ l) (h : W.heap[l]? = some o) (_ : o.isCells = false) (_ : o.isWalk = false) : KpAll N p q r W (W.putObj l o') :=
  ⟨by simp, fun k hk _ _ _ => World.putObj_heap_other (by omega)⟩

theorem KpAll.cell {N p q r : Nat} {A B : World} (h : KpAll N p q r A B) {b off : Nat} (h1 : b < N) (h2 : b ≠ p) (h3 : b ≠ q) (h4 : b ≠ r) : B.cell? ⟨b, off, none⟩ = A.cell? ⟨b, off, none⟩ :=
  World.cell?_of_block (w := A) (a := ⟨b, off, none⟩) (h.2 b h1 h2 h3 h4)

/-- a limb; nought beyond -/
def lim (n : Nat) (f : Nat → Nat) (i : Nat) : Nat := if i < n then f i else 0
theorem lim_lt {n : Nat} {f : Nat → Nat} (h : Fits n f) (i : Nat) : lim n f i < 4294967296 := by
  unfold lim; split
  · exact h i ‹_›
  · omega

theorem at_any {v : Value} {n : Nat} {f : Nat → Nat} {w : World} (h : Rd .u32 w v n f) (i : Nat) (hi : i < 4611686018427387904) :
    Calls Tryd.prog 102 #[v, .int .i64 i] w fun e w' => e = .returned (.int .u32 (lim n f i : Int)) ∧ w = w' := by
  obtain ⟨ao, cap, rfl, hcap, hm, hc⟩ := h
  unfold lim
  by_cases hlt : i < n
  · obtain ⟨b, off, rfl, hb, hcl⟩ := hc (by omega)
    have hcell := hcl i hlt
    clear hcl hc
    rw [if_pos hlt]
    go_enter Tryd.func102, Tryd.ntmps102
    go_wp2
    go_ret
    exact ⟨rfl, rfl⟩
  · clear hc
    rw [if_neg hlt]
    go_enter Tryd.func102, Tryd.ntmps102
    go_wp2
    go_ret
    exact ⟨rfl, rfl⟩
end Go.Proofs.YtopbfgmpilnghaaDoor

namespace Go.Proofs.YtopbfgmpilnghaaDoor
open Go.RowKit Go.Shelf


def encPair (A B : Nat → Nat) (i : Nat) : Array Value := #[.int .u32 (A i : Int), .int .u32 (B i : Int)]

/-- how a round has ended: it goes on, or it has said 'no more' -/
def Ended (A B : World → Prop) (t : Bool) (W : World) : Prop := (t = true ∧ A W) ∨ (t = false ∧ B W)

theorem round_one {m l fn : Nat} {tmps : Array Value} {assign body : Code} {W : World} {A B : World → Prop} (h : RoundIn Fence.wide m Tryd.prog l fn tmps assign body W fun e W' => (e = .returned (.bool true) ∧ A W') ∨ (e = .returned (.bool false) ∧ B W')) :
    RoundIn Fence.wide m Tryd.prog l fn tmps assign body W fun e W' => ∃ t, e = .returned (.bool t) ∧ Ended A B t W' :=
  h.mono fun e W' h => by
    rcases h with ⟨rfl, h⟩ | ⟨rfl, h⟩
    · exact ⟨true, rfl, .inl ⟨rfl, h⟩⟩
    · exact ⟨false, rfl, .inr ⟨rfl, h⟩⟩

set_option maxRecDepth 100000 in
set_option maxHeartbeats 2000000 in
theorem pairs1_in (m l Bn Ba Bb N p q r : Nat) (va vb : Value) (na nb k : Nat) (fa fb : Nat → Nat) (hk : k < 4611686018427387904) (J Jx : List Nat → World → Prop) (W : World)
    (hY : Hid (∀ pre x W1, J pre W1 → pre.length < k → YieldAt Fence.wide (m - 1) Tryd.prog l (encPair (lim na fa) (lim nb fb) x) W1 fun e W' =>
      (e = .returned (.bool true) ∧ J (pre ++ [x]) W' ∧ KpAll N p q r W1 W') ∨ (e = .returned (.bool false) ∧ Jx (pre ++ [x]) W')))
    (hra : Hid (∀ W', KpAll N p q r W W' → Rd .u32 W' va na fa)) (hrb : Hid (∀ W', KpAll N p q r W W' → Rd .u32 W' vb nb fb))
    (hn : Hid (∀ W', KpAll N p q r W W' → W'.cell? ⟨Bn, 0, none⟩ = some (.int .i64 k)))
    (ha : Hid (∀ W', KpAll N p q r W W' → W'.cell? ⟨Ba, 0, none⟩ = some va)) (hb : Hid (∀ W', KpAll N p q r W W' → W'.cell? ⟨Bb, 0, none⟩ = some vb)) (hJd : ∀ s W, J s W → J s W.drew) (h0 : J [] W) :
    CallsIn Fence.wide m Tryd.prog 128 (#[.func (.yield l) #[] #[]] ++ #[.pointer (some ⟨Bn, 0, none⟩), .pointer (some ⟨Ba, 0, none⟩), .pointer (some ⟨Bb, 0, none⟩)]) W fun e W' => (∃ v, e = .returned v) ∧
      ((∃ ys, ys = List.range k ∧ J ys W') ∨ (∃ pre, True ∧ Jx pre W')) := by
  refine callsIn_of_wp Tryd.func128 rfl trivial ?_ rfl
  simp only [Tryd.ntmps128, List.size_toArray, List.length_cons, List.length_nil, Nat.reduceAdd, Nat.reduceSub, Array.replicate_succ, Array.replicate_zero, List.push_toArray, List.append_toArray, List.nil_append, List.cons_append]
  have hkp : KpAll N p q r W W := ⟨Nat.le_refl _, fun _ _ _ _ _ => rfl⟩
  have hn0 := hn.out W hkp
  have hKP := Lib.hid hkp
  clear hkp
  have hsem : ∀ (l : Nat) (ρ : Operand → Value) (o : Oper), (∀ c, o.op ≠ .defer c) → Oper.semAt (some l) ρ o = execOp ρ o := Oper.semAt_some
  gi_wp2
  gi_loopw [7] (fun i wr => ∃ j : Nat, j ≤ k ∧ i = .int .i64 j ∧ J (List.range j) wr ∧ Hid (KpAll N p q r W wr))
    (fun i _ => k - (intOf i).toNat)
  case atStart => exact ⟨0, Nat.zero_le _, rfl, h0, hKP⟩
  case round =>
    obtain ⟨j, hj, rfl, hJs, hkr⟩ := hrel
    by_cases hlt : j < k
    · have hca := ha.out wr hkr.out
      have hcb := hb.out wr hkr.out
      have hRa := Lib.hid (hra.out wr hkr.out)
      have hRb := Lib.hid (hrb.out wr hkr.out)
      obtain ⟨fn, tmps, assign, body, hy, hR⟩ := hY.out (List.range j) j wr.drew (hJd _ _ hJs) (by simpa using hlt)
      unfold encPair at hy
      have hR2 := round_one hR
      clear hR
      have hF1 : Fence.wide.depth = none := rfl
      have hF2 : ∀ f, Fence.wide.fn f := fun _ => trivial
      have hmx : Tryd.prog.follows .mixedOrders = true := by kernel_rfl
      gi_wp2
      have hRa' : Hid (∀ W, W = wr.drew → Rd .u32 W va na fa) := fun W h => by rw [h]; exact hRa.out
      have hRb' : Hid (∀ W, W = wr.drew → Rd .u32 W vb nb fb) := fun W h => by rw [h]; exact hRb.out
      gi_region_with_o (first
        | (gi_at_call 102; (with_reducible refine CallsIn.mono (callsIn_wide.2 (at_any (v := va) (hRa'.out _ rfl) j (by omega))) ?_); rintro e w' ⟨rfl, rfl⟩)
        | (gi_at_call 102; (with_reducible refine CallsIn.mono (callsIn_wide.2 (at_any (v := vb) (hRb'.out _ rfl) j (by omega))) ?_); rintro e w' ⟨rfl, rfl⟩)
        | (refine ⟨trivial, fun h => (by cases h), ?_⟩; refine hR2.mono ?_; rintro e w' ⟨t, rfl, ht⟩)
        | (refine ⟨fun h => (by cases h), ?_⟩; refine hR2.mono ?_; rintro e w' ⟨t, rfl, ht⟩)
        | (refine hR2.mono ?_; rintro e w' ⟨t, rfl, ht⟩))
      all_goals
        rcases ht with ⟨rfl, hJ3, hk3⟩ | ⟨rfl, hJx3⟩
        · gi_wp2
          go_roundw
          case rel => exact ⟨j + 1, by omega, by go_num, by rw [List.range_succ]; exact hJ3, KpAll.t (KpAll.t hkr.out ⟨Nat.le_refl _, fun _ _ _ _ _ => rfl⟩) hk3⟩
          case measure => simp [intOf]; omega
        · gi_wp2
          refine bodyPost_ret (results_none rfl _ _ _) rfl ?_
          exact ⟨⟨_, rfl⟩, .inr ⟨_, trivial, hJx3⟩⟩
    · obtain rfl : j = k := by omega
      gi_wp2
      go_end0
      exact ⟨⟨_, rfl⟩, .inl ⟨_, rfl, hJs⟩⟩
end Go.Proofs.YtopbfgmpilnghaaDoor

namespace Go.Proofs.YtopbfgmpilnghaaDoor
open Go.RowKit Go.Shelf

/-- no operation is a defer statement -/
def noDefer (ops : Array Oper) : Bool := ops.toList.all fun o => match o.op with | .defer _ => false | _ => true

theorem noDefer_spec {ops : Array Oper} (h : noDefer ops = true) {i : Nat} {o : Oper} (hi : ops[i]? = some o) : ∀ c, o.op ≠ .defer c := by
  intro c hc
  have hm : o ∈ ops.toList := by
    have := Array.mem_of_getElem? hi
    simpa using this
  have := List.all_eq_true.1 h o hm
  rw [hc] at this
  cases this

theorem oper_bridge {P : Program} {l n : Nat} {o : Oper} {a : Act} {w : World} {K : Act → World → Prop} {Q : Exit → Act → World → Prop} (hnd : ∀ c, o.op ≠ .defer c) (h : o.wp P a w K Q) : o.wpIn (Fence.wide.inRound l) n P a w K Q := by
  refine ⟨fun _ _ => trivial, ?_⟩
  rw [Fence.inRound_round, Oper.semAt_some l _ _ hnd]
  unfold Oper.wp at h
  generalize (execOp a.eval o).run P w = r at *
  cases r with
  | ok x w' =>
    cases x with
    | value v => exact h
    | skip => exact h
    | defer d => exact h
    | enter f args => exact ⟨fun h => (by cases h), callsIn_wide.2 h⟩
    | row r args => 
      refine ⟨fun h => (by cases h), fun c cs _ => ?_⟩
      obtain ⟨v, w2, hv, hs⟩ := h c cs
      exact ⟨v, w2, hv, stepsIn_wide.2 hs⟩
    | round _ _ _ _ _ => exact h.elim
    | _ => exact h
  | halt x w' => cases x <;> exact h

theorem wpOp_bridge {P : Program} {l n : Nat} {ops : Array Oper} {Q : Exit → Act → World → Prop} (hnd : noDefer ops = true) (hQ : ¬ LetsOut Q) {i : Nat} {K : Act → World → Prop} {a : Act} {w : World} (h : wpOp P ops Q i K a w) :
    wpOpIn (Fence.wide.inRound l) n P ops Q i K a w := by
  unfold wpOp at h
  unfold wpOpIn
  split
  · rename_i hi; rw [hi] at h; exact h
  · rename_i o hi
    rw [hi] at h
    simp only at h
    split
    · rename_i hw
      rw [if_pos hw] at h
      rcases h with h | h
      · exact oper_bridge (noDefer_spec hnd hi) h
      · exact absurd h.2 hQ
    · rename_i hw
      rw [if_neg hw] at h
      exact ⟨fun _ _ => trivial, h⟩

theorem wpAny_bridge {P : Program} {l n : Nat} {md : Region.Mode} {ops : Array Oper} {Q : Exit → Act → World → Prop} (hnd : noDefer ops = true) (hQ : ¬ LetsOut Q) :
    ∀ (fuel : Nat) (listed : Array Bool) (a : Act) (w : World), wpAny P md ops Q fuel listed a w → wpAnyIn (Fence.wide.inRound l) n P md ops Q fuel listed a w
  | 0, _, _, _, h => h
  | fuel + 1, _, _, _, h => ⟨h.1, fun i hi => wpOp_bridge hnd hQ (wpOp_mono (fun a' w' h' => wpAny_bridge hnd hQ fuel _ a' w' h') (h.2 i hi))⟩

/-- a region that draws its order, in a round -/
theorem wpIn_round_draw {P : Program} {l n id : Nat} {ops : Array Oper} {Q : Exit → Act → World → Prop} {a : Act} {w : World} (hm : P.follows .mixedOrders = true) (hnd : noDefer ops = true) (hQ : ∀ a w, ¬ Q .outgrown a w)
    (h : wpAny P .any ops Q ops.size (Array.replicate ops.size false) a w.drew) : (Code.region id ops true).wpIn (Fence.wide.inRound l) n P Q a w :=
  wpIn_region_any hm (wpAny_bridge hnd (fun ⟨a, w, h⟩ => hQ a w h) _ _ _ _ h)

/-- one operation that comes next, whichever others may -/
theorem any_one {P : Program} {md : Region.Mode} {ops : Array Oper} {Q : Exit → Act → World → Prop} {i : Nat} {fuel : Nat} {listed : Array Bool} {a : Act} {w : World} (hr : Region.ready md ops listed = [i])
    (h : wpOp P ops Q i (wpAny P md ops Q fuel (listed.setIfInBounds i true)) a w) : wpAny P md ops Q (fuel + 1) listed a w :=
  wpAny_all hr (by simp) (fun j hj => by simp at hj; subst hj; exact h)

theorem any_two {P : Program} {md : Region.Mode} {ops : Array Oper} {Q : Exit → Act → World → Prop} {i j : Nat} {fuel : Nat} {listed : Array Bool} {a : Act} {w : World} (hr : Region.ready md ops listed = [i, j])
    (h1 : wpOp P ops Q i (wpAny P md ops Q fuel (listed.setIfInBounds i true)) a w) (h2 : wpOp P ops Q j (wpAny P md ops Q fuel (listed.setIfInBounds j true)) a w) : wpAny P md ops Q (fuel + 1) listed a w :=
  wpAny_all hr (by simp) (fun k hk => by
    simp at hk
    rcases hk with rfl | rfl
    · exact h1
    · exact h2)

/-- an operation that yields a value here and leaves the world -/
theorem op_value {P : Program} {ops : Array Oper} {Q : Exit → Act → World → Prop} {i : Nat} {o : Oper} {v : Value} {K : Act → World → Prop} {a : Act} {w : World} (hi : ops[i]? = some o) (hg : o.guard = none)
    (h : (execOp a.eval o).run P w = .ok (.value v) w) (hK : K (a.put o.dst v) w) : wpOp P ops Q i K a w := by
  unfold wpOp
  rw [hi]
  have hw : Region.wanted o (yielded ops a.tmps) = true := by unfold Region.wanted; rw [hg]
  simp only [hw, if_true]
  left
  unfold Oper.wp
  rw [h]
  exact hK

/-- from operation k on the order is forced -/
theorem any_tail {P : Program} {md : Region.Mode} {ops : Array Oper} {Q : Exit → Act → World → Prop} (k : Nat) {fuel : Nat} {listed : Array Bool} {a : Act} {w : World} (hf : (ops.toList.drop k).length = fuel)
    (hB : Region.seqB md ops (ops.toList.drop k).length k listed = true) (h : wpList P ops Q (ops.toList.drop k) a w) : wpAny P md ops Q fuel listed a w := by
  subst hf
  exact wpAny_of_seq _ k listed a w (fun j => by simp [List.getElem?_drop]) hB h

/-- a move comes first -/
theorem any_move {P : Program} {ops : Array Oper} {Q : Exit → Act → World → Prop} (i : Nat) {oi : Oper} {x : Operand} {fuel : Nat} {listed : Array Bool} {a : Act} {w : World} (hi : ops[i]? = some oi) (ho : oi.op = .move x) (hg : oi.guard = none)
    (hs : Region.noSelect ops = true) (hf : Region.free .any ops listed i = true) (hr : (Region.ready .any ops listed).contains i = true)
    (hQ' : ∀ c a w v, Q (.panic c) (a.put oi.dst v) w → Q (.panic c) a w)
    (h : wpAny P .any ops Q fuel (listed.setIfInBounds i true) (a.put oi.dst (a.eval x)) w) : wpAny P .any ops Q (fuel + 1) listed a w :=
  wpAny_take hi hs hf hr (fun c a' w' => hQ' c a' w' _) (.inl ⟨by unfold Region.wanted; rw [hg], fun w => by simp [execOp, ho, go_sem]⟩) h
end Go.Proofs.YtopbfgmpilnghaaDoor

namespace Go.Proofs.YtopbfgmpilnghaaDoor
open Go.RowKit Go.Shelf


/-- what is carried ahead of limb i -/
def cy (st : Nat → Nat → Nat → Nat × Nat) (A B : Nat → Nat) : Nat → Nat
  | 0 => 0
  | i + 1 => (st (A i) (B i) (cy st A B i)).2
/-- limb i -/
def og (st : Nat → Nat → Nat → Nat × Nat) (A B : Nat → Nat) (i : Nat) : Nat := (st (A i) (B i) (cy st A B i)).1

/-- a run over any list of places: the limbs, and what is carried -/
def rn (st : Nat → Nat → Nat → Nat × Nat) (A B : Nat → Nat) (pre : List Nat) : List Value × Nat :=
  pre.foldl (fun s i => (s.1 ++ [.int .u32 ((st (A i) (B i) s.2).1 : Int)], (st (A i) (B i) s.2).2)) ([], 0)

theorem rn_snoc (st : Nat → Nat → Nat → Nat × Nat) (A B : Nat → Nat) (pre : List Nat) (i : Nat) :
    rn st A B (pre ++ [i]) = ((rn st A B pre).1 ++ [.int .u32 ((st (A i) (B i) (rn st A B pre).2).1 : Int)], (st (A i) (B i) (rn st A B pre).2).2) := by
  simp [rn]

theorem rn_len (st : Nat → Nat → Nat → Nat × Nat) (A B : Nat → Nat) (k : Nat) : rn st A B (List.range k) = (cellsOf .u32 k (og st A B), cy st A B k) := by
  induction k with
  | zero => rfl
  | succ k ih => rw [List.range_succ, rn_snoc, ih, cellsOf_snoc]; rfl

/-- a step keeps to its bounds -/
def StepOk (st : Nat → Nat → Nat → Nat × Nat) : Prop := ∀ x y c, x < 4294967296 → y < 4294967296 → c ≤ 1 → (st x y c).1 < 4294967296 ∧ (st x y c).2 ≤ 1

theorem rn_le {st : Nat → Nat → Nat → Nat × Nat} (hst : StepOk st) {A B : Nat → Nat} (hA : ∀ i, A i < 4294967296) (hB : ∀ i, B i < 4294967296) (pre : List Nat) : (rn st A B pre).2 ≤ 1 := by
  rcases List.eq_nil_or_concat pre with rfl | ⟨l, i, rfl⟩
  · simp [rn]
  · rw [List.concat_eq_append, rn_snoc]
    exact (hst _ _ _ (hA i) (hB i) (rn_le hst hA hB l)).2
termination_by pre.length
decreasing_by subst_vars; simp

theorem cy_le {st : Nat → Nat → Nat → Nat × Nat} (hst : StepOk st) {A B : Nat → Nat} (hA : ∀ i, A i < 4294967296) (hB : ∀ i, B i < 4294967296) (i : Nat) : cy st A B i ≤ 1 := by
  induction i with
  | zero => simp [cy]
  | succ i ih => exact (hst _ _ _ (hA i) (hB i) ih).2

theorem add_ok : StepOk addStep := fun x y c hx hy hc => ⟨by simp only [addStep]; omega, by simp only [addStep]; omega⟩
theorem sub_ok : StepOk subStep := fun x y c hx hy hc => ⟨by simp only [subStep]; omega, by simp only [subStep, borrow]; split <;> omega⟩

/-- a block of cells that nobody may not write -/
def Blk (W : World) (k : Nat) (cs : Array Value) (e : TypeId) : Prop := W.heap[k]? = some (.cells cs e (0, 0))

theorem Blk.kept {W W' : World} {k : Nat} {cs : Array Value} {e : TypeId} (h : Blk W k cs e) {row : Option Nat} (hg : W.grownBy W' row) (hr : ∀ r, row = some r → ∃ o : Obj, W.heap[r]? = some o ∧ o.isCells = false) : Blk W' k cs e := by
  unfold Blk at *
  rw [hg.block k (Array.getElem?_eq_some_iff.1 h).1 (fun e' => ?_)]
  · exact h
  · obtain ⟨o, ho, hc⟩ := hr k e'.symm
    rw [h] at ho
    cases ho
    cases hc

theorem Blk.cell {W : World} {k : Nat} {v : Value} {cs : Array Value} {e : TypeId} (h : Blk W k cs e) (hv : cs[0]? = some v) : W.cell? ⟨k, 0, none⟩ = some v := by
  unfold Blk at h
  simp only [World.cell?, h]
  simpa using hv
theorem Blk.free {W : World} {k off : Nat} {cs : Array Value} {e : TypeId} (h : Blk W k cs e) : W.frozen? ⟨k, off, none⟩ = false := by
  unfold Blk at h
  simp [World.frozen?, h]
theorem Blk.lt {W : World} {k : Nat} {cs : Array Value} {e : TypeId} (h : Blk W k cs e) : k < W.heap.size := (Array.getElem?_eq_some_iff.1 h).1
theorem Blk.alloc {W : World} {k : Nat} {cs : Array Value} {e : TypeId} (h : Blk W k cs e) (o : Obj) : Blk (W.alloc o) k cs e := (heap_alloc_old W o h.lt).trans h
theorem Blk.new (W : World) (cs : Array Value) (e : TypeId) : Blk (W.alloc (.cells cs e)) W.heap.size cs e := heap_alloc_new W _
theorem Blk.grown {W W' : World} {k : Nat} {cs : Array Value} {e : TypeId} (h : Blk W k cs e) {row : Option Nat} (hg : W.grownBy W' row) (hr : some k ≠ row) : Blk W' k cs e := (hg.block k h.lt hr).trans h
theorem Blk.setCell {W : World} {k : Nat} {u v : Value} {e : TypeId} (h : Blk W k #[u] e) : Blk (W.setCell ⟨k, 0, none⟩ v) k #[v] e := by
  unfold Blk at *
  simp [World.setCell, Array.getElem?_modify, h]
theorem Blk.other {W : World} {k : Nat} {cs : Array Value} {e : TypeId} (h : Blk W k cs e) {p : Addr} (hp : k ≠ p.block) (v : Value) : Blk (W.setCell p v) k cs e := (Below.heap_setCell W p v k hp).trans h
theorem Blk.drew {W : World} {k : Nat} {cs : Array Value} {e : TypeId} (h : Blk W k cs e) : Blk W.drew k cs e := h

theorem Rd.carry {k : IntKind} {w w' : World} {v : Value} {n : Nat} {f : Nat → Nat} (h : Rd k w v n f) (hs : w.heap.size ≤ w'.heap.size) (hb : ∀ i, i < w.heap.size → w'.heap[i]? = w.heap[i]?) : Rd k w' v n f := by
  obtain ⟨ao, cap, hv, hn, hc, hcells⟩ := h
  refine ⟨ao, cap, hv, hn, hc, fun h0 => ?_⟩
  obtain ⟨b, off, ha, hbl, hcl⟩ := hcells h0
  exact ⟨b, off, ha, by omega, fun j hj => (World.cell?_of_block (w := w) (a := ⟨b, off + j, none⟩) (hb b hbl)).trans (hcl j hj)⟩

/-- a block that is no cells turns: what is read stays -/
theorem Rd.put {k : IntKind} {W : World} {v : Value} {n : Nat} {f : Nat → Nat} (h : Rd k W v n f) {D : Nat} {o o' : Obj} (hD : W.heap[D]? = some o) (ho : o.isCells = false) : Rd k (W.putObj D o') v n f := by
  obtain ⟨ao, cap, hv, hn, hc, hcells⟩ := h
  refine ⟨ao, cap, hv, hn, hc, fun h0 => ?_⟩
  obtain ⟨b, off, ha, hbl, hcl⟩ := hcells h0
  exact ⟨b, off, ha, by simpa using hbl, fun j hj => cell_kept (hcl j hj) (grownBy_putObj' W D o') (fun r e => by cases e; exact ⟨o, hD, ho⟩)⟩

theorem ownsRow_setCell_apart {w : World} {base : Nat} {e : TypeId} {v : Value} {n : Nat} {xs : List Value} (h : w.ownsRow base e 1 v n xs) {a : Addr} (ha : v.ownBlock ≠ some a.block) (u : Value) : (w.setCell a u).ownsRow base e 1 v n xs := by
  refine h.kept (row := some a.block) ⟨rfl, rfl, rfl, by simp [World.setCell], fun k hk hne => Below.heap_setCell _ _ _ _ (by simpa using hne)⟩ (.inr ha)

theorem grown_drew (W : World) : W.grownBy W.drew none := ⟨rfl, rfl, rfl, Nat.le_refl _, fun _ _ _ => rfl⟩

/-- nat.pairs' closure is an iterator that comes by all pairs in turn -/
theorem pairs_stops (m Bn Ba Bb p q r : Nat) (va vb : Value) (na nb k : Nat) (fa fb : Nat → Nat) (hk : k < 4611686018427387904) (w W0 : World) (hB : Below w.heap.size w W0)
    (ha : Rd .u32 w va na fa) (hb : Rd .u32 w vb nb fb) (hp : w.heap.size ≤ p) (hq : w.heap.size ≤ q) (hr : w.heap.size ≤ r)
    (h1 : Blk W0 Bn #[.int .i64 k] 3) (h2 : Blk W0 Ba #[va] 22) (h3 : Blk W0 Bb #[vb] 22)
    (n1 : Bn ≠ p ∧ Bn ≠ q ∧ Bn ≠ r) (n2 : Ba ≠ p ∧ Ba ≠ q ∧ Ba ≠ r) (n3 : Bb ≠ p ∧ Bb ≠ q ∧ Bb ≠ r) :
    SeqStopsK Fence.wide m Tryd.prog 128 #[.pointer (some ⟨Bn, 0, none⟩), .pointer (some ⟨Ba, 0, none⟩), .pointer (some ⟨Bb, 0, none⟩)] (encPair (lim na fa) (lim nb fb)) (KpAll W0.heap.size p q r)
      (fun ys => ys = List.range k) (fun _ => True) k W0 := fun l J Jx W hW hJ hJx hY h0 => by
  have hold : ∀ W', KpAll W0.heap.size p q r W W' → ∀ i, i < w.heap.size → W'.heap[i]? = w.heap[i]? := fun W' h i hi => by
    have := hB.size
    exact (h.2 i (by omega) (by omega) (by omega) (by omega)).trans ((hW.block i (by omega)).trans (hB.block i hi))
  have hsz : ∀ W', KpAll W0.heap.size p q r W W' → w.heap.size ≤ W'.heap.size := fun W' h => Nat.le_trans hB.size (Nat.le_trans hW.size h.1)
  have hbx : ∀ {B : Nat} {v : Value} {e : TypeId}, Blk W0 B #[v] e → B ≠ p ∧ B ≠ q ∧ B ≠ r → ∀ W', KpAll W0.heap.size p q r W W' → W'.cell? ⟨B, 0, none⟩ = some v := fun h hne W' hK =>
    (Blk.cell (cs := #[_]) ((hK.2 _ h.lt hne.1 hne.2.1 hne.2.2).trans ((hW.block _ h.lt).trans h)) rfl)
  exact pairs1_in m l Bn Ba Bb W0.heap.size p q r va vb na nb k fa fb hk J Jx W hY
    (fun W' h => ha.carry (hsz W' h) (hold W' h)) (fun W' h => hb.carry (hsz W' h) (hold W' h)) (hbx h1 n1) (hbx h2 n2) (hbx h3 n3)
    (fun s W1 hs => hJ s W1 W1.drew none hs (grown_drew W1) (fun r e => by cases e)) h0

/-- what holds between two rounds of nat.all -/
def IAll (st : Nat → Nat → Nat → Nat × Nat) (A B : Nat → Nat) (sf H M k N : Nat) (w : World) (pre : List Nat) (W : World) : Prop :=
  (Blk W H #[.func (.func sf) #[] #[]] 114 ∧ Blk W (H + 1) #[.int .u32 ((rn st A B pre).2 : Int)] 46 ∧
   Blk W (H + 2) #[.func (.func 127) #[] #[.pointer (some ⟨H, 0, none⟩), .pointer (some ⟨H + 1, 0, none⟩)]] 129 ∧
   Blk W M #[.slice (some ⟨H + 3, 0, none⟩) pre.length k] 22 ∧ W.ownsRow (H + 3) 46 1 (.slice (some ⟨H + 3, 0, none⟩) pre.length k) pre.length (rn st A B pre).1 ∧ N ≤ W.heap.size) ∧ Below H w W

theorem own_kept {W W' : World} {base : Nat} {e : TypeId} {v : Value} {n : Nat} {xs : List Value} (h : W.ownsRow base e 1 v n xs) {row : Option Nat} (hg : W.grownBy W' row) (hr : ∀ r, row = some r → ∃ o : Obj, W.heap[r]? = some o ∧ o.isCells = false) : W'.ownsRow base e 1 v n xs := by
  refine h.kept hg ?_
  rcases h.2 with ⟨rfl, _⟩ | ⟨g, cap, cur, rfl, _, hgb, _⟩
  · exact .inl rfl
  · right
    intro e'
    obtain ⟨o, ho, hc⟩ := hr g e'.symm
    rw [hgb] at ho
    cases ho
    cases hc

theorem IAll.own (st : Nat → Nat → Nat → Nat × Nat) (A B : Nat → Nat) (sf H M k : Nat) (w : World) (hH : H ≤ w.heap.size) (N : Nat) (hN : H ≤ N) : OwnFrom N (IAll st A B sf H M k N w) :=
  OwnFrom.and (Own.from (fun s W W' row ⟨h1, h2, h3, h4, h5, h6⟩ hg hr => ⟨h1.kept hg hr, h2.kept hg hr, h3.kept hg hr, h4.kept hg hr, own_kept h5 hg hr, Nat.le_trans h6 hg.size⟩) _) (ownFrom_below hH hN)


/-- the world in which a round's append begins -/
def midW (H : Nat) (y : Nat × Nat) (W : World) : World := ((W.setCell ⟨H + 1, 0, none⟩ (.int .u32 (y.2 : Int))).alloc (.cells #[.int .u32 (y.1 : Int)] 46)).drew

theorem midW_size (H : Nat) (y : Nat × Nat) (W : World) : (midW H y W).heap.size = W.heap.size + 1 := by
  show ((W.setCell _ _).alloc _).heap.size = _
  simp [World.setCell]
theorem midW_old (H : Nat) (y : Nat × Nat) (W : World) (j : Nat) (hj : j < W.heap.size) (hne : j ≠ H + 1) : (midW H y W).heap[j]? = W.heap[j]? := by
  show ((W.setCell _ _).alloc _).heap[j]? = _
  rw [Below.heap_alloc _ _ _ (by simp [World.setCell]; exact hj), Below.heap_setCell _ _ _ _ (by simpa using hne)]
theorem midW_blk {H : Nat} {y : Nat × Nat} {W : World} {j : Nat} {cs : Array Value} {e : TypeId} (h : Blk W j cs e) (hne : j ≠ H + 1) : Blk (midW H y W) j cs e := (midW_old H y W j h.lt hne).trans h
theorem midW_own {H : Nat} {y : Nat × Nat} {W : World} {e : TypeId} {v : Value} {n : Nat} {xs : List Value} (h : W.ownsRow (H + 3) e 1 v n xs) : (midW H y W).ownsRow (H + 3) e 1 v n xs :=
  World.ownsRow.drew ((ownsRow_setCell_below h (a := ⟨H + 1, 0, none⟩) (show H + 1 < H + 3 by omega) _).alloc _)
theorem midW_keeps (H : Nat) (y : Nat × Nat) (W : World) : KeepsOthers W (midW H y W) := ((KeepsOthers.setCell _ _ _).trans (KeepsOthers.alloc _ _)).trans (KeepsOthers.drew _)
theorem midW_below {H : Nat} {y : Nat × Nat} {w W : World} (h : Below H w W) (hs : H ≤ W.heap.size) : Below H w (midW H y W) :=
  Below.drew (Below.alloc (Below.setCell h (show H ≤ H + 1 by omega) _) (by simp [World.setCell]; exact hs) _)

theorem midW_new (H : Nat) (y : Nat × Nat) (W : World) : ∀ j u, [Value.int .u32 (y.1 : Int)][j]? = some u → (midW H y W).cell? ((⟨W.heap.size, 0, none⟩ : Addr).add j) = some u := by
  have h := cell_one_new (W.setCell ⟨H + 1, 0, none⟩ (.int .u32 (y.2 : Int))) (.int .u32 (y.1 : Int)) 46
  have e : (W.setCell ⟨H + 1, 0, none⟩ (.int .u32 (y.2 : Int))).heap.size = W.heap.size := by simp [World.setCell]
  rw [e] at h
  exact h

theorem round_end {st : Nat → Nat → Nat → Nat × Nat} {A B : Nat → Nat} {sf H M k N : Nat} {w : World} {pre : List Nat} {x : Nat} {W w3 : World} (hI : IAll st A B sf H M k N w pre W) (hM : H + 4 ≤ M) (hH : H ≤ w.heap.size)
    (hown3 : w3.ownsRow (H + 3) 46 1 (.slice (some ⟨H + 3, 0, none⟩) (pre.length + 1) k) (pre.length + 1) ((rn st A B pre).1 ++ [.int .u32 ((st (A x) (B x) (rn st A B pre).2).1 : Int)]))
    (hg3 : (midW H (st (A x) (B x) (rn st A B pre).2) W).grownBy w3 (some (H + 3))) :
    w3.cell? ⟨M, 0, none⟩ = some (.slice (some ⟨H + 3, 0, none⟩) pre.length k) ∧ w3.frozen? ⟨M, 0, none⟩ = false ∧
      (KeepsOthers W (w3.setCell ⟨M, 0, none⟩ (.slice (some ⟨H + 3, 0, none⟩) (pre.length + 1) k)) ∧ KpAll N (H + 1) (H + 3) M W (w3.setCell ⟨M, 0, none⟩ (.slice (some ⟨H + 3, 0, none⟩) (pre.length + 1) k)) ∧
        IAll st A B sf H M k N w (pre ++ [x]) (w3.setCell ⟨M, 0, none⟩ (.slice (some ⟨H + 3, 0, none⟩) (pre.length + 1) k))) := by
  obtain ⟨⟨h1, h2, h3, h4, h5, h6⟩, hBW⟩ := hI
  have hsz := hg3.size
  rw [midW_size] at hsz
  have g4 : Blk w3 M _ _ := (midW_blk h4 (by omega)).grown hg3 (by simp; omega)
  have g1 : Blk w3 H _ _ := (midW_blk h1 (by omega)).grown hg3 (by simp)
  have g2 : Blk w3 (H + 1) #[.int .u32 ((st (A x) (B x) (rn st A B pre).2).2 : Int)] _ := Blk.grown (W := midW H (st (A x) (B x) (rn st A B pre).2) W) ((h2.setCell).alloc _) hg3 (by simp)
  have g3 : Blk w3 (H + 2) _ _ := (midW_blk h3 (by omega)).grown hg3 (by simp)
  have hrow : ∃ o : Obj, (midW H (st (A x) (B x) (rn st A B pre).2) W).heap[H + 3]? = some o ∧ o.isCells = true := by
    rcases (midW_own (y := st (A x) (B x) (rn st A B pre).2) h5).2 with ⟨h, _⟩ | ⟨g, cap, cur, h, _, hg, _⟩
    · cases h
    · cases h; exact ⟨_, hg, rfl⟩
  refine ⟨Blk.cell (cs := #[_]) g4 rfl, g4.free, ?_, ?_, ?_, ?_⟩
  · refine KeepsOthers.trans (B := w3) ?_ (KeepsOthers.setCell _ _ _)
    refine KeepsOthers.trans (midW_keeps H (st (A x) (B x) (rn st A B pre).2) W) ?_
    obtain ⟨o, ho, hoc⟩ := hrow
    refine ⟨hg3.size, fun j o' hj hc => (hg3.block j (Array.getElem?_eq_some_iff.1 hj).1 (fun e => ?_)).trans hj⟩
    cases e
    rw [ho] at hj
    cases hj
    rw [hoc] at hc
    cases hc
  · refine ⟨by simp [World.setCell]; omega, fun j hj n1 n2 n3 => ?_⟩
    rw [Below.heap_setCell _ _ _ _ (by simpa using n3), hg3.block j (by rw [midW_size]; omega) (by simpa using n2), midW_old _ _ _ _ (by omega) n1]
  · refine ⟨g1.other (by simp; omega) _, ?_, g3.other (by simp; omega) _, ?_, ?_, by simp [World.setCell]; omega⟩
    · rw [rn_snoc]; exact g2.other (by simp; omega) _
    · rw [List.length_append]; exact g4.setCell
    · rw [rn_snoc, List.length_append]; exact ownsRow_setCell_apart hown3 (by simp [Value.ownBlock]; omega) _
  · have hs := h4.lt
    exact Below.setCell (Below.grown (midW_below hBW (by omega)) hg3 (by rw [midW_size]; omega) (fun j e => by cases e; omega)) (show H ≤ M by omega) _

set_option maxRecDepth 100000 in
set_option maxHeartbeats 2000000 in
theorem all_any {sf : Nat} {st : Nat → Nat → Nat → Nat × Nat} (hdo : IsDo sf st) (hst : StepOk st) {aa ab : Option Addr} {na ca nb cb k : Nat} {fa fb : Nat → Nat} {w : World} (hk : k ≤ 1073741824)
    (ha : Hid (Rd .u32 w (.slice aa na ca) na fa)) (hb : Hid (Rd .u32 w (.slice ab nb cb) nb fb)) (hfa : Fits na fa) (hfb : Fits nb fb) :
    Calls Tryd.prog 98 #[.slice aa na ca, .slice ab nb cb, .int .i64 k, .func (.func sf) #[] #[]] w fun e w' =>
      ∃ v, e = .returned v ∧ Rd .u32 w' v (trim (og st (lim na fa) (lim nb fb)) k) (og st (lim na fa) (lim nb fb)) ∧ Below w.heap.size w w' := by
  obtain ⟨i0, hi, hz0, hz1, hz2⟩ := info_parts info_u32
  refine (callsIn_wide (n := 9)).1 ?_
  refine callsIn_of_wp_marks Tryd.func98 rfl trivial ?_ rfl
  simp only [Tryd.ntmps98, List.size_toArray, List.length_cons, List.length_nil, Nat.reduceAdd, Nat.reduceSub, Array.replicate_succ, Array.replicate_zero, List.push_toArray, List.append_toArray, List.nil_append, List.cons_append]
  have hsem : ∀ (l : Nat) (ρ : Operand → Value) (o : Oper), (∀ c, o.op ≠ .defer c) → Oper.semAt (some l) ρ o = execOp ρ o := Oper.semAt_some
  gi_wp2_with (first
    | (refine ⟨trivial, ?_⟩; gi_at_call 116; refine CallsIn.mono (callsIn_wide.2 (carried_any _ rfl _)) ?_; rintro e w' ⟨rfl, rfl⟩)
    | (refine ⟨trivial, ?_⟩; gi_at_call 117; refine CallsIn.mono (callsIn_wide.2 (pairs_any _ _ _ _ _ _ _ _)) ?_; rintro e w' ⟨rfl, rfl⟩)
    | (gi_at_make; refine wpListIn_make_own _ rfl _ _ 22 rfl (w.heap.size + 3) 46 i0 (.int .u32 0) 1 Tryd.underlying22 hi hz0 hz1 _ _ _ k rfl rfl (by omega) (by rw [hz2]; omega) (by unfold maxLen; omega) (by simp) ?_; intro w1 hown hgrow))
  have hsz1 := hgrow.size
  simp only [World.size_alloc] at hsz1 hown
  obtain ⟨W0, hW0⟩ : ∃ W0, (((w1.alloc (.cells #[.slice (some ⟨w.heap.size + 1 + 1 + 1, 0, none⟩) 0 k] 22)).alloc (.cells #[.slice aa na ca] 22)).alloc (.cells #[.slice ab nb cb] 22)).alloc (.cells #[.int .i64 k] 3) = W0 := ⟨_, rfl⟩
  rw [hW0]
  have hs0 : W0.heap.size = w1.heap.size + 4 := by rw [← hW0]; simp
  have HB : Hid (Below w.heap.size w W0) := by
    rw [← hW0]
    refine Below.trans (b := w1) ?_ ((((Below.refl _ _).alloc (by omega) _).alloc (by simp; omega) _).alloc (by simp; omega) _ |>.alloc (by simp; omega) _)
    refine Below.grown (w := _) ?_ hgrow (by simp; omega) (fun k e => by cases e)
    exact Below.alloc (Below.alloc (Below.alloc (Below.refl _ _) (Nat.le_refl _) _) (by simp) _) (by simp; omega) _
  have hnone : ∀ i : Nat, some i ≠ none := fun i h => by cases h
  have B0 : Blk w1 w.heap.size #[.func (.func sf) #[] #[]] 114 := by
    refine Blk.grown ?_ hgrow (hnone _)
    exact ((Blk.new w _ _).alloc _).alloc _
  have B1 : Blk w1 (w.heap.size + 1) #[.int .u32 0] 46 := by
    refine Blk.grown ?_ hgrow (hnone _)
    have := Blk.new (w.alloc (Obj.cells #[.func (.func sf) #[] #[]] 114)) #[.int .u32 0] 46
    rw [World.size_alloc] at this
    exact this.alloc _
  have B2 : Blk w1 (w.heap.size + 2) #[.func (.func 127) #[] #[.pointer (some ⟨w.heap.size, 0, none⟩), .pointer (some ⟨w.heap.size + 1, 0, none⟩)]] 129 := by
    refine Blk.grown ?_ hgrow (hnone _)
    have := Blk.new ((w.alloc (Obj.cells #[.func (.func sf) #[] #[]] 114)).alloc (.cells #[.int .u32 0] 46)) #[.func (.func 127) #[] #[.pointer (some ⟨w.heap.size, 0, none⟩), .pointer (some ⟨w.heap.size + 1, 0, none⟩)]] 129
    rw [World.size_alloc, World.size_alloc] at this
    exact this
  have hM : w.heap.size + 4 ≤ w1.heap.size := by have := (hown.lt (w.heap.size + 3) rfl).2; omega
  have C0 : Blk W0 w1.heap.size #[.slice (some ⟨w.heap.size + 3, 0, none⟩) 0 k] 22 := by
    rw [← hW0]; exact (((Blk.new w1 _ _).alloc _).alloc _).alloc _
  have C1 : Blk W0 (w1.heap.size + 1) #[.slice aa na ca] 22 := by
    rw [← hW0]
    have := Blk.new (w1.alloc (.cells #[.slice (some ⟨w.heap.size + 1 + 1 + 1, 0, none⟩) 0 k] 22)) #[.slice aa na ca] 22
    rw [World.size_alloc] at this
    exact (this.alloc _).alloc _
  have C2 : Blk W0 (w1.heap.size + 2) #[.slice ab nb cb] 22 := by
    rw [← hW0]
    have := Blk.new ((w1.alloc (.cells #[.slice (some ⟨w.heap.size + 1 + 1 + 1, 0, none⟩) 0 k] 22)).alloc (.cells #[.slice aa na ca] 22)) #[.slice ab nb cb] 22
    rw [World.size_alloc, World.size_alloc] at this
    exact this.alloc _
  have C3 : Blk W0 (w1.heap.size + 3) #[.int .i64 k] 3 := by
    rw [← hW0]
    have := Blk.new (((w1.alloc (.cells #[.slice (some ⟨w.heap.size + 1 + 1 + 1, 0, none⟩) 0 k] 22)).alloc (.cells #[.slice aa na ca] 22)).alloc (.cells #[.slice ab nb cb] 22)) #[.int .i64 k] 3
    rw [World.size_alloc, World.size_alloc, World.size_alloc] at this
    exact this
  have hI0 : IAll st (lim na fa) (lim nb fb) sf w.heap.size w1.heap.size k W0.heap.size w [] W0 := by
    refine ⟨⟨?_, ?_, ?_, C0, ?_, Nat.le_refl _⟩, HB.out⟩
    · rw [← hW0]; exact (((B0.alloc _).alloc _).alloc _).alloc _
    · rw [← hW0]; exact (((B1.alloc _).alloc _).alloc _).alloc _
    · rw [← hW0]; exact (((B2.alloc _).alloc _).alloc _).alloc _
    · rw [← hW0]; exact (((hown.alloc _).alloc _).alloc _).alloc _
  clear hW0
  generalize hMM : w1.heap.size = M at *
  clear hMM B0 B1 B2 hgrow hown w1
  have hseq := pairs_stops (9 - 1) (M + 1 + 2) (M + 1) (M + 1 + 1) (w.heap.size + 1) (w.heap.size + 3) M _ _ na nb k fa fb (by omega) w W0 HB.out ha.out hb.out (by omega) (by omega) (by omega) C3 C1 C2 (by omega) (by omega) (by omega)
  clear C0 C1 C2 C3
  have hA : ∀ i, lim na fa i < 4294967296 := lim_lt hfa
  have hBB : ∀ i, lim nb fb i < 4294967296 := lim_lt hfb
  generalize hAe : lim na fa = A at *
  generalize hBe : lim nb fb = B at *
  have HAe := Lib.hid hAe
  have HBe := Lib.hid hBe
  clear hAe hBe
  refine wpIn_rangeFunc_ownF rfl (by omega) (gf := 128) (lb := #[.pointer (some ⟨M + 1 + 2, 0, none⟩), .pointer (some ⟨M + 1, 0, none⟩), .pointer (some ⟨M + 1 + 1, 0, none⟩)]) rfl trivial (enters_of Tryd.func128 (by kernel_rfl) rfl)
    hseq KpAll.t (KpAll.b (Nat.le_refl _)) (Below.refl _ _) (fun _ => rfl)
    (IAll st A B sf w.heap.size M k W0.heap.size w) (fun _ _ _ => False) (IAll.own st A B sf w.heap.size M k w (Nat.le_refl _) _ HB.out.size) (fun _ _ _ _ _ hs _ _ => hs) hI0
    (fun x => { tmps := #[.slice aa na ca, .slice ab nb cb, .int .i64 k, .func (.func sf) #[] #[], undef, undef, undef, undef, .slice none 0 0, .pointer (some ⟨w.heap.size + 1 + 1, 0, none⟩), .pointer (some ⟨M, 0, none⟩), .int .u32 (A x), .int .u32 (B x), .func (.func sf) #[] #[],
      .func (.func 127) #[] #[.pointer (some ⟨w.heap.size, 0, none⟩), .pointer (some ⟨w.heap.size + 1, 0, none⟩)], .int .i64 k, .slice (some ⟨w.heap.size + 1 + 1 + 1, 0, none⟩) 0 k, .slice aa na ca, .slice ab nb cb, .int .i64 k,
      .func (.func 128) #[] #[.pointer (some ⟨M + 1 + 2, 0, none⟩), .pointer (some ⟨M + 1, 0, none⟩), .pointer (some ⟨M + 1 + 1, 0, none⟩)], .int .u32 (A x), .int .u32 (B x), undef, undef, undef, undef, undef, undef, undef, undef, undef], defers := [] }) ?assign ?body ?done ?stop
  case assign =>
    intro l x W K hK
    unfold encPair
    gi_wp2
    exact hK
  case stop =>
    rintro D c pre W _ _ h _
    exact h.elim
  case done =>
    rintro D ys W hD rfl ⟨⟨h1, h2, h3, h4, h5, h6⟩, hBW⟩ hK
    rw [rn_len, List.length_range] at h5
    rw [List.length_range] at h4
    have hc4 := Blk.cell (cs := #[_]) h4 rfl
    have hrd := Lib.hid (Rd.of_own (base := w.heap.size + 3) (e := 46) h5)
    have HBW := Lib.hid hBW
    have HDL := Lib.hid hK
    have HD := Lib.hid hD
    clear h1 h2 h3 h4 h5 h6 hBW hK hD
    gi_wp2_with (refine ⟨trivial, ?_⟩; gi_at_call 86; refine CallsIn.mono (callsIn_wide.2 (make_any hrd.out (by omega))) ?_; rintro e w2 ⟨v, rfl, hv, hb2⟩)
    have hK2 : w2.heap[D]? = some (.deferred (some [])) := (hb2.block D (Array.getElem?_eq_some_iff.1 HDL.out).1).trans HDL.out
    refine ⟨by simp, .inl ⟨_, _, rfl, run_takeDeferred hK2, ?_⟩⟩
    refine ⟨_, results_tmp rfl _ _ _, v, rfl, ?_, ?_⟩
    · rw [HAe.out, HBe.out]
      exact Rd.put hv hK2 rfl
    · have hsz := HB.out.size
      exact (HBW.out.trans (hb2.mono HBW.out.size)).trans (belowK_b (w := w) (Nat.le_refl _) w2 D _ _ (by have := HD.out; omega) hK2 rfl rfl)
  case body =>
    rintro l pre x W hI hlen
    have hle := rn_le hst hA hBB pre
    have hend := Lib.hid (fun w3 => round_end (w3 := w3) (x := x) hI hM (Nat.le_refl _))
    obtain ⟨⟨h1, h2, h3, h4, h5, h6⟩, hBW⟩ := hI
    have HLE := Lib.hid hle
    gi_wp2
    refine wpIn_round_draw (by kernel_rfl) (by kernel_rfl) (fun _ _ h => h) ?_
    show wpAny _ _ _ _ 8 (Array.replicate 8 false) _ _
    have c1 := Blk.cell (cs := #[_]) h1.drew rfl
    have c2 := Blk.cell (cs := #[_]) h2.drew rfl
    have c3 := Blk.cell (cs := #[_]) h3.drew rfl
    have c4 := Blk.cell (cs := #[_]) h4.drew rfl
    have d4 := Blk.cell (cs := #[_]) h4 rfl
    have d5 := Blk.cell (cs := #[_]) ((h4.other (p := ⟨w.heap.size + 1, 0, none⟩) (show M ≠ w.heap.size + 1 by omega) (.int .u32 ((st (A x) (B x) (rn st A B pre).2).2 : Int))).alloc (.cells #[.int .u32 ((st (A x) (B x) (rn st A B pre).2).1 : Int)] 46)) rfl
    have f2 := Blk.free (off := 0) h2.drew
    have f4 := Blk.free (off := 0) h4.drew
    have hown := Lib.hid (midW_own (y := st (A x) (B x) (rn st A B pre).2) h5)
    have hdo' := Lib.hid (hdo (A x) (B x) (rn st A B pre).2 w.heap.size (w.heap.size + 1) W.drew (hA x) (hBB x) hle c1 c2 f2)
    clear h1 h2 h3 h4 h5 h6 hBW hle
    refine any_move 2 rfl rfl rfl (by kernel_rfl) (by kernel_rfl) (by kernel_rfl) (fun _ _ _ _ h => h) ?_
    refine any_move 3 rfl rfl rfl (by kernel_rfl) (by kernel_rfl) (by kernel_rfl) (fun _ _ _ _ h => h) ?_
    refine any_two (i := 0) (j := 1) (by kernel_rfl) (op_value (v := .slice (some ⟨w.heap.size + 3, 0, none⟩) pre.length k) rfl rfl (by go_simp) ?_) (op_value (v := .func (.func 127) #[] #[.pointer (some ⟨w.heap.size, 0, none⟩), .pointer (some ⟨w.heap.size + 1, 0, none⟩)]) rfl rfl (by go_simp) ?_)
    all_goals simp only [Act.put, List.setIfInBounds_toArray, List.set_cons_zero, List.set_cons_succ]
    · refine any_one (i := 1) (by kernel_rfl) (op_value (v := .func (.func 127) #[] #[.pointer (some ⟨w.heap.size, 0, none⟩), .pointer (some ⟨w.heap.size + 1, 0, none⟩)]) rfl rfl (by go_simp) ?_)
      simp only [Act.put, List.setIfInBounds_toArray, List.set_cons_zero, List.set_cons_succ]
      refine any_tail 4 rfl (by kernel_rfl) ?_
      simp only [List.drop_succ_cons, List.drop_zero]
      go_wp2_with (first | (go_at_call 127; refine hdo'.out.mono ?_; rintro e w' ⟨rfl, rfl⟩) | (at_builtin; refine wpList_append_fits _ rfl _ _ 22 rfl (w.heap.size + 3) 46 i0 1 Tryd.underlying22 hi hz1 (w.heap.size + 3) pre.length k _ rfl hown.out ⟨_, 0, none⟩ 1 1 [.int .u32 ((st (A x) (B x) (rn st A B pre).2).1 : Int)] rfl rfl (midW_new w.heap.size (st (A x) (B x) (rn st A B pre).2) W) (by simp [Value.oneCell']) (by omega) ?_; intro w3 hown3 hgrow3; obtain ⟨e1, e2, hfin⟩ := hend.out w3 hown3 hgrow3; have HF := Lib.hid hfin; clear hfin))
      exact HF.out
    · refine any_two (i := 0) (j := 4) (by kernel_rfl) (op_value (v := .slice (some ⟨w.heap.size + 3, 0, none⟩) pre.length k) rfl rfl (by go_simp) ?_) (wpOp_step rfl (fun K hK => ?_))
      · simp only [Act.put, List.setIfInBounds_toArray, List.set_cons_zero, List.set_cons_succ]
        refine any_tail 4 rfl (by kernel_rfl) ?_
        simp only [List.drop_succ_cons, List.drop_zero]
        go_wp2_with (first | (go_at_call 127; refine hdo'.out.mono ?_; rintro e w' ⟨rfl, rfl⟩) | (at_builtin; refine wpList_append_fits _ rfl _ _ 22 rfl (w.heap.size + 3) 46 i0 1 Tryd.underlying22 hi hz1 (w.heap.size + 3) pre.length k _ rfl hown.out ⟨_, 0, none⟩ 1 1 [.int .u32 ((st (A x) (B x) (rn st A B pre).2).1 : Int)] rfl rfl (midW_new w.heap.size (st (A x) (B x) (rn st A B pre).2) W) (by simp [Value.oneCell']) (by omega) ?_; intro w3 hown3 hgrow3; obtain ⟨e1, e2, hfin⟩ := hend.out w3 hown3 hgrow3; have HF := Lib.hid hfin; clear hfin))
        exact HF.out
      · go_simp
        go_at_call 127
        refine hdo'.out.mono ?_
        rintro e w' ⟨rfl, rfl⟩
        refine hK _ _ ?_
        clear hK K
        refine any_two (i := 0) (j := 5) (by kernel_rfl) (op_value (v := .slice (some ⟨w.heap.size + 3, 0, none⟩) pre.length k) rfl rfl (by go_simp) ?_) (wpOp_step rfl (fun K hK => ?_))
        · simp only [Act.put, List.setIfInBounds_toArray, List.set_cons_zero, List.set_cons_succ]
          refine any_tail 5 rfl (by kernel_rfl) ?_
          simp only [List.drop_succ_cons, List.drop_zero]
          go_wp2_with (at_builtin; refine wpList_append_fits _ rfl _ _ 22 rfl (w.heap.size + 3) 46 i0 1 Tryd.underlying22 hi hz1 (w.heap.size + 3) pre.length k _ rfl hown.out ⟨_, 0, none⟩ 1 1 [.int .u32 ((st (A x) (B x) (rn st A B pre).2).1 : Int)] rfl rfl (midW_new w.heap.size (st (A x) (B x) (rn st A B pre).2) W) (by simp [Value.oneCell']) (by omega) ?_; intro w3 hown3 hgrow3; obtain ⟨e1, e2, hfin⟩ := hend.out w3 hown3 hgrow3; have HF := Lib.hid hfin; clear hfin)
          exact HF.out
        · go_simp
          refine hK _ _ ?_
          clear hK K
          refine any_one (i := 0) (by kernel_rfl) (op_value (v := .slice (some ⟨w.heap.size + 3, 0, none⟩) pre.length k) rfl rfl (by go_simp) ?_)
          simp only [Act.put, List.setIfInBounds_toArray, List.set_cons_zero, List.set_cons_succ]
          refine any_tail 6 rfl (by kernel_rfl) ?_
          simp only [List.drop_succ_cons, List.drop_zero]
          go_wp2_with (at_builtin; refine wpList_append_fits _ rfl _ _ 22 rfl (w.heap.size + 3) 46 i0 1 Tryd.underlying22 hi hz1 (w.heap.size + 3) pre.length k _ rfl hown.out ⟨_, 0, none⟩ 1 1 [.int .u32 ((st (A x) (B x) (rn st A B pre).2).1 : Int)] rfl rfl (midW_new w.heap.size (st (A x) (B x) (rn st A B pre).2) W) (by simp [Value.oneCell']) (by omega) ?_; intro w3 hown3 hgrow3; obtain ⟨e1, e2, hfin⟩ := hend.out w3 hown3 hgrow3; have HF := Lib.hid hfin; clear hfin)
          exact HF.out
end Go.Proofs.YtopbfgmpilnghaaDoor
