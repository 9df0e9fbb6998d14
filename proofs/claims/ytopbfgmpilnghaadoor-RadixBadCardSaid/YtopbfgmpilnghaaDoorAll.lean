/- nat.carried, nat.pairs and the closures that they hand back; nat.all: the limbs that a step makes of two naturals. -/
import Derived.Test.YtopbfgmpilnghaaDoorMake
import Derived.Test.YtopbfgmpilnghaaDoorStep
import Derived.RangeFuncNested
import Derived.RangeFuncBound
import Derived.RangeFuncCalls
import Derived.RangeFuncLeaves
import Derived.Shelf.Abstract
import Derived.Shelf.RegionOpen
import Derived.OwnWalkIn
import Derived.TacticsInMore
import Derived.LoopNIn
import Derived.LoopIn
set_option linter.unusedVariables false
namespace Go.Proofs.YtopbfgmpilnghaaDoor
open Go.RowKit Go.Shelf

/-- what the closure of nat.carried does when it holds the function sf: st tells the limb and what is carried on -/
def IsDo (sf : Nat) (st : Nat → Nat → Nat → Nat × Nat) : Prop :=
  ∀ (x y c Bs Bc : Nat) (w : World), x < 4294967296 → y < 4294967296 → c ≤ 1 → w.cell? ⟨Bs, 0, none⟩ = some (.func (.func sf) #[] #[]) → w.cell? ⟨Bc, 0, none⟩ = some (.int .u32 c) → w.frozen? ⟨Bc, 0, none⟩ = false →
    Calls Tryd.prog 127 #[.int .u32 x, .int .u32 y, .pointer (some ⟨Bs, 0, none⟩), .pointer (some ⟨Bc, 0, none⟩)] w fun e w' => e = .returned (.int .u32 ((st x y c).1 : Int)) ∧ w' = w.setCell ⟨Bc, 0, none⟩ (.int .u32 ((st x y c).2 : Int))

theorem carried_any (fv : Value) (h : fv.oneCell' = true) (w : World) :
    Calls Tryd.prog 116 #[fv] w fun e w' => e = .returned (.func (.func 127) #[] #[.pointer (some ⟨w.heap.size, 0, none⟩), .pointer (some ⟨w.heap.size + 1, 0, none⟩)]) ∧
      w' = (w.alloc (.cells #[fv] 114)).alloc (.cells #[.int .u32 0] 46) := by
  go_enter Tryd.func116, Tryd.ntmps116
  go_wp2
  go_ret
  exact ⟨rfl, rfl⟩

set_option maxHeartbeats 1000000 in
theorem pairs_any (aa ab : Option Addr) (na ca nb cb k : Nat) (w : World) :
    Calls Tryd.prog 117 #[.slice aa na ca, .slice ab nb cb, .int .i64 k] w fun e w' => e = .returned (.func (.func 128) #[] #[.pointer (some ⟨w.heap.size + 2, 0, none⟩), .pointer (some ⟨w.heap.size, 0, none⟩), .pointer (some ⟨w.heap.size + 1, 0, none⟩)]) ∧
      w' = ((w.alloc (.cells #[.slice aa na ca] 22)).alloc (.cells #[.slice ab nb cb] 22)).alloc (.cells #[.int .i64 k] 3) := by
  go_enter Tryd.func117, Tryd.ntmps117
  go_wp2
  go_ret
  exact ⟨rfl, rfl⟩

def addStep (x y c : Nat) : Nat × Nat := ((x + y + c) % 4294967296, (x + y + c) / 4294967296)
def subStep (x y c : Nat) : Nat × Nat := ((x + 4294967296 - y - c) % 4294967296, borrow x y c)

theorem do_add : IsDo 99 addStep := by
  intro x y c Bs Bc w hx hy hc h1 h2 h3
  go_enter Tryd.func127, Tryd.ntmps127
  go_wp2_with (go_at_call 99; refine (add32_any x y c _ hx hy (by omega)).mono ?_; rintro e w' ⟨rfl, rfl⟩)
  go_ret
  exact ⟨rfl, rfl⟩

theorem do_sub : IsDo 100 subStep := by
  intro x y c Bs Bc w hx hy hc h1 h2 h3
  go_enter Tryd.func127, Tryd.ntmps127
  go_wp2_with (go_at_call 100; refine (sub32_any x y c _ hx hy hc).mono ?_; rintro e w' ⟨rfl, rfl⟩)
  go_ret
  exact ⟨rfl, rfl⟩

/-- what a round of the loop keeps: all that lay below N but the blocks that it writes -/
def KpAll (N p q r : Nat) (W W' : World) : Prop := W.heap.size ≤ W'.heap.size ∧ ∀ k, k < N → k ≠ p → k ≠ q → k ≠ r → W'.heap[k]? = W.heap[k]?

theorem KpAll.t {N p q r : Nat} {A B C : World} (h : KpAll N p q r A B) (k : KpAll N p q r B C) : KpAll N p q r A C :=
  ⟨Nat.le_trans h.1 k.1, fun i h1 h2 h3 h4 => (k.2 i h1 h2 h3 h4).trans (h.2 i h1 h2 h3 h4)⟩

theorem KpAll.b {N p q r : Nat} {n0 : Nat} (hn : N ≤ n0) (W : World) (l : Nat) (o o' : Obj) (hl : n0 ≤ l) (h : W.heap[l]? = some o) (_ : o.isCells = false) (_ : o.isWalk = false) : KpAll N p q r W (W.putObj l o') :=
  ⟨by simp, fun k hk _ _ _ => World.putObj_heap_other (by omega)⟩

theorem KpAll.cell {N p q r : Nat} {A B : World} (h : KpAll N p q r A B) {b off : Nat} (h1 : b < N) (h2 : b ≠ p) (h3 : b ≠ q) (h4 : b ≠ r) : B.cell? ⟨b, off, none⟩ = A.cell? ⟨b, off, none⟩ :=
  World.cell?_of_block (w := A) (a := ⟨b, off, none⟩) (h.2 b h1 h2 h3 h4)

/-- a limb; nought beyond -/
def lim (n : Nat) (f : Nat → Nat) (i : Nat) : Nat := if i < n then f i else 0
theorem lim_lt {n : Nat} {f : Nat → Nat} (h : Fits n f) (i : Nat) : lim n f i < 4294967296 := by
  unfold lim; split
  · exact h i ‹_›
  · omega

theorem at_any {v : Value} {n : Nat} {f : Nat → Nat} {w : World} (h : Rd .u32 w v n f) (i : Nat) (hi : i < 4611686018427387904) :
    Calls Tryd.prog 102 #[v, .int .i64 i] w fun e w' => e = .returned (.int .u32 (lim n f i : Int)) ∧ w = w' := by
  obtain ⟨ao, cap, rfl, hcap, hm, hc⟩ := h
  unfold lim
  by_cases hlt : i < n
  · obtain ⟨b, off, rfl, hb, hcl⟩ := hc (by omega)
    have hcell := hcl i hlt
    clear hcl hc
    rw [if_pos hlt]
    go_enter Tryd.func102, Tryd.ntmps102
    go_wp2
    go_ret
    exact ⟨rfl, rfl⟩
  · clear hc
    rw [if_neg hlt]
    go_enter Tryd.func102, Tryd.ntmps102
    go_wp2
    go_ret
    exact ⟨rfl, rfl⟩
end Go.Proofs.YtopbfgmpilnghaaDoor
