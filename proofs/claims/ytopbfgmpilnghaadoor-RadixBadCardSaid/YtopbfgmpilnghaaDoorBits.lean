/- math/bits: the length, the zeros ahead, and the wide product, by the shelf's contracts, laid by hand at this program's numbers. -/
import Derived.Test.YtopbfgmpilnghaaDoorMul
import Derived.Shelf.Small.Bits
import Derived.Shelf.Bits.Mul64
set_option linter.unusedVariables false
set_option linter.unusedSimpArgs false
namespace Go.Proofs.YtopbfgmpilnghaaDoor
open Go.RowKit Go.Shelf

/-- the shelf's numbers at this program -/
def renFn (k : Nat) : Nat := if k = 128 then 115 else if k = 133 then 94 else if k = 129 then 129 else if k = 264 then 123 else 0
def renTy (k : Nat) : Nat := if k = 3 then 3 else if k = 4 then 4 else if k = 5 then 5 else if k = 9 then 9 else if k = 46 then 45 else if k = 51 then 46 else if k = 53 then 39 else 0
def renBits : Ren := ⟨renFn, renTy, fun x => x⟩

set_option maxRecDepth 1000000 in
theorem lays133 : Lays.n133 Tryd.prog renBits := by
  constructor <;> first | (intro w; rfl) | kernel_rfl
set_option maxRecDepth 1000000 in
theorem lays128 : Lays.n128 Tryd.prog renBits := by
  constructor <;> first | (intro w; rfl) | kernel_rfl
set_option maxRecDepth 1000000 in
theorem lays129 : Lays.n129 Tryd.prog renBits := by
  constructor <;> first | (intro w; rfl) | kernel_rfl
set_option maxRecDepth 1000000 in
theorem lays264 : Lays.n264 Tryd.prog renBits := by
  constructor <;> first | (intro w; rfl) | kernel_rfl

/-- the noughts ahead of a limb -/
theorem lead_any {x : Nat} (hx : x < 4294967296) (w : World) :
    Calls Tryd.prog 94 #[.int .u32 x] w fun e w' => e = .returned (.int .i64 (32 - (Lib.bitLen x : Int))) ∧ w' = w := by
  have h := Any.bits_LeadingZeros32 lays133 (x : Int) w (by omega) (by omega)
  rw [show ((x : Int)).toNat = x from by omega] at h
  exact h
end Go.Proofs.YtopbfgmpilnghaaDoor
