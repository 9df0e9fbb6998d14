/-
  NARROWER THAN 'FOR EVERY INPUT', by the rows' own cells (each row's printed sentence says how): RadixTells: laid · RadixBack: laid · RadixAgain: laid · RadixWorth: laid · RadixJoin: laid · RadixOrder: laid · RadixBits: laid · RadixPowers: laid · RadixBad: laid · IntegerTexts: laid · IntegerQuotient: laid · IntegerShifts: laid · IntegerPowers: laid · IntegerRing: laid · IntegerOrder: laid · IntegerRests: laid.
  DERIVED. THE GIVEN ROWS OF THIS SEAT. 16 by the template 'for every input the law returns true; each argument reads behind the call as it read before'; 0 by the template 'total and deterministic' (their statements: YtopbfgmpilnghaaDoorTotals.lean).
  GIVEN WITH THE SEED: the statements are not yours to turn. If you find one false, say at which input.
  Laid BY PROGRAM, IN A SANDBOX (cutbox-rows.mjs): the forced cells as the released guide's own fill.sh prints them over the translation 86ff377704eef950… (all of the seat's roots in one cut). By AI agents, Wed Nov 11 2026. No macro, syntax, notation, axiom, sorry.
-/
import Derived.Test.YtopbfgmpilnghaaDoorChecked
import GoSem.Claim
import GoSem.ClaimJoined
import GoSem.ClaimMapViews
import Derived.JoinedTies
import Derived.KernelRfl
namespace Go.Proofs.YtopbfgmpilnghaaDoor
/- THE CELL 'sum', in the pinned program and in every row, IS THE sha256 OF THE DUMP (.gsa) THAT YtopbfgmpilnghaaDoorProg.lean LOADS. Nothing in Lean hashes anything: it is a label: what it is worth is what the hold of that sum in a sandbox is worth. -/
noncomputable def Tryd.pinned : Pinned := { name := "ytopbfgmpilnghaadoor", sum := "86ff377704eef95009b4087c216fe2546fd1415edfab72dbe94ef6920a9017ed", checked := Tryd.checked }
namespace Rows
def none {H : Type} : Left H := { results := [], args := [] }

/- WHAT THE LISTED PACKAGE-LEVEL VARIABLES READ AS WHEN THE CALL BEGINS. Each datum BY PROGRAM (the guide's laid-datum.mjs) off the statement by which the dump's own 'gosem.cut.vars' lays the variable. In a bare row this is a premise. The card (YtopbfgmpilnghaaDoorCards.lean) ties it to the program's text. -/
def laid_ziggurat_ntt_fields {H : Type} : DataW H := .agg [.agg [.lit (.int .u64 998244353)], .agg [.lit (.int .u64 469762049)], .agg [.lit (.int .u64 167772161)]]

/-- 'zigguratlaw05.RadixTells': WHATEVER THE INPUT: true; the input reads as it did. -/
def radixTellsSpec : ChangeSpec := { name := "radixTells", fn := fun _ => fun
  | [d1, d2, d3] => { results := [.lit (.bool true)], args := [d1, d2, d3] }
  | _ => none }
def radixTellsRow : OpenClaim := { program := "ytopbfgmpilnghaadoor", sum := "86ff377704eef95009b4087c216fe2546fd1415edfab72dbe94ef6920a9017ed", func := "ziggurat/zigguratlaw05.RadixTells", spec := "radixTells", inPlace := ["math/bits.Add64"], unfollowed := true, recurses := true, named := ["ziggurat/ntt.fields", "math/bits.overflowError"], apart := false, laid := [("ziggurat/ntt.fields", laid_ziggurat_ntt_fields)] }
def RadixTellsSaid : Prop := radixTellsRow.holds Tryd.pinned (OpenSpec.ofChange radixTellsSpec)

/-- ITS FALSE NEIGHBOUR: 'it returns false'. Refute it at one input. -/
def radixTellsWrong : ChangeSpec := { name := "radixTells", fn := fun _ => fun
  | [d1, d2, d3] => { results := [.lit (.bool false)], args := [d1, d2, d3] }
  | _ => none }
def RadixTellsWrongFalsely : Prop := radixTellsRow.holds Tryd.pinned (OpenSpec.ofChange radixTellsWrong)

/-- 'zigguratlaw05.RadixBack': WHATEVER THE INPUT: true; the input reads as it did. -/
def radixBackSpec : ChangeSpec := { name := "radixBack", fn := fun _ => fun
  | [d1, d2] => { results := [.lit (.bool true)], args := [d1, d2] }
  | _ => none }
def radixBackRow : OpenClaim := { program := "ytopbfgmpilnghaadoor", sum := "86ff377704eef95009b4087c216fe2546fd1415edfab72dbe94ef6920a9017ed", func := "ziggurat/zigguratlaw05.RadixBack", spec := "radixBack", inPlace := ["math/bits.Add64"], unfollowed := true, recurses := true, named := ["ziggurat/ntt.fields", "math/bits.overflowError"], apart := false, laid := [("ziggurat/ntt.fields", laid_ziggurat_ntt_fields)] }
def RadixBackSaid : Prop := radixBackRow.holds Tryd.pinned (OpenSpec.ofChange radixBackSpec)

/-- ITS FALSE NEIGHBOUR: 'it returns false'. Refute it at one input. -/
def radixBackWrong : ChangeSpec := { name := "radixBack", fn := fun _ => fun
  | [d1, d2] => { results := [.lit (.bool false)], args := [d1, d2] }
  | _ => none }
def RadixBackWrongFalsely : Prop := radixBackRow.holds Tryd.pinned (OpenSpec.ofChange radixBackWrong)

/-- 'zigguratlaw05.RadixAgain': WHATEVER THE INPUT: true; the input reads as it did. -/
def radixAgainSpec : ChangeSpec := { name := "radixAgain", fn := fun _ => fun
  | [d1, d2, d3] => { results := [.lit (.bool true)], args := [d1, d2, d3] }
  | _ => none }
def radixAgainRow : OpenClaim := { program := "ytopbfgmpilnghaadoor", sum := "86ff377704eef95009b4087c216fe2546fd1415edfab72dbe94ef6920a9017ed", func := "ziggurat/zigguratlaw05.RadixAgain", spec := "radixAgain", inPlace := ["math/bits.Add64"], unfollowed := true, recurses := true, named := ["ziggurat/ntt.fields", "math/bits.overflowError"], apart := false, laid := [("ziggurat/ntt.fields", laid_ziggurat_ntt_fields)] }
def RadixAgainSaid : Prop := radixAgainRow.holds Tryd.pinned (OpenSpec.ofChange radixAgainSpec)

/-- ITS FALSE NEIGHBOUR: 'it returns false'. Refute it at one input. -/
def radixAgainWrong : ChangeSpec := { name := "radixAgain", fn := fun _ => fun
  | [d1, d2, d3] => { results := [.lit (.bool false)], args := [d1, d2, d3] }
  | _ => none }
def RadixAgainWrongFalsely : Prop := radixAgainRow.holds Tryd.pinned (OpenSpec.ofChange radixAgainWrong)

/-- 'zigguratlaw05.RadixWorth': WHATEVER THE INPUT: true; the input reads as it did. -/
def radixWorthSpec : ChangeSpec := { name := "radixWorth", fn := fun _ => fun
  | [d1, d2, d3] => { results := [.lit (.bool true)], args := [d1, d2, d3] }
  | _ => none }
def radixWorthRow : OpenClaim := { program := "ytopbfgmpilnghaadoor", sum := "86ff377704eef95009b4087c216fe2546fd1415edfab72dbe94ef6920a9017ed", func := "ziggurat/zigguratlaw05.RadixWorth", spec := "radixWorth", inPlace := ["math/bits.Add64"], unfollowed := true, recurses := true, named := ["ziggurat/ntt.fields", "math/bits.overflowError"], apart := false, laid := [("ziggurat/ntt.fields", laid_ziggurat_ntt_fields)] }
def RadixWorthSaid : Prop := radixWorthRow.holds Tryd.pinned (OpenSpec.ofChange radixWorthSpec)

/-- ITS FALSE NEIGHBOUR: 'it returns false'. Refute it at one input. -/
def radixWorthWrong : ChangeSpec := { name := "radixWorth", fn := fun _ => fun
  | [d1, d2, d3] => { results := [.lit (.bool false)], args := [d1, d2, d3] }
  | _ => none }
def RadixWorthWrongFalsely : Prop := radixWorthRow.holds Tryd.pinned (OpenSpec.ofChange radixWorthWrong)

/-- 'zigguratlaw05.RadixJoin': WHATEVER THE INPUT: true; the input reads as it did. -/
def radixJoinSpec : ChangeSpec := { name := "radixJoin", fn := fun _ => fun
  | [d1, d2, d3] => { results := [.lit (.bool true)], args := [d1, d2, d3] }
  | _ => none }
def radixJoinRow : OpenClaim := { program := "ytopbfgmpilnghaadoor", sum := "86ff377704eef95009b4087c216fe2546fd1415edfab72dbe94ef6920a9017ed", func := "ziggurat/zigguratlaw05.RadixJoin", spec := "radixJoin", inPlace := ["math/bits.Add64"], unfollowed := true, recurses := true, named := ["ziggurat/ntt.fields", "math/bits.overflowError"], apart := false, laid := [("ziggurat/ntt.fields", laid_ziggurat_ntt_fields)] }
def RadixJoinSaid : Prop := radixJoinRow.holds Tryd.pinned (OpenSpec.ofChange radixJoinSpec)

/-- ITS FALSE NEIGHBOUR: 'it returns false'. Refute it at one input. -/
def radixJoinWrong : ChangeSpec := { name := "radixJoin", fn := fun _ => fun
  | [d1, d2, d3] => { results := [.lit (.bool false)], args := [d1, d2, d3] }
  | _ => none }
def RadixJoinWrongFalsely : Prop := radixJoinRow.holds Tryd.pinned (OpenSpec.ofChange radixJoinWrong)

/-- 'zigguratlaw05.RadixOrder': WHATEVER THE INPUT: true; the input reads as it did. -/
def radixOrderSpec : ChangeSpec := { name := "radixOrder", fn := fun _ => fun
  | [d1, d2, d3] => { results := [.lit (.bool true)], args := [d1, d2, d3] }
  | _ => none }
def radixOrderRow : OpenClaim := { program := "ytopbfgmpilnghaadoor", sum := "86ff377704eef95009b4087c216fe2546fd1415edfab72dbe94ef6920a9017ed", func := "ziggurat/zigguratlaw05.RadixOrder", spec := "radixOrder", inPlace := ["math/bits.Add64"], unfollowed := true, recurses := true, named := ["ziggurat/ntt.fields", "math/bits.overflowError"], apart := false, laid := [("ziggurat/ntt.fields", laid_ziggurat_ntt_fields)] }
def RadixOrderSaid : Prop := radixOrderRow.holds Tryd.pinned (OpenSpec.ofChange radixOrderSpec)

/-- ITS FALSE NEIGHBOUR: 'it returns false'. Refute it at one input. -/
def radixOrderWrong : ChangeSpec := { name := "radixOrder", fn := fun _ => fun
  | [d1, d2, d3] => { results := [.lit (.bool false)], args := [d1, d2, d3] }
  | _ => none }
def RadixOrderWrongFalsely : Prop := radixOrderRow.holds Tryd.pinned (OpenSpec.ofChange radixOrderWrong)

/-- 'zigguratlaw05.RadixBits': WHATEVER THE INPUT: true; the input reads as it did. -/
def radixBitsSpec : ChangeSpec := { name := "radixBits", fn := fun _ => fun
  | [d1, d2] => { results := [.lit (.bool true)], args := [d1, d2] }
  | _ => none }
def radixBitsRow : OpenClaim := { program := "ytopbfgmpilnghaadoor", sum := "86ff377704eef95009b4087c216fe2546fd1415edfab72dbe94ef6920a9017ed", func := "ziggurat/zigguratlaw05.RadixBits", spec := "radixBits", inPlace := ["math/bits.Add64"], unfollowed := true, recurses := true, named := ["ziggurat/ntt.fields", "math/bits.overflowError"], apart := false, laid := [("ziggurat/ntt.fields", laid_ziggurat_ntt_fields)] }
def RadixBitsSaid : Prop := radixBitsRow.holds Tryd.pinned (OpenSpec.ofChange radixBitsSpec)

/-- ITS FALSE NEIGHBOUR: 'it returns false'. Refute it at one input. -/
def radixBitsWrong : ChangeSpec := { name := "radixBits", fn := fun _ => fun
  | [d1, d2] => { results := [.lit (.bool false)], args := [d1, d2] }
  | _ => none }
def RadixBitsWrongFalsely : Prop := radixBitsRow.holds Tryd.pinned (OpenSpec.ofChange radixBitsWrong)

/-- 'zigguratlaw05.RadixPowers': WHATEVER THE INPUT: true; the input reads as it did. -/
def radixPowersSpec : ChangeSpec := { name := "radixPowers", fn := fun _ => fun
  | [d1, d2] => { results := [.lit (.bool true)], args := [d1, d2] }
  | _ => none }
def radixPowersRow : OpenClaim := { program := "ytopbfgmpilnghaadoor", sum := "86ff377704eef95009b4087c216fe2546fd1415edfab72dbe94ef6920a9017ed", func := "ziggurat/zigguratlaw05.RadixPowers", spec := "radixPowers", inPlace := ["math/bits.Add64"], unfollowed := true, recurses := true, named := ["ziggurat/ntt.fields", "math/bits.overflowError"], apart := false, laid := [("ziggurat/ntt.fields", laid_ziggurat_ntt_fields)] }
def RadixPowersSaid : Prop := radixPowersRow.holds Tryd.pinned (OpenSpec.ofChange radixPowersSpec)

/-- ITS FALSE NEIGHBOUR: 'it returns false'. Refute it at one input. -/
def radixPowersWrong : ChangeSpec := { name := "radixPowers", fn := fun _ => fun
  | [d1, d2] => { results := [.lit (.bool false)], args := [d1, d2] }
  | _ => none }
def RadixPowersWrongFalsely : Prop := radixPowersRow.holds Tryd.pinned (OpenSpec.ofChange radixPowersWrong)

/-- 'zigguratlaw05.RadixBad': WHATEVER THE INPUT: true; the input reads as it did. -/
def radixBadSpec : ChangeSpec := { name := "radixBad", fn := fun _ => fun
  | [d1, d2] => { results := [.lit (.bool true)], args := [d1, d2] }
  | _ => none }
def radixBadRow : OpenClaim := { program := "ytopbfgmpilnghaadoor", sum := "86ff377704eef95009b4087c216fe2546fd1415edfab72dbe94ef6920a9017ed", func := "ziggurat/zigguratlaw05.RadixBad", spec := "radixBad", inPlace := ["math/bits.Add64"], unfollowed := true, recurses := true, named := ["ziggurat/ntt.fields", "math/bits.overflowError"], apart := false, laid := [("ziggurat/ntt.fields", laid_ziggurat_ntt_fields)] }
def RadixBadSaid : Prop := radixBadRow.holds Tryd.pinned (OpenSpec.ofChange radixBadSpec)

/-- ITS FALSE NEIGHBOUR: 'it returns false'. Refute it at one input. -/
def radixBadWrong : ChangeSpec := { name := "radixBad", fn := fun _ => fun
  | [d1, d2] => { results := [.lit (.bool false)], args := [d1, d2] }
  | _ => none }
def RadixBadWrongFalsely : Prop := radixBadRow.holds Tryd.pinned (OpenSpec.ofChange radixBadWrong)

/-- 'zigguratlaw06.IntegerTexts': WHATEVER THE INPUT: true; the input reads as it did. -/
def integerTextsSpec : ChangeSpec := { name := "integerTexts", fn := fun _ => fun
  | [d1, d2] => { results := [.lit (.bool true)], args := [d1, d2] }
  | _ => none }
def integerTextsRow : OpenClaim := { program := "ytopbfgmpilnghaadoor", sum := "86ff377704eef95009b4087c216fe2546fd1415edfab72dbe94ef6920a9017ed", func := "ziggurat/zigguratlaw06.IntegerTexts", spec := "integerTexts", inPlace := ["math/bits.Add64"], unfollowed := true, recurses := true, named := ["math/bits.overflowError", "ziggurat/ntt.fields"], apart := false, laid := [("ziggurat/ntt.fields", laid_ziggurat_ntt_fields)] }
def IntegerTextsSaid : Prop := integerTextsRow.holds Tryd.pinned (OpenSpec.ofChange integerTextsSpec)

/-- ITS FALSE NEIGHBOUR: 'it returns false'. Refute it at one input. -/
def integerTextsWrong : ChangeSpec := { name := "integerTexts", fn := fun _ => fun
  | [d1, d2] => { results := [.lit (.bool false)], args := [d1, d2] }
  | _ => none }
def IntegerTextsWrongFalsely : Prop := integerTextsRow.holds Tryd.pinned (OpenSpec.ofChange integerTextsWrong)

/-- 'zigguratlaw06.IntegerQuotient': WHATEVER THE INPUT: true; the input reads as it did. -/
def integerQuotientSpec : ChangeSpec := { name := "integerQuotient", fn := fun _ => fun
  | [d] => { results := [.lit (.bool true)], args := [d] }
  | _ => none }
def integerQuotientRow : OpenClaim := { program := "ytopbfgmpilnghaadoor", sum := "86ff377704eef95009b4087c216fe2546fd1415edfab72dbe94ef6920a9017ed", func := "ziggurat/zigguratlaw06.IntegerQuotient", spec := "integerQuotient", inPlace := ["math/bits.Add64"], unfollowed := true, recurses := true, named := ["math/bits.overflowError", "ziggurat/ntt.fields"], apart := false, laid := [("ziggurat/ntt.fields", laid_ziggurat_ntt_fields)] }
def IntegerQuotientSaid : Prop := integerQuotientRow.holds Tryd.pinned (OpenSpec.ofChange integerQuotientSpec)

/-- ITS FALSE NEIGHBOUR: 'it returns false'. Refute it at one input. -/
def integerQuotientWrong : ChangeSpec := { name := "integerQuotient", fn := fun _ => fun
  | [d] => { results := [.lit (.bool false)], args := [d] }
  | _ => none }
def IntegerQuotientWrongFalsely : Prop := integerQuotientRow.holds Tryd.pinned (OpenSpec.ofChange integerQuotientWrong)

/-- 'zigguratlaw06.IntegerShifts': WHATEVER THE INPUT: true; the input reads as it did. -/
def integerShiftsSpec : ChangeSpec := { name := "integerShifts", fn := fun _ => fun
  | [d1, d2, d3] => { results := [.lit (.bool true)], args := [d1, d2, d3] }
  | _ => none }
def integerShiftsRow : OpenClaim := { program := "ytopbfgmpilnghaadoor", sum := "86ff377704eef95009b4087c216fe2546fd1415edfab72dbe94ef6920a9017ed", func := "ziggurat/zigguratlaw06.IntegerShifts", spec := "integerShifts", inPlace := ["math/bits.Add64"], unfollowed := true, recurses := true, named := ["math/bits.overflowError", "ziggurat/ntt.fields"], apart := false, laid := [("ziggurat/ntt.fields", laid_ziggurat_ntt_fields)] }
def IntegerShiftsSaid : Prop := integerShiftsRow.holds Tryd.pinned (OpenSpec.ofChange integerShiftsSpec)

/-- ITS FALSE NEIGHBOUR: 'it returns false'. Refute it at one input. -/
def integerShiftsWrong : ChangeSpec := { name := "integerShifts", fn := fun _ => fun
  | [d1, d2, d3] => { results := [.lit (.bool false)], args := [d1, d2, d3] }
  | _ => none }
def IntegerShiftsWrongFalsely : Prop := integerShiftsRow.holds Tryd.pinned (OpenSpec.ofChange integerShiftsWrong)

/-- 'zigguratlaw06.IntegerPowers': WHATEVER THE INPUT: true; the input reads as it did. -/
def integerPowersSpec : ChangeSpec := { name := "integerPowers", fn := fun _ => fun
  | [d1, d2, d3] => { results := [.lit (.bool true)], args := [d1, d2, d3] }
  | _ => none }
def integerPowersRow : OpenClaim := { program := "ytopbfgmpilnghaadoor", sum := "86ff377704eef95009b4087c216fe2546fd1415edfab72dbe94ef6920a9017ed", func := "ziggurat/zigguratlaw06.IntegerPowers", spec := "integerPowers", inPlace := ["math/bits.Add64"], unfollowed := true, recurses := true, named := ["math/bits.overflowError", "ziggurat/ntt.fields"], apart := false, laid := [("ziggurat/ntt.fields", laid_ziggurat_ntt_fields)] }
def IntegerPowersSaid : Prop := integerPowersRow.holds Tryd.pinned (OpenSpec.ofChange integerPowersSpec)

/-- ITS FALSE NEIGHBOUR: 'it returns false'. Refute it at one input. -/
def integerPowersWrong : ChangeSpec := { name := "integerPowers", fn := fun _ => fun
  | [d1, d2, d3] => { results := [.lit (.bool false)], args := [d1, d2, d3] }
  | _ => none }
def IntegerPowersWrongFalsely : Prop := integerPowersRow.holds Tryd.pinned (OpenSpec.ofChange integerPowersWrong)

/-- 'zigguratlaw06.IntegerRing': WHATEVER THE INPUT: true; the input reads as it did. -/
def integerRingSpec : ChangeSpec := { name := "integerRing", fn := fun _ => fun
  | [d] => { results := [.lit (.bool true)], args := [d] }
  | _ => none }
def integerRingRow : OpenClaim := { program := "ytopbfgmpilnghaadoor", sum := "86ff377704eef95009b4087c216fe2546fd1415edfab72dbe94ef6920a9017ed", func := "ziggurat/zigguratlaw06.IntegerRing", spec := "integerRing", inPlace := ["math/bits.Add64"], unfollowed := true, recurses := true, named := ["math/bits.overflowError", "ziggurat/ntt.fields"], apart := false, laid := [("ziggurat/ntt.fields", laid_ziggurat_ntt_fields)] }
def IntegerRingSaid : Prop := integerRingRow.holds Tryd.pinned (OpenSpec.ofChange integerRingSpec)

/-- ITS FALSE NEIGHBOUR: 'it returns false'. Refute it at one input. -/
def integerRingWrong : ChangeSpec := { name := "integerRing", fn := fun _ => fun
  | [d] => { results := [.lit (.bool false)], args := [d] }
  | _ => none }
def IntegerRingWrongFalsely : Prop := integerRingRow.holds Tryd.pinned (OpenSpec.ofChange integerRingWrong)

/-- 'zigguratlaw06.IntegerOrder': WHATEVER THE INPUT: true; the input reads as it did. -/
def integerOrderSpec : ChangeSpec := { name := "integerOrder", fn := fun _ => fun
  | [d] => { results := [.lit (.bool true)], args := [d] }
  | _ => none }
def integerOrderRow : OpenClaim := { program := "ytopbfgmpilnghaadoor", sum := "86ff377704eef95009b4087c216fe2546fd1415edfab72dbe94ef6920a9017ed", func := "ziggurat/zigguratlaw06.IntegerOrder", spec := "integerOrder", inPlace := ["math/bits.Add64"], unfollowed := true, recurses := true, named := ["math/bits.overflowError", "ziggurat/ntt.fields"], apart := false, laid := [("ziggurat/ntt.fields", laid_ziggurat_ntt_fields)] }
def IntegerOrderSaid : Prop := integerOrderRow.holds Tryd.pinned (OpenSpec.ofChange integerOrderSpec)

/-- ITS FALSE NEIGHBOUR: 'it returns false'. Refute it at one input. -/
def integerOrderWrong : ChangeSpec := { name := "integerOrder", fn := fun _ => fun
  | [d] => { results := [.lit (.bool false)], args := [d] }
  | _ => none }
def IntegerOrderWrongFalsely : Prop := integerOrderRow.holds Tryd.pinned (OpenSpec.ofChange integerOrderWrong)

/-- 'zigguratlaw06.IntegerRests': WHATEVER THE INPUT: true; the input reads as it did. -/
def integerRestsSpec : ChangeSpec := { name := "integerRests", fn := fun _ => fun
  | [d1, d2] => { results := [.lit (.bool true)], args := [d1, d2] }
  | _ => none }
def integerRestsRow : OpenClaim := { program := "ytopbfgmpilnghaadoor", sum := "86ff377704eef95009b4087c216fe2546fd1415edfab72dbe94ef6920a9017ed", func := "ziggurat/zigguratlaw06.IntegerRests", spec := "integerRests", inPlace := ["math/bits.Add64"], unfollowed := true, recurses := true, named := ["math/bits.overflowError", "ziggurat/ntt.fields"], apart := false, laid := [("ziggurat/ntt.fields", laid_ziggurat_ntt_fields)] }
def IntegerRestsSaid : Prop := integerRestsRow.holds Tryd.pinned (OpenSpec.ofChange integerRestsSpec)

/-- ITS FALSE NEIGHBOUR: 'it returns false'. Refute it at one input. -/
def integerRestsWrong : ChangeSpec := { name := "integerRests", fn := fun _ => fun
  | [d1, d2] => { results := [.lit (.bool false)], args := [d1, d2] }
  | _ => none }
def IntegerRestsWrongFalsely : Prop := integerRestsRow.holds Tryd.pinned (OpenSpec.ofChange integerRestsWrong)

/- THE SECOND FORM. 'bulk': how many values and letters a reading holds, each counted each time it is reached (what is shared counts as often as it is met; a slice's spare places count too). A statement '..UptoSaid' is the law's where the arguments, and the package variables that the reading takes, are together of bulk at most 1048576: NARROWER than '..Said'. Prove '..Said' where nothing that the law and all that it calls make is longer than what came in: it says more and counts as full. Else prove '..UptoSaid'. A law counts once. -/
mutual
def uptoBulk {H : Type} : DataW H → Nat
  | .lit (.string bytes) => bytes.length + 1
  | .lit _ => 1
  | .nil => 1
  | .ptr d => uptoBulk d + 1
  | .slice elems spare => uptoBulkAll elems + uptoBulkAll spare + 1
  | .agg parts => uptoBulkAll parts + 1
  | .iface _ d => uptoBulk d + 1
  | .map entries => uptoBulkEntries entries + 1
  | .held _ => 1
def uptoBulkAll {H : Type} : List (DataW H) → Nat
  | [] => 0
  | d :: r => uptoBulk d + uptoBulkAll r
def uptoBulkEntries {H : Type} : List (Lit × DataW H) → Nat
  | [] => 0
  | x :: r => uptoBulkEntry x + uptoBulkEntries r
def uptoBulkEntry {H : Type} : Lit × DataW H → Nat
  | (.string bytes, d) => bytes.length + uptoBulk d + 1
  | (_, d) => uptoBulk d + 1
 end
def uptoSmall : (H : Type) → List (DataW H) → Bool := fun _ ds => decide (uptoBulkAll ds ≤ 1048576)
def OpenSpec.upto (s : _root_.Go.ChangeSpec) : _root_.Go.OpenSpec := { _root_.Go.OpenSpec.ofChange s with cond := some uptoSmall }

/-- 'zigguratlaw05.RadixTells', WHERE WHAT IT READS IS OF BULK AT MOST 1048576: true; the input reads as it did. -/
def radixTellsUptoRow : OpenClaim := { program := "ytopbfgmpilnghaadoor", sum := "86ff377704eef95009b4087c216fe2546fd1415edfab72dbe94ef6920a9017ed", func := "ziggurat/zigguratlaw05.RadixTells", spec := "radixTells", inPlace := ["math/bits.Add64"], unfollowed := true, recurses := true, named := ["ziggurat/ntt.fields", "math/bits.overflowError"], apart := false, laid := [("ziggurat/ntt.fields", laid_ziggurat_ntt_fields)], narrowed := true }
def RadixTellsUptoSaid : Prop := radixTellsUptoRow.holds Tryd.pinned (OpenSpec.upto radixTellsSpec)

/-- 'zigguratlaw05.RadixBack', WHERE WHAT IT READS IS OF BULK AT MOST 1048576: true; the input reads as it did. -/
def radixBackUptoRow : OpenClaim := { program := "ytopbfgmpilnghaadoor", sum := "86ff377704eef95009b4087c216fe2546fd1415edfab72dbe94ef6920a9017ed", func := "ziggurat/zigguratlaw05.RadixBack", spec := "radixBack", inPlace := ["math/bits.Add64"], unfollowed := true, recurses := true, named := ["ziggurat/ntt.fields", "math/bits.overflowError"], apart := false, laid := [("ziggurat/ntt.fields", laid_ziggurat_ntt_fields)], narrowed := true }
def RadixBackUptoSaid : Prop := radixBackUptoRow.holds Tryd.pinned (OpenSpec.upto radixBackSpec)

/-- 'zigguratlaw05.RadixAgain', WHERE WHAT IT READS IS OF BULK AT MOST 1048576: true; the input reads as it did. -/
def radixAgainUptoRow : OpenClaim := { program := "ytopbfgmpilnghaadoor", sum := "86ff377704eef95009b4087c216fe2546fd1415edfab72dbe94ef6920a9017ed", func := "ziggurat/zigguratlaw05.RadixAgain", spec := "radixAgain", inPlace := ["math/bits.Add64"], unfollowed := true, recurses := true, named := ["ziggurat/ntt.fields", "math/bits.overflowError"], apart := false, laid := [("ziggurat/ntt.fields", laid_ziggurat_ntt_fields)], narrowed := true }
def RadixAgainUptoSaid : Prop := radixAgainUptoRow.holds Tryd.pinned (OpenSpec.upto radixAgainSpec)

/-- 'zigguratlaw05.RadixWorth', WHERE WHAT IT READS IS OF BULK AT MOST 1048576: true; the input reads as it did. -/
def radixWorthUptoRow : OpenClaim := { program := "ytopbfgmpilnghaadoor", sum := "86ff377704eef95009b4087c216fe2546fd1415edfab72dbe94ef6920a9017ed", func := "ziggurat/zigguratlaw05.RadixWorth", spec := "radixWorth", inPlace := ["math/bits.Add64"], unfollowed := true, recurses := true, named := ["ziggurat/ntt.fields", "math/bits.overflowError"], apart := false, laid := [("ziggurat/ntt.fields", laid_ziggurat_ntt_fields)], narrowed := true }
def RadixWorthUptoSaid : Prop := radixWorthUptoRow.holds Tryd.pinned (OpenSpec.upto radixWorthSpec)

/-- 'zigguratlaw05.RadixJoin', WHERE WHAT IT READS IS OF BULK AT MOST 1048576: true; the input reads as it did. -/
def radixJoinUptoRow : OpenClaim := { program := "ytopbfgmpilnghaadoor", sum := "86ff377704eef95009b4087c216fe2546fd1415edfab72dbe94ef6920a9017ed", func := "ziggurat/zigguratlaw05.RadixJoin", spec := "radixJoin", inPlace := ["math/bits.Add64"], unfollowed := true, recurses := true, named := ["ziggurat/ntt.fields", "math/bits.overflowError"], apart := false, laid := [("ziggurat/ntt.fields", laid_ziggurat_ntt_fields)], narrowed := true }
def RadixJoinUptoSaid : Prop := radixJoinUptoRow.holds Tryd.pinned (OpenSpec.upto radixJoinSpec)

/-- 'zigguratlaw05.RadixOrder', WHERE WHAT IT READS IS OF BULK AT MOST 1048576: true; the input reads as it did. -/
def radixOrderUptoRow : OpenClaim := { program := "ytopbfgmpilnghaadoor", sum := "86ff377704eef95009b4087c216fe2546fd1415edfab72dbe94ef6920a9017ed", func := "ziggurat/zigguratlaw05.RadixOrder", spec := "radixOrder", inPlace := ["math/bits.Add64"], unfollowed := true, recurses := true, named := ["ziggurat/ntt.fields", "math/bits.overflowError"], apart := false, laid := [("ziggurat/ntt.fields", laid_ziggurat_ntt_fields)], narrowed := true }
def RadixOrderUptoSaid : Prop := radixOrderUptoRow.holds Tryd.pinned (OpenSpec.upto radixOrderSpec)

/-- 'zigguratlaw05.RadixBits', WHERE WHAT IT READS IS OF BULK AT MOST 1048576: true; the input reads as it did. -/
def radixBitsUptoRow : OpenClaim := { program := "ytopbfgmpilnghaadoor", sum := "86ff377704eef95009b4087c216fe2546fd1415edfab72dbe94ef6920a9017ed", func := "ziggurat/zigguratlaw05.RadixBits", spec := "radixBits", inPlace := ["math/bits.Add64"], unfollowed := true, recurses := true, named := ["ziggurat/ntt.fields", "math/bits.overflowError"], apart := false, laid := [("ziggurat/ntt.fields", laid_ziggurat_ntt_fields)], narrowed := true }
def RadixBitsUptoSaid : Prop := radixBitsUptoRow.holds Tryd.pinned (OpenSpec.upto radixBitsSpec)

/-- 'zigguratlaw05.RadixPowers', WHERE WHAT IT READS IS OF BULK AT MOST 1048576: true; the input reads as it did. -/
def radixPowersUptoRow : OpenClaim := { program := "ytopbfgmpilnghaadoor", sum := "86ff377704eef95009b4087c216fe2546fd1415edfab72dbe94ef6920a9017ed", func := "ziggurat/zigguratlaw05.RadixPowers", spec := "radixPowers", inPlace := ["math/bits.Add64"], unfollowed := true, recurses := true, named := ["ziggurat/ntt.fields", "math/bits.overflowError"], apart := false, laid := [("ziggurat/ntt.fields", laid_ziggurat_ntt_fields)], narrowed := true }
def RadixPowersUptoSaid : Prop := radixPowersUptoRow.holds Tryd.pinned (OpenSpec.upto radixPowersSpec)

/-- 'zigguratlaw05.RadixBad', WHERE WHAT IT READS IS OF BULK AT MOST 1048576: true; the input reads as it did. -/
def radixBadUptoRow : OpenClaim := { program := "ytopbfgmpilnghaadoor", sum := "86ff377704eef95009b4087c216fe2546fd1415edfab72dbe94ef6920a9017ed", func := "ziggurat/zigguratlaw05.RadixBad", spec := "radixBad", inPlace := ["math/bits.Add64"], unfollowed := true, recurses := true, named := ["ziggurat/ntt.fields", "math/bits.overflowError"], apart := false, laid := [("ziggurat/ntt.fields", laid_ziggurat_ntt_fields)], narrowed := true }
def RadixBadUptoSaid : Prop := radixBadUptoRow.holds Tryd.pinned (OpenSpec.upto radixBadSpec)

/-- 'zigguratlaw06.IntegerTexts', WHERE WHAT IT READS IS OF BULK AT MOST 1048576: true; the input reads as it did. -/
def integerTextsUptoRow : OpenClaim := { program := "ytopbfgmpilnghaadoor", sum := "86ff377704eef95009b4087c216fe2546fd1415edfab72dbe94ef6920a9017ed", func := "ziggurat/zigguratlaw06.IntegerTexts", spec := "integerTexts", inPlace := ["math/bits.Add64"], unfollowed := true, recurses := true, named := ["math/bits.overflowError", "ziggurat/ntt.fields"], apart := false, laid := [("ziggurat/ntt.fields", laid_ziggurat_ntt_fields)], narrowed := true }
def IntegerTextsUptoSaid : Prop := integerTextsUptoRow.holds Tryd.pinned (OpenSpec.upto integerTextsSpec)

/-- 'zigguratlaw06.IntegerQuotient', WHERE WHAT IT READS IS OF BULK AT MOST 1048576: true; the input reads as it did. -/
def integerQuotientUptoRow : OpenClaim := { program := "ytopbfgmpilnghaadoor", sum := "86ff377704eef95009b4087c216fe2546fd1415edfab72dbe94ef6920a9017ed", func := "ziggurat/zigguratlaw06.IntegerQuotient", spec := "integerQuotient", inPlace := ["math/bits.Add64"], unfollowed := true, recurses := true, named := ["math/bits.overflowError", "ziggurat/ntt.fields"], apart := false, laid := [("ziggurat/ntt.fields", laid_ziggurat_ntt_fields)], narrowed := true }
def IntegerQuotientUptoSaid : Prop := integerQuotientUptoRow.holds Tryd.pinned (OpenSpec.upto integerQuotientSpec)

/-- 'zigguratlaw06.IntegerShifts', WHERE WHAT IT READS IS OF BULK AT MOST 1048576: true; the input reads as it did. -/
def integerShiftsUptoRow : OpenClaim := { program := "ytopbfgmpilnghaadoor", sum := "86ff377704eef95009b4087c216fe2546fd1415edfab72dbe94ef6920a9017ed", func := "ziggurat/zigguratlaw06.IntegerShifts", spec := "integerShifts", inPlace := ["math/bits.Add64"], unfollowed := true, recurses := true, named := ["math/bits.overflowError", "ziggurat/ntt.fields"], apart := false, laid := [("ziggurat/ntt.fields", laid_ziggurat_ntt_fields)], narrowed := true }
def IntegerShiftsUptoSaid : Prop := integerShiftsUptoRow.holds Tryd.pinned (OpenSpec.upto integerShiftsSpec)

/-- 'zigguratlaw06.IntegerPowers', WHERE WHAT IT READS IS OF BULK AT MOST 1048576: true; the input reads as it did. -/
def integerPowersUptoRow : OpenClaim := { program := "ytopbfgmpilnghaadoor", sum := "86ff377704eef95009b4087c216fe2546fd1415edfab72dbe94ef6920a9017ed", func := "ziggurat/zigguratlaw06.IntegerPowers", spec := "integerPowers", inPlace := ["math/bits.Add64"], unfollowed := true, recurses := true, named := ["math/bits.overflowError", "ziggurat/ntt.fields"], apart := false, laid := [("ziggurat/ntt.fields", laid_ziggurat_ntt_fields)], narrowed := true }
def IntegerPowersUptoSaid : Prop := integerPowersUptoRow.holds Tryd.pinned (OpenSpec.upto integerPowersSpec)

/-- 'zigguratlaw06.IntegerRing', WHERE WHAT IT READS IS OF BULK AT MOST 1048576: true; the input reads as it did. -/
def integerRingUptoRow : OpenClaim := { program := "ytopbfgmpilnghaadoor", sum := "86ff377704eef95009b4087c216fe2546fd1415edfab72dbe94ef6920a9017ed", func := "ziggurat/zigguratlaw06.IntegerRing", spec := "integerRing", inPlace := ["math/bits.Add64"], unfollowed := true, recurses := true, named := ["math/bits.overflowError", "ziggurat/ntt.fields"], apart := false, laid := [("ziggurat/ntt.fields", laid_ziggurat_ntt_fields)], narrowed := true }
def IntegerRingUptoSaid : Prop := integerRingUptoRow.holds Tryd.pinned (OpenSpec.upto integerRingSpec)

/-- 'zigguratlaw06.IntegerOrder', WHERE WHAT IT READS IS OF BULK AT MOST 1048576: true; the input reads as it did. -/
def integerOrderUptoRow : OpenClaim := { program := "ytopbfgmpilnghaadoor", sum := "86ff377704eef95009b4087c216fe2546fd1415edfab72dbe94ef6920a9017ed", func := "ziggurat/zigguratlaw06.IntegerOrder", spec := "integerOrder", inPlace := ["math/bits.Add64"], unfollowed := true, recurses := true, named := ["math/bits.overflowError", "ziggurat/ntt.fields"], apart := false, laid := [("ziggurat/ntt.fields", laid_ziggurat_ntt_fields)], narrowed := true }
def IntegerOrderUptoSaid : Prop := integerOrderUptoRow.holds Tryd.pinned (OpenSpec.upto integerOrderSpec)

/-- 'zigguratlaw06.IntegerRests', WHERE WHAT IT READS IS OF BULK AT MOST 1048576: true; the input reads as it did. -/
def integerRestsUptoRow : OpenClaim := { program := "ytopbfgmpilnghaadoor", sum := "86ff377704eef95009b4087c216fe2546fd1415edfab72dbe94ef6920a9017ed", func := "ziggurat/zigguratlaw06.IntegerRests", spec := "integerRests", inPlace := ["math/bits.Add64"], unfollowed := true, recurses := true, named := ["math/bits.overflowError", "ziggurat/ntt.fields"], apart := false, laid := [("ziggurat/ntt.fields", laid_ziggurat_ntt_fields)], narrowed := true }
def IntegerRestsUptoSaid : Prop := integerRestsUptoRow.holds Tryd.pinned (OpenSpec.upto integerRestsSpec)

end Rows
end Go.Proofs.YtopbfgmpilnghaaDoor
