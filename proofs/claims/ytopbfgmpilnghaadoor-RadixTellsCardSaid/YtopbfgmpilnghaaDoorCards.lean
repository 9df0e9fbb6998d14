/-
  DERIVED. GIVEN WITH THE SEED: THE CARDS: each row of YtopbfgmpilnghaaDoorRows.lean that lists a variable, with what it lists TIED to the program's text (the seventh form; the later family's looks); each row that meets fmt, with fmt's text TOLD by the authors' own Lean function (tested against real Go, not proved from fmt's source: count such statements apart). THE CARD IS WHAT COUNTS. Prove the row's statement (the work); the ties are given (YtopbfgmpilnghaaDoorTie.lean); close each card by the builder's one call (the guide's Derived/Test/ToyasCard.lean, 'card_holds'). Laid BY PROGRAM, IN A SANDBOX (cutbox-door.mjs). By AI agents, Wed Nov 11 2026. No macro, syntax, notation, axiom, sorry.
-/
import Derived.Test.YtopbfgmpilnghaaDoorRows
import GoSem.ClaimSeven
namespace Go.Proofs.YtopbfgmpilnghaaDoor
namespace Rows

/-- THE TIED CARD OF 'zigguratlaw05.RadixTells'. -/
def radixTellsCard : Claim7 := { stood := { row := radixTellsRow, standIns := [], harness := (true, "7d81dd32c08831d1f4dc1ed8f06b5475ee7089b23f1f0c86822d4686a573f9bd"), looks := false }, kinds := [], alts := [], laidByText := true, laidKinds := [.data], laidTests := true, laidLooks := .later }
def RadixTellsCardSaid : Prop := Claim7.holds Tryd.pinned (.plain (OpenSpec.ofChange radixTellsSpec)) radixTellsCard

/-- THE TIED CARD OF 'zigguratlaw05.RadixBack'. -/
def radixBackCard : Claim7 := { stood := { row := radixBackRow, standIns := [], harness := (true, "7d81dd32c08831d1f4dc1ed8f06b5475ee7089b23f1f0c86822d4686a573f9bd"), looks := false }, kinds := [], alts := [], laidByText := true, laidKinds := [.data], laidTests := true, laidLooks := .later }
def RadixBackCardSaid : Prop := Claim7.holds Tryd.pinned (.plain (OpenSpec.ofChange radixBackSpec)) radixBackCard

/-- THE TIED CARD OF 'zigguratlaw05.RadixAgain'. -/
def radixAgainCard : Claim7 := { stood := { row := radixAgainRow, standIns := [], harness := (true, "7d81dd32c08831d1f4dc1ed8f06b5475ee7089b23f1f0c86822d4686a573f9bd"), looks := false }, kinds := [], alts := [], laidByText := true, laidKinds := [.data], laidTests := true, laidLooks := .later }
def RadixAgainCardSaid : Prop := Claim7.holds Tryd.pinned (.plain (OpenSpec.ofChange radixAgainSpec)) radixAgainCard

/-- THE TIED CARD OF 'zigguratlaw05.RadixWorth'. -/
def radixWorthCard : Claim7 := { stood := { row := radixWorthRow, standIns := [], harness := (true, "7d81dd32c08831d1f4dc1ed8f06b5475ee7089b23f1f0c86822d4686a573f9bd"), looks := false }, kinds := [], alts := [], laidByText := true, laidKinds := [.data], laidTests := true, laidLooks := .later }
def RadixWorthCardSaid : Prop := Claim7.holds Tryd.pinned (.plain (OpenSpec.ofChange radixWorthSpec)) radixWorthCard

/-- THE TIED CARD OF 'zigguratlaw05.RadixJoin'. -/
def radixJoinCard : Claim7 := { stood := { row := radixJoinRow, standIns := [], harness := (true, "7d81dd32c08831d1f4dc1ed8f06b5475ee7089b23f1f0c86822d4686a573f9bd"), looks := false }, kinds := [], alts := [], laidByText := true, laidKinds := [.data], laidTests := true, laidLooks := .later }
def RadixJoinCardSaid : Prop := Claim7.holds Tryd.pinned (.plain (OpenSpec.ofChange radixJoinSpec)) radixJoinCard

/-- THE TIED CARD OF 'zigguratlaw05.RadixOrder'. -/
def radixOrderCard : Claim7 := { stood := { row := radixOrderRow, standIns := [], harness := (true, "7d81dd32c08831d1f4dc1ed8f06b5475ee7089b23f1f0c86822d4686a573f9bd"), looks := false }, kinds := [], alts := [], laidByText := true, laidKinds := [.data], laidTests := true, laidLooks := .later }
def RadixOrderCardSaid : Prop := Claim7.holds Tryd.pinned (.plain (OpenSpec.ofChange radixOrderSpec)) radixOrderCard

/-- THE TIED CARD OF 'zigguratlaw05.RadixBits'. -/
def radixBitsCard : Claim7 := { stood := { row := radixBitsRow, standIns := [], harness := (true, "7d81dd32c08831d1f4dc1ed8f06b5475ee7089b23f1f0c86822d4686a573f9bd"), looks := false }, kinds := [], alts := [], laidByText := true, laidKinds := [.data], laidTests := true, laidLooks := .later }
def RadixBitsCardSaid : Prop := Claim7.holds Tryd.pinned (.plain (OpenSpec.ofChange radixBitsSpec)) radixBitsCard

/-- THE TIED CARD OF 'zigguratlaw05.RadixPowers'. -/
def radixPowersCard : Claim7 := { stood := { row := radixPowersRow, standIns := [], harness := (true, "7d81dd32c08831d1f4dc1ed8f06b5475ee7089b23f1f0c86822d4686a573f9bd"), looks := false }, kinds := [], alts := [], laidByText := true, laidKinds := [.data], laidTests := true, laidLooks := .later }
def RadixPowersCardSaid : Prop := Claim7.holds Tryd.pinned (.plain (OpenSpec.ofChange radixPowersSpec)) radixPowersCard

/-- THE TIED CARD OF 'zigguratlaw05.RadixBad'. -/
def radixBadCard : Claim7 := { stood := { row := radixBadRow, standIns := [], harness := (true, "7d81dd32c08831d1f4dc1ed8f06b5475ee7089b23f1f0c86822d4686a573f9bd"), looks := false }, kinds := [], alts := [], laidByText := true, laidKinds := [.data], laidTests := true, laidLooks := .later }
def RadixBadCardSaid : Prop := Claim7.holds Tryd.pinned (.plain (OpenSpec.ofChange radixBadSpec)) radixBadCard

/-- THE TIED CARD OF 'zigguratlaw06.IntegerTexts'. -/
def integerTextsCard : Claim7 := { stood := { row := integerTextsRow, standIns := [], harness := (true, "7d81dd32c08831d1f4dc1ed8f06b5475ee7089b23f1f0c86822d4686a573f9bd"), looks := false }, kinds := [], alts := [], laidByText := true, laidKinds := [.data], laidTests := true, laidLooks := .later }
def IntegerTextsCardSaid : Prop := Claim7.holds Tryd.pinned (.plain (OpenSpec.ofChange integerTextsSpec)) integerTextsCard

/-- THE TIED CARD OF 'zigguratlaw06.IntegerQuotient'. -/
def integerQuotientCard : Claim7 := { stood := { row := integerQuotientRow, standIns := [], harness := (true, "7d81dd32c08831d1f4dc1ed8f06b5475ee7089b23f1f0c86822d4686a573f9bd"), looks := false }, kinds := [], alts := [], laidByText := true, laidKinds := [.data], laidTests := true, laidLooks := .later }
def IntegerQuotientCardSaid : Prop := Claim7.holds Tryd.pinned (.plain (OpenSpec.ofChange integerQuotientSpec)) integerQuotientCard

/-- THE TIED CARD OF 'zigguratlaw06.IntegerShifts'. -/
def integerShiftsCard : Claim7 := { stood := { row := integerShiftsRow, standIns := [], harness := (true, "7d81dd32c08831d1f4dc1ed8f06b5475ee7089b23f1f0c86822d4686a573f9bd"), looks := false }, kinds := [], alts := [], laidByText := true, laidKinds := [.data], laidTests := true, laidLooks := .later }
def IntegerShiftsCardSaid : Prop := Claim7.holds Tryd.pinned (.plain (OpenSpec.ofChange integerShiftsSpec)) integerShiftsCard

/-- THE TIED CARD OF 'zigguratlaw06.IntegerPowers'. -/
def integerPowersCard : Claim7 := { stood := { row := integerPowersRow, standIns := [], harness := (true, "7d81dd32c08831d1f4dc1ed8f06b5475ee7089b23f1f0c86822d4686a573f9bd"), looks := false }, kinds := [], alts := [], laidByText := true, laidKinds := [.data], laidTests := true, laidLooks := .later }
def IntegerPowersCardSaid : Prop := Claim7.holds Tryd.pinned (.plain (OpenSpec.ofChange integerPowersSpec)) integerPowersCard

/-- THE TIED CARD OF 'zigguratlaw06.IntegerRing'. -/
def integerRingCard : Claim7 := { stood := { row := integerRingRow, standIns := [], harness := (true, "7d81dd32c08831d1f4dc1ed8f06b5475ee7089b23f1f0c86822d4686a573f9bd"), looks := false }, kinds := [], alts := [], laidByText := true, laidKinds := [.data], laidTests := true, laidLooks := .later }
def IntegerRingCardSaid : Prop := Claim7.holds Tryd.pinned (.plain (OpenSpec.ofChange integerRingSpec)) integerRingCard

/-- THE TIED CARD OF 'zigguratlaw06.IntegerOrder'. -/
def integerOrderCard : Claim7 := { stood := { row := integerOrderRow, standIns := [], harness := (true, "7d81dd32c08831d1f4dc1ed8f06b5475ee7089b23f1f0c86822d4686a573f9bd"), looks := false }, kinds := [], alts := [], laidByText := true, laidKinds := [.data], laidTests := true, laidLooks := .later }
def IntegerOrderCardSaid : Prop := Claim7.holds Tryd.pinned (.plain (OpenSpec.ofChange integerOrderSpec)) integerOrderCard

/-- THE TIED CARD OF 'zigguratlaw06.IntegerRests'. -/
def integerRestsCard : Claim7 := { stood := { row := integerRestsRow, standIns := [], harness := (true, "7d81dd32c08831d1f4dc1ed8f06b5475ee7089b23f1f0c86822d4686a573f9bd"), looks := false }, kinds := [], alts := [], laidByText := true, laidKinds := [.data], laidTests := true, laidLooks := .later }
def IntegerRestsCardSaid : Prop := Claim7.holds Tryd.pinned (.plain (OpenSpec.ofChange integerRestsSpec)) integerRestsCard

/-- THE SECOND FORM's CARD OF 'zigguratlaw05.RadixTells'. -/
def radixTellsUptoCard : Claim7 := { stood := { row := radixTellsUptoRow, standIns := [], harness := (true, "7d81dd32c08831d1f4dc1ed8f06b5475ee7089b23f1f0c86822d4686a573f9bd"), looks := false }, kinds := [], alts := [], laidByText := true, laidKinds := [.data], laidTests := true, laidLooks := .later }
def RadixTellsUptoCardSaid : Prop := Claim7.holds Tryd.pinned (.plain (OpenSpec.upto radixTellsSpec)) radixTellsUptoCard

/-- THE SECOND FORM's CARD OF 'zigguratlaw05.RadixBack'. -/
def radixBackUptoCard : Claim7 := { stood := { row := radixBackUptoRow, standIns := [], harness := (true, "7d81dd32c08831d1f4dc1ed8f06b5475ee7089b23f1f0c86822d4686a573f9bd"), looks := false }, kinds := [], alts := [], laidByText := true, laidKinds := [.data], laidTests := true, laidLooks := .later }
def RadixBackUptoCardSaid : Prop := Claim7.holds Tryd.pinned (.plain (OpenSpec.upto radixBackSpec)) radixBackUptoCard

/-- THE SECOND FORM's CARD OF 'zigguratlaw05.RadixAgain'. -/
def radixAgainUptoCard : Claim7 := { stood := { row := radixAgainUptoRow, standIns := [], harness := (true, "7d81dd32c08831d1f4dc1ed8f06b5475ee7089b23f1f0c86822d4686a573f9bd"), looks := false }, kinds := [], alts := [], laidByText := true, laidKinds := [.data], laidTests := true, laidLooks := .later }
def RadixAgainUptoCardSaid : Prop := Claim7.holds Tryd.pinned (.plain (OpenSpec.upto radixAgainSpec)) radixAgainUptoCard

/-- THE SECOND FORM's CARD OF 'zigguratlaw05.RadixWorth'. -/
def radixWorthUptoCard : Claim7 := { stood := { row := radixWorthUptoRow, standIns := [], harness := (true, "7d81dd32c08831d1f4dc1ed8f06b5475ee7089b23f1f0c86822d4686a573f9bd"), looks := false }, kinds := [], alts := [], laidByText := true, laidKinds := [.data], laidTests := true, laidLooks := .later }
def RadixWorthUptoCardSaid : Prop := Claim7.holds Tryd.pinned (.plain (OpenSpec.upto radixWorthSpec)) radixWorthUptoCard

/-- THE SECOND FORM's CARD OF 'zigguratlaw05.RadixJoin'. -/
def radixJoinUptoCard : Claim7 := { stood := { row := radixJoinUptoRow, standIns := [], harness := (true, "7d81dd32c08831d1f4dc1ed8f06b5475ee7089b23f1f0c86822d4686a573f9bd"), looks := false }, kinds := [], alts := [], laidByText := true, laidKinds := [.data], laidTests := true, laidLooks := .later }
def RadixJoinUptoCardSaid : Prop := Claim7.holds Tryd.pinned (.plain (OpenSpec.upto radixJoinSpec)) radixJoinUptoCard

/-- THE SECOND FORM's CARD OF 'zigguratlaw05.RadixOrder'. -/
def radixOrderUptoCard : Claim7 := { stood := { row := radixOrderUptoRow, standIns := [], harness := (true, "7d81dd32c08831d1f4dc1ed8f06b5475ee7089b23f1f0c86822d4686a573f9bd"), looks := false }, kinds := [], alts := [], laidByText := true, laidKinds := [.data], laidTests := true, laidLooks := .later }
def RadixOrderUptoCardSaid : Prop := Claim7.holds Tryd.pinned (.plain (OpenSpec.upto radixOrderSpec)) radixOrderUptoCard

/-- THE SECOND FORM's CARD OF 'zigguratlaw05.RadixBits'. -/
def radixBitsUptoCard : Claim7 := { stood := { row := radixBitsUptoRow, standIns := [], harness := (true, "7d81dd32c08831d1f4dc1ed8f06b5475ee7089b23f1f0c86822d4686a573f9bd"), looks := false }, kinds := [], alts := [], laidByText := true, laidKinds := [.data], laidTests := true, laidLooks := .later }
def RadixBitsUptoCardSaid : Prop := Claim7.holds Tryd.pinned (.plain (OpenSpec.upto radixBitsSpec)) radixBitsUptoCard

/-- THE SECOND FORM's CARD OF 'zigguratlaw05.RadixPowers'. -/
def radixPowersUptoCard : Claim7 := { stood := { row := radixPowersUptoRow, standIns := [], harness := (true, "7d81dd32c08831d1f4dc1ed8f06b5475ee7089b23f1f0c86822d4686a573f9bd"), looks := false }, kinds := [], alts := [], laidByText := true, laidKinds := [.data], laidTests := true, laidLooks := .later }
def RadixPowersUptoCardSaid : Prop := Claim7.holds Tryd.pinned (.plain (OpenSpec.upto radixPowersSpec)) radixPowersUptoCard

/-- THE SECOND FORM's CARD OF 'zigguratlaw05.RadixBad'. -/
def radixBadUptoCard : Claim7 := { stood := { row := radixBadUptoRow, standIns := [], harness := (true, "7d81dd32c08831d1f4dc1ed8f06b5475ee7089b23f1f0c86822d4686a573f9bd"), looks := false }, kinds := [], alts := [], laidByText := true, laidKinds := [.data], laidTests := true, laidLooks := .later }
def RadixBadUptoCardSaid : Prop := Claim7.holds Tryd.pinned (.plain (OpenSpec.upto radixBadSpec)) radixBadUptoCard

/-- THE SECOND FORM's CARD OF 'zigguratlaw06.IntegerTexts'. -/
def integerTextsUptoCard : Claim7 := { stood := { row := integerTextsUptoRow, standIns := [], harness := (true, "7d81dd32c08831d1f4dc1ed8f06b5475ee7089b23f1f0c86822d4686a573f9bd"), looks := false }, kinds := [], alts := [], laidByText := true, laidKinds := [.data], laidTests := true, laidLooks := .later }
def IntegerTextsUptoCardSaid : Prop := Claim7.holds Tryd.pinned (.plain (OpenSpec.upto integerTextsSpec)) integerTextsUptoCard

/-- THE SECOND FORM's CARD OF 'zigguratlaw06.IntegerQuotient'. -/
def integerQuotientUptoCard : Claim7 := { stood := { row := integerQuotientUptoRow, standIns := [], harness := (true, "7d81dd32c08831d1f4dc1ed8f06b5475ee7089b23f1f0c86822d4686a573f9bd"), looks := false }, kinds := [], alts := [], laidByText := true, laidKinds := [.data], laidTests := true, laidLooks := .later }
def IntegerQuotientUptoCardSaid : Prop := Claim7.holds Tryd.pinned (.plain (OpenSpec.upto integerQuotientSpec)) integerQuotientUptoCard

/-- THE SECOND FORM's CARD OF 'zigguratlaw06.IntegerShifts'. -/
def integerShiftsUptoCard : Claim7 := { stood := { row := integerShiftsUptoRow, standIns := [], harness := (true, "7d81dd32c08831d1f4dc1ed8f06b5475ee7089b23f1f0c86822d4686a573f9bd"), looks := false }, kinds := [], alts := [], laidByText := true, laidKinds := [.data], laidTests := true, laidLooks := .later }
def IntegerShiftsUptoCardSaid : Prop := Claim7.holds Tryd.pinned (.plain (OpenSpec.upto integerShiftsSpec)) integerShiftsUptoCard

/-- THE SECOND FORM's CARD OF 'zigguratlaw06.IntegerPowers'. -/
def integerPowersUptoCard : Claim7 := { stood := { row := integerPowersUptoRow, standIns := [], harness := (true, "7d81dd32c08831d1f4dc1ed8f06b5475ee7089b23f1f0c86822d4686a573f9bd"), looks := false }, kinds := [], alts := [], laidByText := true, laidKinds := [.data], laidTests := true, laidLooks := .later }
def IntegerPowersUptoCardSaid : Prop := Claim7.holds Tryd.pinned (.plain (OpenSpec.upto integerPowersSpec)) integerPowersUptoCard

/-- THE SECOND FORM's CARD OF 'zigguratlaw06.IntegerRing'. -/
def integerRingUptoCard : Claim7 := { stood := { row := integerRingUptoRow, standIns := [], harness := (true, "7d81dd32c08831d1f4dc1ed8f06b5475ee7089b23f1f0c86822d4686a573f9bd"), looks := false }, kinds := [], alts := [], laidByText := true, laidKinds := [.data], laidTests := true, laidLooks := .later }
def IntegerRingUptoCardSaid : Prop := Claim7.holds Tryd.pinned (.plain (OpenSpec.upto integerRingSpec)) integerRingUptoCard

/-- THE SECOND FORM's CARD OF 'zigguratlaw06.IntegerOrder'. -/
def integerOrderUptoCard : Claim7 := { stood := { row := integerOrderUptoRow, standIns := [], harness := (true, "7d81dd32c08831d1f4dc1ed8f06b5475ee7089b23f1f0c86822d4686a573f9bd"), looks := false }, kinds := [], alts := [], laidByText := true, laidKinds := [.data], laidTests := true, laidLooks := .later }
def IntegerOrderUptoCardSaid : Prop := Claim7.holds Tryd.pinned (.plain (OpenSpec.upto integerOrderSpec)) integerOrderUptoCard

/-- THE SECOND FORM's CARD OF 'zigguratlaw06.IntegerRests'. -/
def integerRestsUptoCard : Claim7 := { stood := { row := integerRestsUptoRow, standIns := [], harness := (true, "7d81dd32c08831d1f4dc1ed8f06b5475ee7089b23f1f0c86822d4686a573f9bd"), looks := false }, kinds := [], alts := [], laidByText := true, laidKinds := [.data], laidTests := true, laidLooks := .later }
def IntegerRestsUptoCardSaid : Prop := Claim7.holds Tryd.pinned (.plain (OpenSpec.upto integerRestsSpec)) integerRestsUptoCard
end Rows
end Go.Proofs.YtopbfgmpilnghaaDoor
