/-
  DERIVED. GIVEN WITH THE SEED: THE CARDS: each row of YthamagnlpndnoaaDoorRows.lean that lists a variable, with what it lists TIED to the program's text (the seventh form; the later family's looks); each row that meets fmt, with fmt's text TOLD by the authors' own Lean function (tested against real Go, not proved from fmt's source: count such statements apart). THE CARD IS WHAT COUNTS. Prove the row's statement (the work); the ties are given (YthamagnlpndnoaaDoorTie.lean); close each card by the builder's one call (the guide's Derived/Test/ToyasCard.lean, 'card_holds'). Laid BY PROGRAM, IN A SANDBOX (cutbox-door.mjs). By AI agents, Wed Nov 11 2026. No macro, syntax, notation, axiom, sorry.
-/
import Derived.Test.YthamagnlpndnoaaDoorRows
import GoSem.ClaimSeven
namespace Go.Proofs.YthamagnlpndnoaaDoor
namespace Rows

/-- THE TIED CARD OF 'pergolalaw2.RatioMakes'. -/
def ratioMakesCard : Claim7 := { stood := { row := ratioMakesRow, standIns := [], harness := (true, "59809f3e1549d4f568f852ccf1b2e93c587261b9280541bfe02b80e992a06706"), looks := true }, kinds := [], alts := [], laidByText := true, laidKinds := [.data, .data, .data], laidTests := true, laidLooks := .later }
def RatioMakesCardSaid : Prop := Claim7.holds Tryd.pinned (.plain (OpenSpec.ofChange ratioMakesSpec)) ratioMakesCard

/-- THE TIED CARD OF 'pergolalaw2.RatioOrder'. -/
def ratioOrderCard : Claim7 := { stood := { row := ratioOrderRow, standIns := [], harness := (true, "59809f3e1549d4f568f852ccf1b2e93c587261b9280541bfe02b80e992a06706"), looks := true }, kinds := [], alts := [], laidByText := true, laidKinds := [.data, .data, .data], laidTests := true, laidLooks := .later }
def RatioOrderCardSaid : Prop := Claim7.holds Tryd.pinned (.plain (OpenSpec.ofChange ratioOrderSpec)) ratioOrderCard

/-- THE TIED CARD OF 'pergolalaw2.RatioScales'. -/
def ratioScalesCard : Claim7 := { stood := { row := ratioScalesRow, standIns := [], harness := (true, "59809f3e1549d4f568f852ccf1b2e93c587261b9280541bfe02b80e992a06706"), looks := true }, kinds := [], alts := [], laidByText := true, laidKinds := [.data, .data, .data], laidTests := true, laidLooks := .later }
def RatioScalesCardSaid : Prop := Claim7.holds Tryd.pinned (.plain (OpenSpec.ofChange ratioScalesSpec)) ratioScalesCard

/-- THE TIED CARD OF 'pergolalaw2.RatioNears'. -/
def ratioNearsCard : Claim7 := { stood := { row := ratioNearsRow, standIns := [], harness := (true, "59809f3e1549d4f568f852ccf1b2e93c587261b9280541bfe02b80e992a06706"), looks := true }, kinds := [], alts := [], laidByText := true, laidKinds := [.data, .data, .data], laidTests := true, laidLooks := .later }
def RatioNearsCardSaid : Prop := Claim7.holds Tryd.pinned (.plain (OpenSpec.ofChange ratioNearsSpec)) ratioNearsCard

/-- THE TIED CARD OF 'pergolalaw2.RatioMins'. -/
def ratioMinsCard : Claim7 := { stood := { row := ratioMinsRow, standIns := [], harness := (true, "59809f3e1549d4f568f852ccf1b2e93c587261b9280541bfe02b80e992a06706"), looks := true }, kinds := [], alts := [], laidByText := true, laidKinds := [.data, .data, .data], laidTests := true, laidLooks := .later }
def RatioMinsCardSaid : Prop := Claim7.holds Tryd.pinned (.plain (OpenSpec.ofChange ratioMinsSpec)) ratioMinsCard

/-- THE TIED CARD OF 'pergolalaw2.RatioCompares'. -/
def ratioComparesCard : Claim7 := { stood := { row := ratioComparesRow, standIns := [], harness := (true, "59809f3e1549d4f568f852ccf1b2e93c587261b9280541bfe02b80e992a06706"), looks := true }, kinds := [], alts := [], laidByText := true, laidKinds := [.data, .data, .data], laidTests := true, laidLooks := .later }
def RatioComparesCardSaid : Prop := Claim7.holds Tryd.pinned (.plain (OpenSpec.ofChange ratioComparesSpec)) ratioComparesCard

/-- THE TIED CARD OF 'pergolalaw2.RatioWhole'. -/
def ratioWholeCard : Claim7 := { stood := { row := ratioWholeRow, standIns := [], harness := (true, "59809f3e1549d4f568f852ccf1b2e93c587261b9280541bfe02b80e992a06706"), looks := true }, kinds := [], alts := [], laidByText := true, laidKinds := [.data, .data, .data], laidTests := true, laidLooks := .later }
def RatioWholeCardSaid : Prop := Claim7.holds Tryd.pinned (.plain (OpenSpec.ofChange ratioWholeSpec)) ratioWholeCard

/-- THE SECOND FORM's CARD OF 'pergolalaw2.RatioMakes'. -/
def ratioMakesUptoCard : Claim7 := { stood := { row := ratioMakesUptoRow, standIns := [], harness := (true, "59809f3e1549d4f568f852ccf1b2e93c587261b9280541bfe02b80e992a06706"), looks := true }, kinds := [], alts := [], laidByText := true, laidKinds := [.data, .data, .data], laidTests := true, laidLooks := .later }
def RatioMakesUptoCardSaid : Prop := Claim7.holds Tryd.pinned (.plain (OpenSpec.upto ratioMakesSpec)) ratioMakesUptoCard

/-- THE SECOND FORM's CARD OF 'pergolalaw2.RatioOrder'. -/
def ratioOrderUptoCard : Claim7 := { stood := { row := ratioOrderUptoRow, standIns := [], harness := (true, "59809f3e1549d4f568f852ccf1b2e93c587261b9280541bfe02b80e992a06706"), looks := true }, kinds := [], alts := [], laidByText := true, laidKinds := [.data, .data, .data], laidTests := true, laidLooks := .later }
def RatioOrderUptoCardSaid : Prop := Claim7.holds Tryd.pinned (.plain (OpenSpec.upto ratioOrderSpec)) ratioOrderUptoCard

/-- THE SECOND FORM's CARD OF 'pergolalaw2.RatioScales'. -/
def ratioScalesUptoCard : Claim7 := { stood := { row := ratioScalesUptoRow, standIns := [], harness := (true, "59809f3e1549d4f568f852ccf1b2e93c587261b9280541bfe02b80e992a06706"), looks := true }, kinds := [], alts := [], laidByText := true, laidKinds := [.data, .data, .data], laidTests := true, laidLooks := .later }
def RatioScalesUptoCardSaid : Prop := Claim7.holds Tryd.pinned (.plain (OpenSpec.upto ratioScalesSpec)) ratioScalesUptoCard

/-- THE SECOND FORM's CARD OF 'pergolalaw2.RatioNears'. -/
def ratioNearsUptoCard : Claim7 := { stood := { row := ratioNearsUptoRow, standIns := [], harness := (true, "59809f3e1549d4f568f852ccf1b2e93c587261b9280541bfe02b80e992a06706"), looks := true }, kinds := [], alts := [], laidByText := true, laidKinds := [.data, .data, .data], laidTests := true, laidLooks := .later }
def RatioNearsUptoCardSaid : Prop := Claim7.holds Tryd.pinned (.plain (OpenSpec.upto ratioNearsSpec)) ratioNearsUptoCard

/-- THE SECOND FORM's CARD OF 'pergolalaw2.RatioMins'. -/
def ratioMinsUptoCard : Claim7 := { stood := { row := ratioMinsUptoRow, standIns := [], harness := (true, "59809f3e1549d4f568f852ccf1b2e93c587261b9280541bfe02b80e992a06706"), looks := true }, kinds := [], alts := [], laidByText := true, laidKinds := [.data, .data, .data], laidTests := true, laidLooks := .later }
def RatioMinsUptoCardSaid : Prop := Claim7.holds Tryd.pinned (.plain (OpenSpec.upto ratioMinsSpec)) ratioMinsUptoCard

/-- THE SECOND FORM's CARD OF 'pergolalaw2.RatioCompares'. -/
def ratioComparesUptoCard : Claim7 := { stood := { row := ratioComparesUptoRow, standIns := [], harness := (true, "59809f3e1549d4f568f852ccf1b2e93c587261b9280541bfe02b80e992a06706"), looks := true }, kinds := [], alts := [], laidByText := true, laidKinds := [.data, .data, .data], laidTests := true, laidLooks := .later }
def RatioComparesUptoCardSaid : Prop := Claim7.holds Tryd.pinned (.plain (OpenSpec.upto ratioComparesSpec)) ratioComparesUptoCard

/-- THE SECOND FORM's CARD OF 'pergolalaw2.RatioWhole'. -/
def ratioWholeUptoCard : Claim7 := { stood := { row := ratioWholeUptoRow, standIns := [], harness := (true, "59809f3e1549d4f568f852ccf1b2e93c587261b9280541bfe02b80e992a06706"), looks := true }, kinds := [], alts := [], laidByText := true, laidKinds := [.data, .data, .data], laidTests := true, laidLooks := .later }
def RatioWholeUptoCardSaid : Prop := Claim7.holds Tryd.pinned (.plain (OpenSpec.upto ratioWholeSpec)) ratioWholeUptoCard
end Rows
end Go.Proofs.YthamagnlpndnoaaDoor
