/-
  DERIVED. GIVEN WITH THE SEED: THE CARDS: each row of YtpmnghobcciiaaaDoorRows.lean that lists a variable, with what it lists TIED to the program's text (the seventh form; the later family's looks); each row that meets fmt, with fmt's text TOLD by the authors' own Lean function (tested against real Go, not proved from fmt's source: count such statements apart). THE CARD IS WHAT COUNTS. Prove the row's statement (the work); the ties are given (YtpmnghobcciiaaaDoorTie.lean); close each card by the builder's one call (the guide's Derived/Test/ToyasCard.lean, 'card_holds'). Laid BY PROGRAM, IN A SANDBOX (cutbox-door.mjs). By AI agents, Wed Nov 11 2026. No macro, syntax, notation, axiom, sorry.
-/
import Derived.Test.YtpmnghobcciiaaaDoorRows
import GoSem.ClaimSeven
namespace Go.Proofs.YtpmnghobcciiaaaDoor
namespace Rows

/-- THE TIED CARD OF 'pergolalaw1.WideSquares'. -/
def wideSquaresCard : Claim7 := { stood := { row := wideSquaresRow, standIns := [], harness := (true, "4a14bf82196382be670ee67696ed6504ac63f053d7b56463f2dc3046ea5a8924"), looks := false }, kinds := [], alts := [], laidByText := true, laidKinds := [.data, .data, .data], laidTests := true, laidLooks := .later }
def WideSquaresCardSaid : Prop := Claim7.holds Tryd.pinned (.plain (OpenSpec.ofChange wideSquaresSpec)) wideSquaresCard

/-- THE TIED CARD OF 'pergolalaw1.WideOver'. -/
def wideOverCard : Claim7 := { stood := { row := wideOverRow, standIns := [], harness := (true, "4a14bf82196382be670ee67696ed6504ac63f053d7b56463f2dc3046ea5a8924"), looks := false }, kinds := [], alts := [], laidByText := true, laidKinds := [.data, .data, .data], laidTests := true, laidLooks := .later }
def WideOverCardSaid : Prop := Claim7.holds Tryd.pinned (.plain (OpenSpec.ofChange wideOverSpec)) wideOverCard

/-- THE TIED CARD OF 'pergolalaw1.WideOrder'. -/
def wideOrderCard : Claim7 := { stood := { row := wideOrderRow, standIns := [], harness := (true, "4a14bf82196382be670ee67696ed6504ac63f053d7b56463f2dc3046ea5a8924"), looks := false }, kinds := [], alts := [], laidByText := true, laidKinds := [.data, .data, .data], laidTests := true, laidLooks := .later }
def WideOrderCardSaid : Prop := Claim7.holds Tryd.pinned (.plain (OpenSpec.ofChange wideOrderSpec)) wideOrderCard

/-- THE TIED CARD OF 'pergolalaw1.WideAdds'. -/
def wideAddsCard : Claim7 := { stood := { row := wideAddsRow, standIns := [], harness := (true, "4a14bf82196382be670ee67696ed6504ac63f053d7b56463f2dc3046ea5a8924"), looks := false }, kinds := [], alts := [], laidByText := true, laidKinds := [.data, .data, .data], laidTests := true, laidLooks := .later }
def WideAddsCardSaid : Prop := Claim7.holds Tryd.pinned (.plain (OpenSpec.ofChange wideAddsSpec)) wideAddsCard

/-- THE TIED CARD OF 'pergolalaw1.WideBack'. -/
def wideBackCard : Claim7 := { stood := { row := wideBackRow, standIns := [], harness := (true, "4a14bf82196382be670ee67696ed6504ac63f053d7b56463f2dc3046ea5a8924"), looks := false }, kinds := [], alts := [], laidByText := true, laidKinds := [.data, .data, .data], laidTests := true, laidLooks := .later }
def WideBackCardSaid : Prop := Claim7.holds Tryd.pinned (.plain (OpenSpec.ofChange wideBackSpec)) wideBackCard

/-- THE TIED CARD OF 'pergolalaw1.WideTimes'. -/
def wideTimesCard : Claim7 := { stood := { row := wideTimesRow, standIns := [], harness := (true, "4a14bf82196382be670ee67696ed6504ac63f053d7b56463f2dc3046ea5a8924"), looks := false }, kinds := [], alts := [], laidByText := true, laidKinds := [.data, .data, .data], laidTests := true, laidLooks := .later }
def WideTimesCardSaid : Prop := Claim7.holds Tryd.pinned (.plain (OpenSpec.ofChange wideTimesSpec)) wideTimesCard

/-- THE TIED CARD OF 'pergolalaw1.WideTexts'. -/
def wideTextsCard : Claim7 := { stood := { row := wideTextsRow, standIns := [], harness := (true, "4a14bf82196382be670ee67696ed6504ac63f053d7b56463f2dc3046ea5a8924"), looks := false }, kinds := [], alts := [], laidByText := true, laidKinds := [.data, .data, .data], laidTests := true, laidLooks := .later }
def WideTextsCardSaid : Prop := Claim7.holds Tryd.pinned (.plain (OpenSpec.ofChange wideTextsSpec)) wideTextsCard

/-- THE TIED CARD OF 'pergolalaw1.WideDigits'. -/
def wideDigitsCard : Claim7 := { stood := { row := wideDigitsRow, standIns := [], harness := (true, "4a14bf82196382be670ee67696ed6504ac63f053d7b56463f2dc3046ea5a8924"), looks := false }, kinds := [], alts := [], laidByText := true, laidKinds := [.data, .data, .data], laidTests := true, laidLooks := .later }
def WideDigitsCardSaid : Prop := Claim7.holds Tryd.pinned (.plain (OpenSpec.ofChange wideDigitsSpec)) wideDigitsCard

/-- THE SECOND FORM's CARD OF 'pergolalaw1.WideSquares'. -/
def wideSquaresUptoCard : Claim7 := { stood := { row := wideSquaresUptoRow, standIns := [], harness := (true, "4a14bf82196382be670ee67696ed6504ac63f053d7b56463f2dc3046ea5a8924"), looks := false }, kinds := [], alts := [], laidByText := true, laidKinds := [.data, .data, .data], laidTests := true, laidLooks := .later }
def WideSquaresUptoCardSaid : Prop := Claim7.holds Tryd.pinned (.plain (OpenSpec.upto wideSquaresSpec)) wideSquaresUptoCard

/-- THE SECOND FORM's CARD OF 'pergolalaw1.WideOver'. -/
def wideOverUptoCard : Claim7 := { stood := { row := wideOverUptoRow, standIns := [], harness := (true, "4a14bf82196382be670ee67696ed6504ac63f053d7b56463f2dc3046ea5a8924"), looks := false }, kinds := [], alts := [], laidByText := true, laidKinds := [.data, .data, .data], laidTests := true, laidLooks := .later }
def WideOverUptoCardSaid : Prop := Claim7.holds Tryd.pinned (.plain (OpenSpec.upto wideOverSpec)) wideOverUptoCard

/-- THE SECOND FORM's CARD OF 'pergolalaw1.WideOrder'. -/
def wideOrderUptoCard : Claim7 := { stood := { row := wideOrderUptoRow, standIns := [], harness := (true, "4a14bf82196382be670ee67696ed6504ac63f053d7b56463f2dc3046ea5a8924"), looks := false }, kinds := [], alts := [], laidByText := true, laidKinds := [.data, .data, .data], laidTests := true, laidLooks := .later }
def WideOrderUptoCardSaid : Prop := Claim7.holds Tryd.pinned (.plain (OpenSpec.upto wideOrderSpec)) wideOrderUptoCard

/-- THE SECOND FORM's CARD OF 'pergolalaw1.WideAdds'. -/
def wideAddsUptoCard : Claim7 := { stood := { row := wideAddsUptoRow, standIns := [], harness := (true, "4a14bf82196382be670ee67696ed6504ac63f053d7b56463f2dc3046ea5a8924"), looks := false }, kinds := [], alts := [], laidByText := true, laidKinds := [.data, .data, .data], laidTests := true, laidLooks := .later }
def WideAddsUptoCardSaid : Prop := Claim7.holds Tryd.pinned (.plain (OpenSpec.upto wideAddsSpec)) wideAddsUptoCard

/-- THE SECOND FORM's CARD OF 'pergolalaw1.WideBack'. -/
def wideBackUptoCard : Claim7 := { stood := { row := wideBackUptoRow, standIns := [], harness := (true, "4a14bf82196382be670ee67696ed6504ac63f053d7b56463f2dc3046ea5a8924"), looks := false }, kinds := [], alts := [], laidByText := true, laidKinds := [.data, .data, .data], laidTests := true, laidLooks := .later }
def WideBackUptoCardSaid : Prop := Claim7.holds Tryd.pinned (.plain (OpenSpec.upto wideBackSpec)) wideBackUptoCard

/-- THE SECOND FORM's CARD OF 'pergolalaw1.WideTimes'. -/
def wideTimesUptoCard : Claim7 := { stood := { row := wideTimesUptoRow, standIns := [], harness := (true, "4a14bf82196382be670ee67696ed6504ac63f053d7b56463f2dc3046ea5a8924"), looks := false }, kinds := [], alts := [], laidByText := true, laidKinds := [.data, .data, .data], laidTests := true, laidLooks := .later }
def WideTimesUptoCardSaid : Prop := Claim7.holds Tryd.pinned (.plain (OpenSpec.upto wideTimesSpec)) wideTimesUptoCard

/-- THE SECOND FORM's CARD OF 'pergolalaw1.WideTexts'. -/
def wideTextsUptoCard : Claim7 := { stood := { row := wideTextsUptoRow, standIns := [], harness := (true, "4a14bf82196382be670ee67696ed6504ac63f053d7b56463f2dc3046ea5a8924"), looks := false }, kinds := [], alts := [], laidByText := true, laidKinds := [.data, .data, .data], laidTests := true, laidLooks := .later }
def WideTextsUptoCardSaid : Prop := Claim7.holds Tryd.pinned (.plain (OpenSpec.upto wideTextsSpec)) wideTextsUptoCard

/-- THE SECOND FORM's CARD OF 'pergolalaw1.WideDigits'. -/
def wideDigitsUptoCard : Claim7 := { stood := { row := wideDigitsUptoRow, standIns := [], harness := (true, "4a14bf82196382be670ee67696ed6504ac63f053d7b56463f2dc3046ea5a8924"), looks := false }, kinds := [], alts := [], laidByText := true, laidKinds := [.data, .data, .data], laidTests := true, laidLooks := .later }
def WideDigitsUptoCardSaid : Prop := Claim7.holds Tryd.pinned (.plain (OpenSpec.upto wideDigitsSpec)) wideDigitsUptoCard
end Rows
end Go.Proofs.YtpmnghobcciiaaaDoor
