/-
  DERIVED. GIVEN WITH THE SEED: THE CARDS: each row of YtinnclmkhedgeaaGreatDoorRows.lean that lists a variable, with what it lists TIED to the program's text (the seventh form; the later family's looks); each row that meets fmt, with fmt's text TOLD by the authors' own Lean function (tested against real Go, not proved from fmt's source: count such statements apart). THE CARD IS WHAT COUNTS. Prove the row's statement (the work); the ties are given (YtinnclmkhedgeaaGreatDoorTie.lean); close each card by the builder's one call (the guide's Derived/Test/ToyasCard.lean, 'card_holds'). Laid BY PROGRAM, IN A SANDBOX (cutbox-door.mjs). By AI agents, Wed Nov 11 2026. No macro, syntax, notation, axiom, sorry.
-/
import Derived.Test.YtinnclmkhedgeaaGreatDoorRows
import GoSem.ClaimSeven
namespace Go.Proofs.YtinnclmkhedgeaaGreatDoor
namespace Rows

/-- THE TIED CARD OF 'kingpostlaw08.SlopeExchanges'. -/
def slopeExchangesCard : Claim7 := { stood := { row := slopeExchangesRow, standIns := [], harness := (true, "ffa00691b0cae16b3f5fa24be9f071bb81db6807d72b7516118f80b197b03e15"), looks := true }, kinds := [], alts := [], laidByText := true, laidKinds := [.data, .data, .data, .data, .sentinel, .sentinel, .data, .pinned], laidTests := true, laidLooks := .later }
def SlopeExchangesCardSaid : Prop := Claim7.holds Tryz.pinned (.plain (OpenSpec.ofChange slopeExchangesSpec)) slopeExchangesCard

/-- THE TIED CARD OF 'kingpostlaw08.SlopePitches'. -/
def slopePitchesCard : Claim7 := { stood := { row := slopePitchesRow, standIns := [], harness := (true, "ffa00691b0cae16b3f5fa24be9f071bb81db6807d72b7516118f80b197b03e15"), looks := true }, kinds := [], alts := [], laidByText := true, laidKinds := [.data, .data, .data, .data, .sentinel, .sentinel, .data, .pinned], laidTests := true, laidLooks := .later }
def SlopePitchesCardSaid : Prop := Claim7.holds Tryz.pinned (.plain (OpenSpec.ofChange slopePitchesSpec)) slopePitchesCard

/-- THE TIED CARD OF 'kingpostlaw08.SlopeOrder'. -/
def slopeOrderCard : Claim7 := { stood := { row := slopeOrderRow, standIns := [], harness := (true, "ffa00691b0cae16b3f5fa24be9f071bb81db6807d72b7516118f80b197b03e15"), looks := true }, kinds := [], alts := [], laidByText := true, laidKinds := [.data, .data, .data, .data, .sentinel, .sentinel, .data, .pinned], laidTests := true, laidLooks := .later }
def SlopeOrderCardSaid : Prop := Claim7.holds Tryz.pinned (.plain (OpenSpec.ofChange slopeOrderSpec)) slopeOrderCard

/-- THE TIED CARD OF 'kingpostlaw08.SlopeLines'. -/
def slopeLinesCard : Claim7 := { stood := { row := slopeLinesRow, standIns := [], harness := (true, "ffa00691b0cae16b3f5fa24be9f071bb81db6807d72b7516118f80b197b03e15"), looks := true }, kinds := [], alts := [], laidByText := true, laidKinds := [.data, .data, .data, .data, .sentinel, .sentinel, .data, .pinned], laidTests := true, laidLooks := .later }
def SlopeLinesCardSaid : Prop := Claim7.holds Tryz.pinned (.plain (OpenSpec.ofChange slopeLinesSpec)) slopeLinesCard

/-- THE TIED CARD OF 'kingpostlaw08.SlopeDihedrals'. -/
def slopeDihedralsCard : Claim7 := { stood := { row := slopeDihedralsRow, standIns := [], harness := (true, "ffa00691b0cae16b3f5fa24be9f071bb81db6807d72b7516118f80b197b03e15"), looks := true }, kinds := [], alts := [], laidByText := true, laidKinds := [.data, .data, .data, .data, .sentinel, .sentinel, .data, .pinned], laidTests := true, laidLooks := .later }
def SlopeDihedralsCardSaid : Prop := Claim7.holds Tryz.pinned (.plain (OpenSpec.ofChange slopeDihedralsSpec)) slopeDihedralsCard

/-- THE TIED CARD OF 'kingpostlaw08.SlopeInverses'. -/
def slopeInversesCard : Claim7 := { stood := { row := slopeInversesRow, standIns := [], harness := (true, "ffa00691b0cae16b3f5fa24be9f071bb81db6807d72b7516118f80b197b03e15"), looks := true }, kinds := [], alts := [], laidByText := true, laidKinds := [.data, .data, .data, .data, .sentinel, .sentinel, .data, .pinned], laidTests := true, laidLooks := .later }
def SlopeInversesCardSaid : Prop := Claim7.holds Tryz.pinned (.plain (OpenSpec.ofChange slopeInversesSpec)) slopeInversesCard

/-- THE TIED CARD OF 'kingpostlaw08.SlopeLengths'. -/
def slopeLengthsCard : Claim7 := { stood := { row := slopeLengthsRow, standIns := [], harness := (true, "ffa00691b0cae16b3f5fa24be9f071bb81db6807d72b7516118f80b197b03e15"), looks := true }, kinds := [], alts := [], laidByText := true, laidKinds := [.data, .data, .data, .data, .sentinel, .sentinel, .data, .pinned], laidTests := true, laidLooks := .later }
def SlopeLengthsCardSaid : Prop := Claim7.holds Tryz.pinned (.plain (OpenSpec.ofChange slopeLengthsSpec)) slopeLengthsCard

/-- THE TIED CARD OF 'kingpostlaw08.SlopeFlatter'. -/
def slopeFlatterCard : Claim7 := { stood := { row := slopeFlatterRow, standIns := [], harness := (true, "ffa00691b0cae16b3f5fa24be9f071bb81db6807d72b7516118f80b197b03e15"), looks := true }, kinds := [], alts := [], laidByText := true, laidKinds := [.data, .data, .data, .data, .sentinel, .sentinel, .data, .data, .pinned], laidTests := true, laidLooks := .later }
def SlopeFlatterCardSaid : Prop := Claim7.holds Tryz.pinned (.plain (OpenSpec.ofChange slopeFlatterSpec)) slopeFlatterCard

/-- THE TIED CARD OF 'kingpostlaw08.SlopeFactors'. -/
def slopeFactorsCard : Claim7 := { stood := { row := slopeFactorsRow, standIns := [], harness := (true, "ffa00691b0cae16b3f5fa24be9f071bb81db6807d72b7516118f80b197b03e15"), looks := true }, kinds := [], alts := [], laidByText := true, laidKinds := [.data, .data, .data, .data, .sentinel, .sentinel, .data, .data, .pinned], laidTests := true, laidLooks := .later }
def SlopeFactorsCardSaid : Prop := Claim7.holds Tryz.pinned (.plain (OpenSpec.ofChange slopeFactorsSpec)) slopeFactorsCard

/-- THE SECOND FORM's CARD OF 'kingpostlaw08.SlopeExchanges'. -/
def slopeExchangesUptoCard : Claim7 := { stood := { row := slopeExchangesUptoRow, standIns := [], harness := (true, "ffa00691b0cae16b3f5fa24be9f071bb81db6807d72b7516118f80b197b03e15"), looks := true }, kinds := [], alts := [], laidByText := true, laidKinds := [.data, .data, .data, .data, .sentinel, .sentinel, .data, .pinned], laidTests := true, laidLooks := .later }
def SlopeExchangesUptoCardSaid : Prop := Claim7.holds Tryz.pinned (.plain (OpenSpec.upto slopeExchangesSpec)) slopeExchangesUptoCard

/-- THE SECOND FORM's CARD OF 'kingpostlaw08.SlopePitches'. -/
def slopePitchesUptoCard : Claim7 := { stood := { row := slopePitchesUptoRow, standIns := [], harness := (true, "ffa00691b0cae16b3f5fa24be9f071bb81db6807d72b7516118f80b197b03e15"), looks := true }, kinds := [], alts := [], laidByText := true, laidKinds := [.data, .data, .data, .data, .sentinel, .sentinel, .data, .pinned], laidTests := true, laidLooks := .later }
def SlopePitchesUptoCardSaid : Prop := Claim7.holds Tryz.pinned (.plain (OpenSpec.upto slopePitchesSpec)) slopePitchesUptoCard

/-- THE SECOND FORM's CARD OF 'kingpostlaw08.SlopeOrder'. -/
def slopeOrderUptoCard : Claim7 := { stood := { row := slopeOrderUptoRow, standIns := [], harness := (true, "ffa00691b0cae16b3f5fa24be9f071bb81db6807d72b7516118f80b197b03e15"), looks := true }, kinds := [], alts := [], laidByText := true, laidKinds := [.data, .data, .data, .data, .sentinel, .sentinel, .data, .pinned], laidTests := true, laidLooks := .later }
def SlopeOrderUptoCardSaid : Prop := Claim7.holds Tryz.pinned (.plain (OpenSpec.upto slopeOrderSpec)) slopeOrderUptoCard

/-- THE SECOND FORM's CARD OF 'kingpostlaw08.SlopeLines'. -/
def slopeLinesUptoCard : Claim7 := { stood := { row := slopeLinesUptoRow, standIns := [], harness := (true, "ffa00691b0cae16b3f5fa24be9f071bb81db6807d72b7516118f80b197b03e15"), looks := true }, kinds := [], alts := [], laidByText := true, laidKinds := [.data, .data, .data, .data, .sentinel, .sentinel, .data, .pinned], laidTests := true, laidLooks := .later }
def SlopeLinesUptoCardSaid : Prop := Claim7.holds Tryz.pinned (.plain (OpenSpec.upto slopeLinesSpec)) slopeLinesUptoCard

/-- THE SECOND FORM's CARD OF 'kingpostlaw08.SlopeDihedrals'. -/
def slopeDihedralsUptoCard : Claim7 := { stood := { row := slopeDihedralsUptoRow, standIns := [], harness := (true, "ffa00691b0cae16b3f5fa24be9f071bb81db6807d72b7516118f80b197b03e15"), looks := true }, kinds := [], alts := [], laidByText := true, laidKinds := [.data, .data, .data, .data, .sentinel, .sentinel, .data, .pinned], laidTests := true, laidLooks := .later }
def SlopeDihedralsUptoCardSaid : Prop := Claim7.holds Tryz.pinned (.plain (OpenSpec.upto slopeDihedralsSpec)) slopeDihedralsUptoCard

/-- THE SECOND FORM's CARD OF 'kingpostlaw08.SlopeInverses'. -/
def slopeInversesUptoCard : Claim7 := { stood := { row := slopeInversesUptoRow, standIns := [], harness := (true, "ffa00691b0cae16b3f5fa24be9f071bb81db6807d72b7516118f80b197b03e15"), looks := true }, kinds := [], alts := [], laidByText := true, laidKinds := [.data, .data, .data, .data, .sentinel, .sentinel, .data, .pinned], laidTests := true, laidLooks := .later }
def SlopeInversesUptoCardSaid : Prop := Claim7.holds Tryz.pinned (.plain (OpenSpec.upto slopeInversesSpec)) slopeInversesUptoCard

/-- THE SECOND FORM's CARD OF 'kingpostlaw08.SlopeLengths'. -/
def slopeLengthsUptoCard : Claim7 := { stood := { row := slopeLengthsUptoRow, standIns := [], harness := (true, "ffa00691b0cae16b3f5fa24be9f071bb81db6807d72b7516118f80b197b03e15"), looks := true }, kinds := [], alts := [], laidByText := true, laidKinds := [.data, .data, .data, .data, .sentinel, .sentinel, .data, .pinned], laidTests := true, laidLooks := .later }
def SlopeLengthsUptoCardSaid : Prop := Claim7.holds Tryz.pinned (.plain (OpenSpec.upto slopeLengthsSpec)) slopeLengthsUptoCard

/-- THE SECOND FORM's CARD OF 'kingpostlaw08.SlopeFlatter'. -/
def slopeFlatterUptoCard : Claim7 := { stood := { row := slopeFlatterUptoRow, standIns := [], harness := (true, "ffa00691b0cae16b3f5fa24be9f071bb81db6807d72b7516118f80b197b03e15"), looks := true }, kinds := [], alts := [], laidByText := true, laidKinds := [.data, .data, .data, .data, .sentinel, .sentinel, .data, .data, .pinned], laidTests := true, laidLooks := .later }
def SlopeFlatterUptoCardSaid : Prop := Claim7.holds Tryz.pinned (.plain (OpenSpec.upto slopeFlatterSpec)) slopeFlatterUptoCard

/-- THE SECOND FORM's CARD OF 'kingpostlaw08.SlopeFactors'. -/
def slopeFactorsUptoCard : Claim7 := { stood := { row := slopeFactorsUptoRow, standIns := [], harness := (true, "ffa00691b0cae16b3f5fa24be9f071bb81db6807d72b7516118f80b197b03e15"), looks := true }, kinds := [], alts := [], laidByText := true, laidKinds := [.data, .data, .data, .data, .sentinel, .sentinel, .data, .data, .pinned], laidTests := true, laidLooks := .later }
def SlopeFactorsUptoCardSaid : Prop := Claim7.holds Tryz.pinned (.plain (OpenSpec.upto slopeFactorsSpec)) slopeFactorsUptoCard
end Rows
end Go.Proofs.YtinnclmkhedgeaaGreatDoor
