/-
  DERIVED. GIVEN WITH THE SEED: THE CARDS: each row of YtdkpceodckdcfaaGreatDoorRows.lean that lists a variable, with what it lists TIED to the program's text (the seventh form; the later family's looks); each row that meets fmt, with fmt's text TOLD by the authors' own Lean function (tested against real Go, not proved from fmt's source: count such statements apart). THE CARD IS WHAT COUNTS. Prove the row's statement (the work); the ties are given (YtdkpceodckdcfaaGreatDoorTie.lean); close each card by the builder's one call (the guide's Derived/Test/ToyasCard.lean, 'card_holds'). Laid BY PROGRAM, IN A SANDBOX (cutbox-door.mjs). By AI agents, Wed Nov 11 2026. No macro, syntax, notation, axiom, sorry.
-/
import Derived.Test.YtdkpceodckdcfaaGreatDoorRows
import GoSem.ClaimSeven
namespace Go.Proofs.YtdkpceodckdcfaaGreatDoor
namespace Rows

/-- THE TIED CARD OF 'kingpostlaw53.SpanEasier'. -/
def spanEasierCard : Claim7 := { stood := { row := spanEasierRow, standIns := [], harness := (true, "8a2f75dd5afde1f74cac23039974369e9249a0e1bab9eaa6c4b18e35713b0eec"), looks := true }, kinds := [], alts := [], laidByText := true, laidKinds := [.data, .data, .data, .data, .sentinel, .sentinel, .pinned], laidTests := true, laidLooks := .later }
def SpanEasierCardSaid : Prop := Claim7.holds Tryz.pinned (.plain (OpenSpec.ofChange spanEasierSpec)) spanEasierCard

/-- THE TIED CARD OF 'kingpostlaw53.SpanGreatest'. -/
def spanGreatestCard : Claim7 := { stood := { row := spanGreatestRow, standIns := [], harness := (true, "8a2f75dd5afde1f74cac23039974369e9249a0e1bab9eaa6c4b18e35713b0eec"), looks := true }, kinds := [], alts := [], laidByText := true, laidKinds := [.data, .data, .data, .data, .sentinel, .sentinel, .pinned], laidTests := true, laidLooks := .later }
def SpanGreatestCardSaid : Prop := Claim7.holds Tryz.pinned (.plain (OpenSpec.ofChange spanGreatestSpec)) spanGreatestCard

/-- THE TIED CARD OF 'kingpostlaw53.SpanLeast'. -/
def spanLeastCard : Claim7 := { stood := { row := spanLeastRow, standIns := [], harness := (true, "8a2f75dd5afde1f74cac23039974369e9249a0e1bab9eaa6c4b18e35713b0eec"), looks := true }, kinds := [], alts := [], laidByText := true, laidKinds := [.data, .data, .data, .data, .sentinel, .sentinel, .pinned], laidTests := true, laidLooks := .later }
def SpanLeastCardSaid : Prop := Claim7.holds Tryz.pinned (.plain (OpenSpec.ofChange spanLeastSpec)) spanLeastCard

/-- THE TIED CARD OF 'kingpostlaw53.SpanMonotone'. -/
def spanMonotoneCard : Claim7 := { stood := { row := spanMonotoneRow, standIns := [], harness := (true, "8a2f75dd5afde1f74cac23039974369e9249a0e1bab9eaa6c4b18e35713b0eec"), looks := true }, kinds := [], alts := [], laidByText := true, laidKinds := [.data, .data, .data, .data, .sentinel, .sentinel, .pinned], laidTests := true, laidLooks := .later }
def SpanMonotoneCardSaid : Prop := Claim7.holds Tryz.pinned (.plain (OpenSpec.ofChange spanMonotoneSpec)) spanMonotoneCard

/-- THE TIED CARD OF 'kingpostlaw53.SpanTexts'. -/
def spanTextsCard : Claim7 := { stood := { row := spanTextsRow, standIns := [], harness := (true, "8a2f75dd5afde1f74cac23039974369e9249a0e1bab9eaa6c4b18e35713b0eec"), looks := true }, kinds := [], alts := [], laidByText := true, laidKinds := [.data, .data, .data, .data, .sentinel, .sentinel, .pinned], laidTests := true, laidLooks := .later }
def SpanTextsCardSaid : Prop := Claim7.holds Tryz.pinned (.plain (OpenSpec.ofChange spanTextsSpec)) spanTextsCard

/-- THE TIED CARD OF 'kingpostlaw53.SpanTables'. -/
def spanTablesCard : Claim7 := { stood := { row := spanTablesRow, standIns := [], harness := (true, "8a2f75dd5afde1f74cac23039974369e9249a0e1bab9eaa6c4b18e35713b0eec"), looks := true }, kinds := [], alts := [], laidByText := true, laidKinds := [.data, .data, .data, .data, .sentinel, .sentinel, .pinned], laidTests := true, laidLooks := .later }
def SpanTablesCardSaid : Prop := Claim7.holds Tryz.pinned (.plain (OpenSpec.ofChange spanTablesSpec)) spanTablesCard

/-- THE TIED CARD OF 'kingpostlaw53.SpanFinds'. -/
def spanFindsCard : Claim7 := { stood := { row := spanFindsRow, standIns := [], harness := (true, "8a2f75dd5afde1f74cac23039974369e9249a0e1bab9eaa6c4b18e35713b0eec"), looks := true }, kinds := [], alts := [], laidByText := true, laidKinds := [.data, .data, .data, .data, .sentinel, .sentinel, .pinned], laidTests := true, laidLooks := .later }
def SpanFindsCardSaid : Prop := Claim7.holds Tryz.pinned (.plain (OpenSpec.ofChange spanFindsSpec)) spanFindsCard

/-- THE TIED CARD OF 'kingpostlaw53.SpanRafters'. -/
def spanRaftersCard : Claim7 := { stood := { row := spanRaftersRow, standIns := [], harness := (true, "8a2f75dd5afde1f74cac23039974369e9249a0e1bab9eaa6c4b18e35713b0eec"), looks := true }, kinds := [], alts := [], laidByText := true, laidKinds := [.data, .data, .data, .data, .sentinel, .sentinel, .pinned], laidTests := true, laidLooks := .later }
def SpanRaftersCardSaid : Prop := Claim7.holds Tryz.pinned (.plain (OpenSpec.ofChange spanRaftersSpec)) spanRaftersCard

/-- THE SECOND FORM's CARD OF 'kingpostlaw53.SpanEasier'. -/
def spanEasierUptoCard : Claim7 := { stood := { row := spanEasierUptoRow, standIns := [], harness := (true, "8a2f75dd5afde1f74cac23039974369e9249a0e1bab9eaa6c4b18e35713b0eec"), looks := true }, kinds := [], alts := [], laidByText := true, laidKinds := [.data, .data, .data, .data, .sentinel, .sentinel, .pinned], laidTests := true, laidLooks := .later }
def SpanEasierUptoCardSaid : Prop := Claim7.holds Tryz.pinned (.plain (OpenSpec.upto spanEasierSpec)) spanEasierUptoCard

/-- THE SECOND FORM's CARD OF 'kingpostlaw53.SpanGreatest'. -/
def spanGreatestUptoCard : Claim7 := { stood := { row := spanGreatestUptoRow, standIns := [], harness := (true, "8a2f75dd5afde1f74cac23039974369e9249a0e1bab9eaa6c4b18e35713b0eec"), looks := true }, kinds := [], alts := [], laidByText := true, laidKinds := [.data, .data, .data, .data, .sentinel, .sentinel, .pinned], laidTests := true, laidLooks := .later }
def SpanGreatestUptoCardSaid : Prop := Claim7.holds Tryz.pinned (.plain (OpenSpec.upto spanGreatestSpec)) spanGreatestUptoCard

/-- THE SECOND FORM's CARD OF 'kingpostlaw53.SpanLeast'. -/
def spanLeastUptoCard : Claim7 := { stood := { row := spanLeastUptoRow, standIns := [], harness := (true, "8a2f75dd5afde1f74cac23039974369e9249a0e1bab9eaa6c4b18e35713b0eec"), looks := true }, kinds := [], alts := [], laidByText := true, laidKinds := [.data, .data, .data, .data, .sentinel, .sentinel, .pinned], laidTests := true, laidLooks := .later }
def SpanLeastUptoCardSaid : Prop := Claim7.holds Tryz.pinned (.plain (OpenSpec.upto spanLeastSpec)) spanLeastUptoCard

/-- THE SECOND FORM's CARD OF 'kingpostlaw53.SpanMonotone'. -/
def spanMonotoneUptoCard : Claim7 := { stood := { row := spanMonotoneUptoRow, standIns := [], harness := (true, "8a2f75dd5afde1f74cac23039974369e9249a0e1bab9eaa6c4b18e35713b0eec"), looks := true }, kinds := [], alts := [], laidByText := true, laidKinds := [.data, .data, .data, .data, .sentinel, .sentinel, .pinned], laidTests := true, laidLooks := .later }
def SpanMonotoneUptoCardSaid : Prop := Claim7.holds Tryz.pinned (.plain (OpenSpec.upto spanMonotoneSpec)) spanMonotoneUptoCard

/-- THE SECOND FORM's CARD OF 'kingpostlaw53.SpanTexts'. -/
def spanTextsUptoCard : Claim7 := { stood := { row := spanTextsUptoRow, standIns := [], harness := (true, "8a2f75dd5afde1f74cac23039974369e9249a0e1bab9eaa6c4b18e35713b0eec"), looks := true }, kinds := [], alts := [], laidByText := true, laidKinds := [.data, .data, .data, .data, .sentinel, .sentinel, .pinned], laidTests := true, laidLooks := .later }
def SpanTextsUptoCardSaid : Prop := Claim7.holds Tryz.pinned (.plain (OpenSpec.upto spanTextsSpec)) spanTextsUptoCard

/-- THE SECOND FORM's CARD OF 'kingpostlaw53.SpanTables'. -/
def spanTablesUptoCard : Claim7 := { stood := { row := spanTablesUptoRow, standIns := [], harness := (true, "8a2f75dd5afde1f74cac23039974369e9249a0e1bab9eaa6c4b18e35713b0eec"), looks := true }, kinds := [], alts := [], laidByText := true, laidKinds := [.data, .data, .data, .data, .sentinel, .sentinel, .pinned], laidTests := true, laidLooks := .later }
def SpanTablesUptoCardSaid : Prop := Claim7.holds Tryz.pinned (.plain (OpenSpec.upto spanTablesSpec)) spanTablesUptoCard

/-- THE SECOND FORM's CARD OF 'kingpostlaw53.SpanFinds'. -/
def spanFindsUptoCard : Claim7 := { stood := { row := spanFindsUptoRow, standIns := [], harness := (true, "8a2f75dd5afde1f74cac23039974369e9249a0e1bab9eaa6c4b18e35713b0eec"), looks := true }, kinds := [], alts := [], laidByText := true, laidKinds := [.data, .data, .data, .data, .sentinel, .sentinel, .pinned], laidTests := true, laidLooks := .later }
def SpanFindsUptoCardSaid : Prop := Claim7.holds Tryz.pinned (.plain (OpenSpec.upto spanFindsSpec)) spanFindsUptoCard

/-- THE SECOND FORM's CARD OF 'kingpostlaw53.SpanRafters'. -/
def spanRaftersUptoCard : Claim7 := { stood := { row := spanRaftersUptoRow, standIns := [], harness := (true, "8a2f75dd5afde1f74cac23039974369e9249a0e1bab9eaa6c4b18e35713b0eec"), looks := true }, kinds := [], alts := [], laidByText := true, laidKinds := [.data, .data, .data, .data, .sentinel, .sentinel, .pinned], laidTests := true, laidLooks := .later }
def SpanRaftersUptoCardSaid : Prop := Claim7.holds Tryz.pinned (.plain (OpenSpec.upto spanRaftersSpec)) spanRaftersUptoCard
end Rows
end Go.Proofs.YtdkpceodckdcfaaGreatDoor
