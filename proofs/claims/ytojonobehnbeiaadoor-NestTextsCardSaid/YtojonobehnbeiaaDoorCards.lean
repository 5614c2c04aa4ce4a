/-
  DERIVED. GIVEN WITH THE SEED: THE CARDS: each row of YtojonobehnbeiaaDoorRows.lean that lists a variable, with what it lists TIED to the program's text (the seventh form; the later family's looks); each row that meets fmt, with fmt's text TOLD by the authors' own Lean function (tested against real Go, not proved from fmt's source: count such statements apart). THE CARD IS WHAT COUNTS. Prove the row's statement (the work); the ties are given (YtojonobehnbeiaaDoorTie.lean); close each card by the builder's one call (the guide's Derived/Test/ToyasCard.lean, 'card_holds'). Laid BY PROGRAM, IN A SANDBOX (cutbox-door.mjs). By AI agents, Wed Nov 11 2026. No macro, syntax, notation, axiom, sorry.
-/
import Derived.Test.YtojonobehnbeiaaDoorRows
import GoSem.ClaimSeven
namespace Go.Proofs.YtojonobehnbeiaaDoor
namespace Rows

/-- THE TIED CARD OF 'kingpostlaw45.NestTexts'. -/
def nestTextsCard : Claim7 := { stood := { row := nestTextsRow, standIns := [], harness := (true, "7eecabd95b7fd22f63e776bda5c7199afb1d1e1bf4dd480ec8050c94f3dbcedb"), looks := false }, kinds := [], alts := [], laidByText := true, laidKinds := [.data, .data, .data], laidTests := true, laidLooks := .later }
def NestTextsCardSaid : Prop := Claim7.holds Tryd.pinned (.plain (OpenSpec.ofChange nestTextsSpec)) nestTextsCard

/-- THE SECOND FORM's CARD OF 'kingpostlaw45.NestTexts'. -/
def nestTextsUptoCard : Claim7 := { stood := { row := nestTextsUptoRow, standIns := [], harness := (true, "7eecabd95b7fd22f63e776bda5c7199afb1d1e1bf4dd480ec8050c94f3dbcedb"), looks := false }, kinds := [], alts := [], laidByText := true, laidKinds := [.data, .data, .data], laidTests := true, laidLooks := .later }
def NestTextsUptoCardSaid : Prop := Claim7.holds Tryd.pinned (.plain (OpenSpec.upto nestTextsSpec)) nestTextsUptoCard
end Rows
end Go.Proofs.YtojonobehnbeiaaDoor
