/-
  DERIVED. GIVEN WITH THE SEED: THE CARDS: each row of YtgpbohfbhfbelaaGreatDoorRows.lean that lists a variable, with what it lists TIED to the program's text (the seventh form; the later family's looks); each row that meets fmt, with fmt's text TOLD by the authors' own Lean function (tested against real Go, not proved from fmt's source: count such statements apart). THE CARD IS WHAT COUNTS. Prove the row's statement (the work); the ties are given (YtgpbohfbhfbelaaGreatDoorTie.lean); close each card by the builder's one call (the guide's Derived/Test/ToyasCard.lean, 'card_holds'). Laid BY PROGRAM, IN A SANDBOX (cutbox-door.mjs). By AI agents, Wed Nov 11 2026. No macro, syntax, notation, axiom, sorry.
-/
import Derived.Test.YtgpbohfbhfbelaaGreatDoorRows
import GoSem.ClaimSeven
namespace Go.Proofs.YtgpbohfbhfbelaaGreatDoor
namespace Rows

/-- THE TIED CARD OF 'kingpostlaw05.EnclosureMeets'. -/
def enclosureMeetsCard : Claim7 := { stood := { row := enclosureMeetsRow, standIns := [], harness := (true, "bd2edcde0534ede484d95b2febc012fe4d5f88ffd7803f9313ba3fccb220b14d"), looks := true }, kinds := [], alts := [], laidByText := true, laidKinds := [.data, .data, .data, .data, .sentinel, .sentinel, .data, .data, .pinned], laidTests := true, laidLooks := .later }
def EnclosureMeetsCardSaid : Prop := Claim7.holds Tryz.pinned (.plain (OpenSpec.ofChange enclosureMeetsSpec)) enclosureMeetsCard

/-- THE TIED CARD OF 'kingpostlaw05.EnclosureRoots'. -/
def enclosureRootsCard : Claim7 := { stood := { row := enclosureRootsRow, standIns := [], harness := (true, "bd2edcde0534ede484d95b2febc012fe4d5f88ffd7803f9313ba3fccb220b14d"), looks := true }, kinds := [], alts := [], laidByText := true, laidKinds := [.data, .data, .data, .data, .sentinel, .sentinel, .data, .data, .pinned], laidTests := true, laidLooks := .later }
def EnclosureRootsCardSaid : Prop := Claim7.holds Tryz.pinned (.plain (OpenSpec.ofChange enclosureRootsSpec)) enclosureRootsCard

/-- THE TIED CARD OF 'kingpostlaw06.RoundingShares'. -/
def roundingSharesCard : Claim7 := { stood := { row := roundingSharesRow, standIns := [], harness := (true, "bd2edcde0534ede484d95b2febc012fe4d5f88ffd7803f9313ba3fccb220b14d"), looks := true }, kinds := [], alts := [], laidByText := true, laidKinds := [.data, .data, .data, .data, .sentinel, .sentinel, .data, .data, .pinned], laidTests := true, laidLooks := .later }
def RoundingSharesCardSaid : Prop := Claim7.holds Tryz.pinned (.plain (OpenSpec.ofChange roundingSharesSpec)) roundingSharesCard

/-- THE SECOND FORM's CARD OF 'kingpostlaw05.EnclosureMeets'. -/
def enclosureMeetsUptoCard : Claim7 := { stood := { row := enclosureMeetsUptoRow, standIns := [], harness := (true, "bd2edcde0534ede484d95b2febc012fe4d5f88ffd7803f9313ba3fccb220b14d"), looks := true }, kinds := [], alts := [], laidByText := true, laidKinds := [.data, .data, .data, .data, .sentinel, .sentinel, .data, .data, .pinned], laidTests := true, laidLooks := .later }
def EnclosureMeetsUptoCardSaid : Prop := Claim7.holds Tryz.pinned (.plain (OpenSpec.upto enclosureMeetsSpec)) enclosureMeetsUptoCard

/-- THE SECOND FORM's CARD OF 'kingpostlaw05.EnclosureRoots'. -/
def enclosureRootsUptoCard : Claim7 := { stood := { row := enclosureRootsUptoRow, standIns := [], harness := (true, "bd2edcde0534ede484d95b2febc012fe4d5f88ffd7803f9313ba3fccb220b14d"), looks := true }, kinds := [], alts := [], laidByText := true, laidKinds := [.data, .data, .data, .data, .sentinel, .sentinel, .data, .data, .pinned], laidTests := true, laidLooks := .later }
def EnclosureRootsUptoCardSaid : Prop := Claim7.holds Tryz.pinned (.plain (OpenSpec.upto enclosureRootsSpec)) enclosureRootsUptoCard

/-- THE SECOND FORM's CARD OF 'kingpostlaw06.RoundingShares'. -/
def roundingSharesUptoCard : Claim7 := { stood := { row := roundingSharesUptoRow, standIns := [], harness := (true, "bd2edcde0534ede484d95b2febc012fe4d5f88ffd7803f9313ba3fccb220b14d"), looks := true }, kinds := [], alts := [], laidByText := true, laidKinds := [.data, .data, .data, .data, .sentinel, .sentinel, .data, .data, .pinned], laidTests := true, laidLooks := .later }
def RoundingSharesUptoCardSaid : Prop := Claim7.holds Tryz.pinned (.plain (OpenSpec.upto roundingSharesSpec)) roundingSharesUptoCard
end Rows
end Go.Proofs.YtgpbohfbhfbelaaGreatDoor
