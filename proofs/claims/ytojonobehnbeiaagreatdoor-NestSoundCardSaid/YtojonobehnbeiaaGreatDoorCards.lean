/-
  DERIVED. GIVEN WITH THE SEED: THE CARDS: each row of YtojonobehnbeiaaGreatDoorRows.lean that lists a variable, with what it lists TIED to the program's text (the seventh form; the later family's looks); each row that meets fmt, with fmt's text TOLD by the authors' own Lean function (tested against real Go, not proved from fmt's source: count such statements apart). THE CARD IS WHAT COUNTS. Prove the row's statement (the work); the ties are given (YtojonobehnbeiaaGreatDoorTie.lean); close each card by the builder's one call (the guide's Derived/Test/ToyasCard.lean, 'card_holds'). Laid BY PROGRAM, IN A SANDBOX (cutbox-door.mjs). By AI agents, Wed Nov 11 2026. No macro, syntax, notation, axiom, sorry.
-/
import Derived.Test.YtojonobehnbeiaaGreatDoorRows
import GoSem.ClaimSeven
namespace Go.Proofs.YtojonobehnbeiaaGreatDoor
namespace Rows

/-- THE TIED CARD OF 'kingpostlaw45.NestMore'. -/
def nestMoreCard : Claim7 := { stood := { row := nestMoreRow, standIns := [], harness := (true, "b8721a374d0fd6c9a626ad86dc16468ad632f59b9a48be391038dfd577eaabb6"), looks := false }, kinds := [], alts := [], laidByText := true, laidKinds := [.data, .data, .data], laidTests := true, laidLooks := .later }
def NestMoreCardSaid : Prop := Claim7.holds Tryz.pinned (.plain (OpenSpec.ofChange nestMoreSpec)) nestMoreCard

/-- THE TIED CARD OF 'kingpostlaw45.NestScales'. -/
def nestScalesCard : Claim7 := { stood := { row := nestScalesRow, standIns := [], harness := (true, "b8721a374d0fd6c9a626ad86dc16468ad632f59b9a48be391038dfd577eaabb6"), looks := false }, kinds := [], alts := [], laidByText := true, laidKinds := [.data, .data, .data], laidTests := true, laidLooks := .later }
def NestScalesCardSaid : Prop := Claim7.holds Tryz.pinned (.plain (OpenSpec.ofChange nestScalesSpec)) nestScalesCard

/-- THE TIED CARD OF 'kingpostlaw45.NestWaste'. -/
def nestWasteCard : Claim7 := { stood := { row := nestWasteRow, standIns := [], harness := (true, "b8721a374d0fd6c9a626ad86dc16468ad632f59b9a48be391038dfd577eaabb6"), looks := false }, kinds := [], alts := [], laidByText := true, laidKinds := [.data, .data, .data], laidTests := true, laidLooks := .later }
def NestWasteCardSaid : Prop := Claim7.holds Tryz.pinned (.plain (OpenSpec.ofChange nestWasteSpec)) nestWasteCard

/-- THE TIED CARD OF 'kingpostlaw45.NestChecks'. -/
def nestChecksCard : Claim7 := { stood := { row := nestChecksRow, standIns := [], harness := (true, "b8721a374d0fd6c9a626ad86dc16468ad632f59b9a48be391038dfd577eaabb6"), looks := false }, kinds := [], alts := [], laidByText := true, laidKinds := [.data, .data, .data], laidTests := true, laidLooks := .later }
def NestChecksCardSaid : Prop := Claim7.holds Tryz.pinned (.plain (OpenSpec.ofChange nestChecksSpec)) nestChecksCard

/-- THE TIED CARD OF 'kingpostlaw45.NestSound'. -/
def nestSoundCard : Claim7 := { stood := { row := nestSoundRow, standIns := [], harness := (true, "b8721a374d0fd6c9a626ad86dc16468ad632f59b9a48be391038dfd577eaabb6"), looks := false }, kinds := [], alts := [], laidByText := true, laidKinds := [.data, .data, .data], laidTests := true, laidLooks := .later }
def NestSoundCardSaid : Prop := Claim7.holds Tryz.pinned (.plain (OpenSpec.ofChange nestSoundSpec)) nestSoundCard

/-- THE SECOND FORM's CARD OF 'kingpostlaw45.NestMore'. -/
def nestMoreUptoCard : Claim7 := { stood := { row := nestMoreUptoRow, standIns := [], harness := (true, "b8721a374d0fd6c9a626ad86dc16468ad632f59b9a48be391038dfd577eaabb6"), looks := false }, kinds := [], alts := [], laidByText := true, laidKinds := [.data, .data, .data], laidTests := true, laidLooks := .later }
def NestMoreUptoCardSaid : Prop := Claim7.holds Tryz.pinned (.plain (OpenSpec.upto nestMoreSpec)) nestMoreUptoCard

/-- THE SECOND FORM's CARD OF 'kingpostlaw45.NestScales'. -/
def nestScalesUptoCard : Claim7 := { stood := { row := nestScalesUptoRow, standIns := [], harness := (true, "b8721a374d0fd6c9a626ad86dc16468ad632f59b9a48be391038dfd577eaabb6"), looks := false }, kinds := [], alts := [], laidByText := true, laidKinds := [.data, .data, .data], laidTests := true, laidLooks := .later }
def NestScalesUptoCardSaid : Prop := Claim7.holds Tryz.pinned (.plain (OpenSpec.upto nestScalesSpec)) nestScalesUptoCard

/-- THE SECOND FORM's CARD OF 'kingpostlaw45.NestWaste'. -/
def nestWasteUptoCard : Claim7 := { stood := { row := nestWasteUptoRow, standIns := [], harness := (true, "b8721a374d0fd6c9a626ad86dc16468ad632f59b9a48be391038dfd577eaabb6"), looks := false }, kinds := [], alts := [], laidByText := true, laidKinds := [.data, .data, .data], laidTests := true, laidLooks := .later }
def NestWasteUptoCardSaid : Prop := Claim7.holds Tryz.pinned (.plain (OpenSpec.upto nestWasteSpec)) nestWasteUptoCard

/-- THE SECOND FORM's CARD OF 'kingpostlaw45.NestChecks'. -/
def nestChecksUptoCard : Claim7 := { stood := { row := nestChecksUptoRow, standIns := [], harness := (true, "b8721a374d0fd6c9a626ad86dc16468ad632f59b9a48be391038dfd577eaabb6"), looks := false }, kinds := [], alts := [], laidByText := true, laidKinds := [.data, .data, .data], laidTests := true, laidLooks := .later }
def NestChecksUptoCardSaid : Prop := Claim7.holds Tryz.pinned (.plain (OpenSpec.upto nestChecksSpec)) nestChecksUptoCard

/-- THE SECOND FORM's CARD OF 'kingpostlaw45.NestSound'. -/
def nestSoundUptoCard : Claim7 := { stood := { row := nestSoundUptoRow, standIns := [], harness := (true, "b8721a374d0fd6c9a626ad86dc16468ad632f59b9a48be391038dfd577eaabb6"), looks := false }, kinds := [], alts := [], laidByText := true, laidKinds := [.data, .data, .data], laidTests := true, laidLooks := .later }
def NestSoundUptoCardSaid : Prop := Claim7.holds Tryz.pinned (.plain (OpenSpec.upto nestSoundSpec)) nestSoundUptoCard
end Rows
end Go.Proofs.YtojonobehnbeiaaGreatDoor
