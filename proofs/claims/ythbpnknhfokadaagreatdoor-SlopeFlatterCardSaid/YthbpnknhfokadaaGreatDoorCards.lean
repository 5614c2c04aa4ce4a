/-
  DERIVED. GIVEN WITH THE SEED: THE CARDS: each row of YthbpnknhfokadaaGreatDoorRows.lean that lists a variable, with what it lists TIED to the program's text (the seventh form; the later family's looks); each row that meets fmt, with fmt's text TOLD by the authors' own Lean function (tested against real Go, not proved from fmt's source: count such statements apart). THE CARD IS WHAT COUNTS. Prove the row's statement (the work); the ties are given (YthbpnknhfokadaaGreatDoorTie.lean); close each card by the builder's one call (the guide's Derived/Test/ToyasCard.lean, 'card_holds'). Laid BY PROGRAM, IN A SANDBOX (cutbox-door.mjs). By AI agents, Wed Nov 11 2026. No macro, syntax, notation, axiom, sorry.
-/
import Derived.Test.YthbpnknhfokadaaGreatDoorRows
import GoSem.ClaimSeven
namespace Go.Proofs.YthbpnknhfokadaaGreatDoor
namespace Rows

/-- THE TIED CARD OF 'kingpostlaw04.SurdAdds'. -/
def surdAddsCard : Claim7 := { stood := { row := surdAddsRow, standIns := [], harness := (true, "9265a1cbaa21e4fbefcdf0cabb50816d2c66ba3d54caa5ac5f4a8b2e99a49846"), looks := true }, kinds := [], alts := [], laidByText := true, laidKinds := [.data, .data, .data, .data, .sentinel, .sentinel, .data, .data, .pinned], laidTests := true, laidLooks := .later }
def SurdAddsCardSaid : Prop := Claim7.holds Tryz.pinned (.plain (OpenSpec.ofChange surdAddsSpec)) surdAddsCard

/-- THE TIED CARD OF 'kingpostlaw04.SurdMultiplies'. -/
def surdMultipliesCard : Claim7 := { stood := { row := surdMultipliesRow, standIns := [], harness := (true, "9265a1cbaa21e4fbefcdf0cabb50816d2c66ba3d54caa5ac5f4a8b2e99a49846"), looks := true }, kinds := [], alts := [], laidByText := true, laidKinds := [.data, .data, .data, .data, .sentinel, .sentinel, .data, .data, .pinned], laidTests := true, laidLooks := .later }
def SurdMultipliesCardSaid : Prop := Claim7.holds Tryz.pinned (.plain (OpenSpec.ofChange surdMultipliesSpec)) surdMultipliesCard

/-- THE TIED CARD OF 'kingpostlaw04.SurdSigns'. -/
def surdSignsCard : Claim7 := { stood := { row := surdSignsRow, standIns := [], harness := (true, "9265a1cbaa21e4fbefcdf0cabb50816d2c66ba3d54caa5ac5f4a8b2e99a49846"), looks := true }, kinds := [], alts := [], laidByText := true, laidKinds := [.data, .data, .data, .data, .sentinel, .sentinel, .data, .data, .pinned], laidTests := true, laidLooks := .later }
def SurdSignsCardSaid : Prop := Claim7.holds Tryz.pinned (.plain (OpenSpec.ofChange surdSignsSpec)) surdSignsCard

/-- THE TIED CARD OF 'kingpostlaw04.SurdRoots'. -/
def surdRootsCard : Claim7 := { stood := { row := surdRootsRow, standIns := [], harness := (true, "9265a1cbaa21e4fbefcdf0cabb50816d2c66ba3d54caa5ac5f4a8b2e99a49846"), looks := true }, kinds := [], alts := [], laidByText := true, laidKinds := [.data, .data, .data, .data, .sentinel, .sentinel, .data, .data, .pinned], laidTests := true, laidLooks := .later }
def SurdRootsCardSaid : Prop := Claim7.holds Tryz.pinned (.plain (OpenSpec.ofChange surdRootsSpec)) surdRootsCard

/-- THE TIED CARD OF 'kingpostlaw04.SurdValues'. -/
def surdValuesCard : Claim7 := { stood := { row := surdValuesRow, standIns := [], harness := (true, "9265a1cbaa21e4fbefcdf0cabb50816d2c66ba3d54caa5ac5f4a8b2e99a49846"), looks := true }, kinds := [], alts := [], laidByText := true, laidKinds := [.data, .data, .data, .data, .sentinel, .sentinel, .data, .data, .pinned], laidTests := true, laidLooks := .later }
def SurdValuesCardSaid : Prop := Claim7.holds Tryz.pinned (.plain (OpenSpec.ofChange surdValuesSpec)) surdValuesCard

/-- THE TIED CARD OF 'kingpostlaw04.SurdConjugates'. -/
def surdConjugatesCard : Claim7 := { stood := { row := surdConjugatesRow, standIns := [], harness := (true, "9265a1cbaa21e4fbefcdf0cabb50816d2c66ba3d54caa5ac5f4a8b2e99a49846"), looks := true }, kinds := [], alts := [], laidByText := true, laidKinds := [.data, .data, .data, .data, .sentinel, .sentinel, .data, .data, .pinned], laidTests := true, laidLooks := .later }
def SurdConjugatesCardSaid : Prop := Claim7.holds Tryz.pinned (.plain (OpenSpec.ofChange surdConjugatesSpec)) surdConjugatesCard

/-- THE TIED CARD OF 'kingpostlaw08.SlopeFlatter'. -/
def slopeFlatterCard : Claim7 := { stood := { row := slopeFlatterRow, standIns := [], harness := (true, "9265a1cbaa21e4fbefcdf0cabb50816d2c66ba3d54caa5ac5f4a8b2e99a49846"), looks := true }, kinds := [], alts := [], laidByText := true, laidKinds := [.data, .data, .data, .data, .sentinel, .sentinel, .data, .data, .pinned], laidTests := true, laidLooks := .later }
def SlopeFlatterCardSaid : Prop := Claim7.holds Tryz.pinned (.plain (OpenSpec.ofChange slopeFlatterSpec)) slopeFlatterCard

/-- THE TIED CARD OF 'kingpostlaw08.SlopeFactors'. -/
def slopeFactorsCard : Claim7 := { stood := { row := slopeFactorsRow, standIns := [], harness := (true, "9265a1cbaa21e4fbefcdf0cabb50816d2c66ba3d54caa5ac5f4a8b2e99a49846"), looks := true }, kinds := [], alts := [], laidByText := true, laidKinds := [.data, .data, .data, .data, .sentinel, .sentinel, .data, .data, .pinned], laidTests := true, laidLooks := .later }
def SlopeFactorsCardSaid : Prop := Claim7.holds Tryz.pinned (.plain (OpenSpec.ofChange slopeFactorsSpec)) slopeFactorsCard

/-- THE SECOND FORM's CARD OF 'kingpostlaw04.SurdAdds'. -/
def surdAddsUptoCard : Claim7 := { stood := { row := surdAddsUptoRow, standIns := [], harness := (true, "9265a1cbaa21e4fbefcdf0cabb50816d2c66ba3d54caa5ac5f4a8b2e99a49846"), looks := true }, kinds := [], alts := [], laidByText := true, laidKinds := [.data, .data, .data, .data, .sentinel, .sentinel, .data, .data, .pinned], laidTests := true, laidLooks := .later }
def SurdAddsUptoCardSaid : Prop := Claim7.holds Tryz.pinned (.plain (OpenSpec.upto surdAddsSpec)) surdAddsUptoCard

/-- THE SECOND FORM's CARD OF 'kingpostlaw04.SurdMultiplies'. -/
def surdMultipliesUptoCard : Claim7 := { stood := { row := surdMultipliesUptoRow, standIns := [], harness := (true, "9265a1cbaa21e4fbefcdf0cabb50816d2c66ba3d54caa5ac5f4a8b2e99a49846"), looks := true }, kinds := [], alts := [], laidByText := true, laidKinds := [.data, .data, .data, .data, .sentinel, .sentinel, .data, .data, .pinned], laidTests := true, laidLooks := .later }
def SurdMultipliesUptoCardSaid : Prop := Claim7.holds Tryz.pinned (.plain (OpenSpec.upto surdMultipliesSpec)) surdMultipliesUptoCard

/-- THE SECOND FORM's CARD OF 'kingpostlaw04.SurdSigns'. -/
def surdSignsUptoCard : Claim7 := { stood := { row := surdSignsUptoRow, standIns := [], harness := (true, "9265a1cbaa21e4fbefcdf0cabb50816d2c66ba3d54caa5ac5f4a8b2e99a49846"), looks := true }, kinds := [], alts := [], laidByText := true, laidKinds := [.data, .data, .data, .data, .sentinel, .sentinel, .data, .data, .pinned], laidTests := true, laidLooks := .later }
def SurdSignsUptoCardSaid : Prop := Claim7.holds Tryz.pinned (.plain (OpenSpec.upto surdSignsSpec)) surdSignsUptoCard

/-- THE SECOND FORM's CARD OF 'kingpostlaw04.SurdRoots'. -/
def surdRootsUptoCard : Claim7 := { stood := { row := surdRootsUptoRow, standIns := [], harness := (true, "9265a1cbaa21e4fbefcdf0cabb50816d2c66ba3d54caa5ac5f4a8b2e99a49846"), looks := true }, kinds := [], alts := [], laidByText := true, laidKinds := [.data, .data, .data, .data, .sentinel, .sentinel, .data, .data, .pinned], laidTests := true, laidLooks := .later }
def SurdRootsUptoCardSaid : Prop := Claim7.holds Tryz.pinned (.plain (OpenSpec.upto surdRootsSpec)) surdRootsUptoCard

/-- THE SECOND FORM's CARD OF 'kingpostlaw04.SurdValues'. -/
def surdValuesUptoCard : Claim7 := { stood := { row := surdValuesUptoRow, standIns := [], harness := (true, "9265a1cbaa21e4fbefcdf0cabb50816d2c66ba3d54caa5ac5f4a8b2e99a49846"), looks := true }, kinds := [], alts := [], laidByText := true, laidKinds := [.data, .data, .data, .data, .sentinel, .sentinel, .data, .data, .pinned], laidTests := true, laidLooks := .later }
def SurdValuesUptoCardSaid : Prop := Claim7.holds Tryz.pinned (.plain (OpenSpec.upto surdValuesSpec)) surdValuesUptoCard

/-- THE SECOND FORM's CARD OF 'kingpostlaw04.SurdConjugates'. -/
def surdConjugatesUptoCard : Claim7 := { stood := { row := surdConjugatesUptoRow, standIns := [], harness := (true, "9265a1cbaa21e4fbefcdf0cabb50816d2c66ba3d54caa5ac5f4a8b2e99a49846"), looks := true }, kinds := [], alts := [], laidByText := true, laidKinds := [.data, .data, .data, .data, .sentinel, .sentinel, .data, .data, .pinned], laidTests := true, laidLooks := .later }
def SurdConjugatesUptoCardSaid : Prop := Claim7.holds Tryz.pinned (.plain (OpenSpec.upto surdConjugatesSpec)) surdConjugatesUptoCard

/-- THE SECOND FORM's CARD OF 'kingpostlaw08.SlopeFlatter'. -/
def slopeFlatterUptoCard : Claim7 := { stood := { row := slopeFlatterUptoRow, standIns := [], harness := (true, "9265a1cbaa21e4fbefcdf0cabb50816d2c66ba3d54caa5ac5f4a8b2e99a49846"), looks := true }, kinds := [], alts := [], laidByText := true, laidKinds := [.data, .data, .data, .data, .sentinel, .sentinel, .data, .data, .pinned], laidTests := true, laidLooks := .later }
def SlopeFlatterUptoCardSaid : Prop := Claim7.holds Tryz.pinned (.plain (OpenSpec.upto slopeFlatterSpec)) slopeFlatterUptoCard

/-- THE SECOND FORM's CARD OF 'kingpostlaw08.SlopeFactors'. -/
def slopeFactorsUptoCard : Claim7 := { stood := { row := slopeFactorsUptoRow, standIns := [], harness := (true, "9265a1cbaa21e4fbefcdf0cabb50816d2c66ba3d54caa5ac5f4a8b2e99a49846"), looks := true }, kinds := [], alts := [], laidByText := true, laidKinds := [.data, .data, .data, .data, .sentinel, .sentinel, .data, .data, .pinned], laidTests := true, laidLooks := .later }
def SlopeFactorsUptoCardSaid : Prop := Claim7.holds Tryz.pinned (.plain (OpenSpec.upto slopeFactorsSpec)) slopeFactorsUptoCard
end Rows
end Go.Proofs.YthbpnknhfokadaaGreatDoor
