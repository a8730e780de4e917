/-
  DERIVED. GIVEN WITH THE SEED: THE CARDS: each row of YthpapfgdjdjcfaaGreatDoorRows.lean that lists a variable, with what it lists TIED to the program's text (the seventh form; the later family's looks); each row that meets fmt, with fmt's text TOLD by the authors' own Lean function (tested against real Go, not proved from fmt's source: count such statements apart). THE CARD IS WHAT COUNTS. Prove the row's statement (the work); the ties are given (YthpapfgdjdjcfaaGreatDoorTie.lean); close each card by the builder's one call (the guide's Derived/Test/ToyasCard.lean, 'card_holds'). Laid BY PROGRAM, IN A SANDBOX (cutbox-door.mjs). By AI agents, Wed Nov 11 2026. No macro, syntax, notation, axiom, sorry.
-/
import Derived.Test.YthpapfgdjdjcfaaGreatDoorRows
import GoSem.ClaimSeven
namespace Go.Proofs.YthpapfgdjdjcfaaGreatDoor
namespace Rows

/-- THE TIED CARD OF 'corbellaw17.ArrayNil'. -/
def arrayNilCard : Claim7 := { stood := { row := arrayNilRow, standIns := [], harness := (true, "ad52b9e727a7238da44213dbca2ff164ed65595c9a0bb107bd01fab538b6e627"), looks := false }, kinds := [], alts := [], laidByText := true, laidKinds := [.data, .data, .pinned], laidTests := true, laidLooks := .later }
def ArrayNilCardSaid : Prop := Claim7.holds Tryz.pinned (.plain (OpenSpec.ofChange arrayNilSpec)) arrayNilCard

/-- THE TIED CARD OF 'corbellaw22.VolumeOut'. -/
def volumeOutCard : Claim7 := { stood := { row := volumeOutRow, standIns := [], harness := (true, "ad52b9e727a7238da44213dbca2ff164ed65595c9a0bb107bd01fab538b6e627"), looks := false }, kinds := [], alts := [], laidByText := true, laidKinds := [.data, .data, .pinned], laidTests := true, laidLooks := .later }
def VolumeOutCardSaid : Prop := Claim7.holds Tryz.pinned (.plain (OpenSpec.ofChange volumeOutSpec)) volumeOutCard

/-- THE SECOND FORM's CARD OF 'corbellaw17.ArrayNil'. -/
def arrayNilUptoCard : Claim7 := { stood := { row := arrayNilUptoRow, standIns := [], harness := (true, "ad52b9e727a7238da44213dbca2ff164ed65595c9a0bb107bd01fab538b6e627"), looks := false }, kinds := [], alts := [], laidByText := true, laidKinds := [.data, .data, .pinned], laidTests := true, laidLooks := .later }
def ArrayNilUptoCardSaid : Prop := Claim7.holds Tryz.pinned (.plain (OpenSpec.upto arrayNilSpec)) arrayNilUptoCard

/-- THE SECOND FORM's CARD OF 'corbellaw22.VolumeOut'. -/
def volumeOutUptoCard : Claim7 := { stood := { row := volumeOutUptoRow, standIns := [], harness := (true, "ad52b9e727a7238da44213dbca2ff164ed65595c9a0bb107bd01fab538b6e627"), looks := false }, kinds := [], alts := [], laidByText := true, laidKinds := [.data, .data, .pinned], laidTests := true, laidLooks := .later }
def VolumeOutUptoCardSaid : Prop := Claim7.holds Tryz.pinned (.plain (OpenSpec.upto volumeOutSpec)) volumeOutUptoCard
end Rows
end Go.Proofs.YthpapfgdjdjcfaaGreatDoor
