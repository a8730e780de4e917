/- A part of the proof. -/
import Derived.Test.YthpapfgdjdjcfaaGreatDoorCbZ
import Derived.Test.YthpapfgdjdjcfaaGreatDoorCbShB0
set_option linter.unusedVariables false
set_option linter.unusedSimpArgs false
namespace Go.Cb.ShB
open Go.Cb
def F_crc_step (_ : Nat) (_ : Calls') : List V → M V := crcStepM
end Go.Cb.ShB
