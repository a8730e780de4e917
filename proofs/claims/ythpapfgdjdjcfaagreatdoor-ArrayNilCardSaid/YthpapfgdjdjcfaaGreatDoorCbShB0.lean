/- PRINTED BY PROGRAM: the numbers of the functions. -/
import Derived.Test.YthpapfgdjdjcfaaGreatDoorCbU
set_option linter.unusedVariables false
set_option linter.unusedSimpArgs false
namespace Go.Cb.ShB
open Go.Cb

def id_nums_Put : Nat := 251
def id_crc_Sum : Nat := 252
def id_crc_step : Nat := 291
def id_nums_Get : Nat := 301
end Go.Cb.ShB
