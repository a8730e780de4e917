/- A part of the proof. -/
import Derived.Test.YthpapfgdjdjcfaaGreatDoorCbZ
import Derived.Test.YthpapfgdjdjcfaaGreatDoorCbSh0
set_option linter.unusedVariables false
set_option linter.unusedSimpArgs false
namespace Go.Cb.Sh
open Go.Cb
def F_crc_step (_ : Nat) (_ : Calls') : List V → M V := crcStepM
def F_crc_Sum (_ : Nat) (_ : Calls') : List V → M V := crcSumM
def F_nums_Put (_ : Nat) (_ : Calls') : List V → M V := putM
def F_nums_Get (_ : Nat) (_ : Calls') : List V → M V := getM
def F_strings_Repeat (_ : Nat) (_ : Calls') : List V → M V := repeatM
def F_strings_Trim (_ : Nat) (_ : Calls') : List V → M V := trimM
def F_strings_Builder_copyCheck (_ : Nat) (_ : Calls') : List V → M V := copyCheckM 109
def F_strings_Builder_String (_ : Nat) (_ : Calls') : List V → M V := bstringM 109 5
def F_slices_AppendSeq_int_int (_ : Nat) (_ : Calls') : List V → M V := appendSeqM 304
def F_strings_Join (_ : Nat) (_ : Calls') : List V → M V := joinM
end Go.Cb.Sh
