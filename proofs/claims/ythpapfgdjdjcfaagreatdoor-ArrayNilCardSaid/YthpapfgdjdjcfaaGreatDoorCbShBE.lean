/- PRINTED BY PROGRAM: each function is what its text comes to. -/
import Derived.Test.YthpapfgdjdjcfaaGreatDoorCbShB1
import Derived.Test.YthpapfgdjdjcfaaGreatDoorProg
import Derived.KernelRfl
set_option linter.unusedVariables false
set_option linter.unusedSimpArgs false
namespace Go.Cb.ShB
open Go.Cb

theorem E_crc_Sum (N : Nat) (Φ : Calls') : evFn Go.Proofs.Tryz.prog (tab_crc_Sum N Φ) N id_crc_Sum 1 an_crc_Sum = F_crc_Sum N Φ := by kernel_rfl
theorem E_nums_Put (N : Nat) (Φ : Calls') : evFn Go.Proofs.Tryz.prog (tab_nums_Put N Φ) N id_nums_Put 2 an_nums_Put = F_nums_Put N Φ := by kernel_rfl
theorem E_nums_Get (N : Nat) (Φ : Calls') : evFn Go.Proofs.Tryz.prog (tab_nums_Get N Φ) N id_nums_Get 1 an_nums_Get = F_nums_Get N Φ := by kernel_rfl
end Go.Cb.ShB
