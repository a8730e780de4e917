/- The closed facts of the row of ArrayNil. -/
import Derived.Test.YthpapfgdjdjcfaaGreatDoorTie
import Derived.Test.YthpapfgdjdjcfaaGreatDoorCards
import Derived.ProofKit
import Derived.KernelRfl
set_option linter.unusedVariables false
set_option linter.unusedSimpArgs false
namespace Go.Proofs.YthpapfgdjdjcfaaGreatDoor
open Go.RowKit
set_option maxHeartbeats 0 in
theorem arrayNil_facts : joinedFacts Tryz.prog 3 Tryz.f3 Rows.arrayNilSpec Rows.arrayNilRow = true := by
  unfold joinedFacts
  simp only [Bool.and_eq_true]
  repeat' (refine And.intro ?_ ?_)
  all_goals (as_aux_lemma => kernel_rfl)
end Go.Proofs.YthpapfgdjdjcfaaGreatDoor
