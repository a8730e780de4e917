/- corbellaw17.ArrayNil answers true at every input. -/
import Derived.Test.YthpapfgdjdjcfaaGreatDoorCbShG3
import Derived.Test.YthpapfgdjdjcfaaGreatDoorTie
import Derived.Test.YthpapfgdjdjcfaaGreatDoorCards
import Derived.ProofKit
import Derived.OpenShut
import Derived.LaidMore
import Derived.Lay
import Derived.Lib.LaidTab
import Derived.SevenTiedAt
import Derived.Stop.Joined
set_option linter.unusedVariables false
set_option linter.unusedSimpArgs false
namespace Go.Cb.Sh
open Go.Cb

theorem yes_some {m : Option (V × H)} (h : yes m = true) : ∃ h', m = some (.b true, h') := by
  unfold yes at h
  split at h
  · exact ⟨_, rfl⟩
  · cases h

theorem nil_true (kind z : Int) : yes (F_corbellaw17_ArrayNil 100000 (Ph 20) [.i .i64 kind, .i .i64 z] hNil) = true := by kernel_rfl
end Go.Cb.Sh
