/- Entries of the table are what their functions compile to, part 1. Printed by mktab.py. -/
import Derived.Test.YtaijmekhfleciaaAmTab
import Derived.Test.YtaijmekhfleciaaAmTr
import Derived.Test.YtaijmekhfleciaaProg
set_option maxRecDepth 1000000
namespace Go.Proofs.Ytaijmekhfleciaa.Am
open Go
theorem c3 : compF Go.Proofs.Try.prog 3 = some m3 := by with_unfolding_all rfl
theorem c7 : compF Go.Proofs.Try.prog 7 = some m7 := by with_unfolding_all rfl
theorem c11 : compF Go.Proofs.Try.prog 11 = some m11 := by with_unfolding_all rfl
theorem c15 : compF Go.Proofs.Try.prog 15 = some m15 := by with_unfolding_all rfl
theorem c19 : compF Go.Proofs.Try.prog 19 = some m19 := by with_unfolding_all rfl
theorem c23 : compF Go.Proofs.Try.prog 23 = some m23 := by with_unfolding_all rfl
theorem c27 : compF Go.Proofs.Try.prog 27 = some m27 := by with_unfolding_all rfl
theorem c31 : compF Go.Proofs.Try.prog 31 = some m31 := by with_unfolding_all rfl
theorem c35 : compF Go.Proofs.Try.prog 35 = some m35 := by with_unfolding_all rfl
theorem c39 : compF Go.Proofs.Try.prog 39 = some m39 := by with_unfolding_all rfl
theorem c43 : compF Go.Proofs.Try.prog 43 = some m43 := by with_unfolding_all rfl
theorem c47 : compF Go.Proofs.Try.prog 47 = some m47 := by with_unfolding_all rfl
theorem c51 : compF Go.Proofs.Try.prog 51 = some m51 := by with_unfolding_all rfl
theorem c55 : compF Go.Proofs.Try.prog 55 = some m55 := by with_unfolding_all rfl
theorem c59 : compF Go.Proofs.Try.prog 59 = some m59 := by with_unfolding_all rfl
theorem c63 : compF Go.Proofs.Try.prog 63 = some m63 := by with_unfolding_all rfl
theorem c67 : compF Go.Proofs.Try.prog 67 = some m67 := by with_unfolding_all rfl
theorem c71 : compF Go.Proofs.Try.prog 71 = some m71 := by with_unfolding_all rfl
theorem c75 : compF Go.Proofs.Try.prog 75 = some m75 := by with_unfolding_all rfl
theorem c79 : compF Go.Proofs.Try.prog 79 = some m79 := by with_unfolding_all rfl
theorem c83 : compF Go.Proofs.Try.prog 83 = some m83 := by with_unfolding_all rfl
theorem c87 : compF Go.Proofs.Try.prog 87 = some m87 := by with_unfolding_all rfl
theorem c91 : compF Go.Proofs.Try.prog 91 = some m91 := by with_unfolding_all rfl
theorem c95 : compF Go.Proofs.Try.prog 95 = some m95 := by with_unfolding_all rfl
theorem c99 : compF Go.Proofs.Try.prog 99 = some m99 := by with_unfolding_all rfl
theorem c103 : compF Go.Proofs.Try.prog 103 = some m103 := by with_unfolding_all rfl
theorem c107 : compF Go.Proofs.Try.prog 107 = some m107 := by with_unfolding_all rfl
theorem c111 : compF Go.Proofs.Try.prog 111 = some m111 := by with_unfolding_all rfl
theorem c115 : compF Go.Proofs.Try.prog 115 = some m115 := by with_unfolding_all rfl
theorem c119 : compF Go.Proofs.Try.prog 119 = some m119 := by with_unfolding_all rfl
theorem c123 : compF Go.Proofs.Try.prog 123 = some m123 := by with_unfolding_all rfl
theorem c127 : compF Go.Proofs.Try.prog 127 = some m127 := by with_unfolding_all rfl
theorem c131 : compF Go.Proofs.Try.prog 131 = some m131 := by with_unfolding_all rfl
theorem c135 : compF Go.Proofs.Try.prog 135 = some m135 := by with_unfolding_all rfl
theorem c139 : compF Go.Proofs.Try.prog 139 = some m139 := by with_unfolding_all rfl
theorem c143 : compF Go.Proofs.Try.prog 143 = some m143 := by with_unfolding_all rfl
theorem c147 : compF Go.Proofs.Try.prog 147 = some m147 := by with_unfolding_all rfl
theorem c151 : compF Go.Proofs.Try.prog 151 = some m151 := by with_unfolding_all rfl
theorem c155 : compF Go.Proofs.Try.prog 155 = some m155 := by with_unfolding_all rfl
theorem c159 : compF Go.Proofs.Try.prog 159 = some m159 := by with_unfolding_all rfl
theorem c163 : compF Go.Proofs.Try.prog 163 = some m163 := by with_unfolding_all rfl
theorem c167 : compF Go.Proofs.Try.prog 167 = some m167 := by with_unfolding_all rfl
theorem c171 : compF Go.Proofs.Try.prog 171 = some m171 := by with_unfolding_all rfl
end Go.Proofs.Ytaijmekhfleciaa.Am
