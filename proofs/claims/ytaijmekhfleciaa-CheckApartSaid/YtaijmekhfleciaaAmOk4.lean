/- Entries of the table are what their functions compile to, part 4. Printed by mktab.py. -/
import Derived.Test.YtaijmekhfleciaaAmTab
import Derived.Test.YtaijmekhfleciaaAmTr
import Derived.Test.YtaijmekhfleciaaProg
set_option maxRecDepth 1000000
namespace Go.Proofs.Ytaijmekhfleciaa.Am
open Go
theorem c6 : compF Go.Proofs.Try.prog 6 = some m6 := by with_unfolding_all rfl
theorem c10 : compF Go.Proofs.Try.prog 10 = some m10 := by with_unfolding_all rfl
theorem c14 : compF Go.Proofs.Try.prog 14 = some m14 := by with_unfolding_all rfl
theorem c18 : compF Go.Proofs.Try.prog 18 = some m18 := by with_unfolding_all rfl
theorem c22 : compF Go.Proofs.Try.prog 22 = some m22 := by with_unfolding_all rfl
theorem c26 : compF Go.Proofs.Try.prog 26 = some m26 := by with_unfolding_all rfl
theorem c30 : compF Go.Proofs.Try.prog 30 = some m30 := by with_unfolding_all rfl
theorem c34 : compF Go.Proofs.Try.prog 34 = some m34 := by with_unfolding_all rfl
theorem c38 : compF Go.Proofs.Try.prog 38 = some m38 := by with_unfolding_all rfl
theorem c42 : compF Go.Proofs.Try.prog 42 = some m42 := by with_unfolding_all rfl
theorem c46 : compF Go.Proofs.Try.prog 46 = some m46 := by with_unfolding_all rfl
theorem c50 : compF Go.Proofs.Try.prog 50 = some m50 := by with_unfolding_all rfl
theorem c54 : compF Go.Proofs.Try.prog 54 = some m54 := by with_unfolding_all rfl
theorem c58 : compF Go.Proofs.Try.prog 58 = some m58 := by with_unfolding_all rfl
theorem c62 : compF Go.Proofs.Try.prog 62 = some m62 := by with_unfolding_all rfl
theorem c66 : compF Go.Proofs.Try.prog 66 = some m66 := by with_unfolding_all rfl
theorem c70 : compF Go.Proofs.Try.prog 70 = some m70 := by with_unfolding_all rfl
theorem c74 : compF Go.Proofs.Try.prog 74 = some m74 := by with_unfolding_all rfl
theorem c78 : compF Go.Proofs.Try.prog 78 = some m78 := by with_unfolding_all rfl
theorem c82 : compF Go.Proofs.Try.prog 82 = some m82 := by with_unfolding_all rfl
theorem c86 : compF Go.Proofs.Try.prog 86 = some m86 := by with_unfolding_all rfl
theorem c90 : compF Go.Proofs.Try.prog 90 = some m90 := by with_unfolding_all rfl
theorem c94 : compF Go.Proofs.Try.prog 94 = some m94 := by with_unfolding_all rfl
theorem c98 : compF Go.Proofs.Try.prog 98 = some m98 := by with_unfolding_all rfl
theorem c102 : compF Go.Proofs.Try.prog 102 = some m102 := by with_unfolding_all rfl
theorem c106 : compF Go.Proofs.Try.prog 106 = some m106 := by with_unfolding_all rfl
theorem c110 : compF Go.Proofs.Try.prog 110 = some m110 := by with_unfolding_all rfl
theorem c114 : compF Go.Proofs.Try.prog 114 = some m114 := by with_unfolding_all rfl
theorem c118 : compF Go.Proofs.Try.prog 118 = some m118 := by with_unfolding_all rfl
theorem c122 : compF Go.Proofs.Try.prog 122 = some m122 := by with_unfolding_all rfl
theorem c126 : compF Go.Proofs.Try.prog 126 = some m126 := by with_unfolding_all rfl
theorem c130 : compF Go.Proofs.Try.prog 130 = some m130 := by with_unfolding_all rfl
theorem c134 : compF Go.Proofs.Try.prog 134 = some m134 := by with_unfolding_all rfl
theorem c138 : compF Go.Proofs.Try.prog 138 = some m138 := by with_unfolding_all rfl
theorem c142 : compF Go.Proofs.Try.prog 142 = some m142 := by with_unfolding_all rfl
theorem c146 : compF Go.Proofs.Try.prog 146 = some m146 := by with_unfolding_all rfl
theorem c150 : compF Go.Proofs.Try.prog 150 = some m150 := by with_unfolding_all rfl
theorem c154 : compF Go.Proofs.Try.prog 154 = some m154 := by with_unfolding_all rfl
theorem c158 : compF Go.Proofs.Try.prog 158 = some m158 := by with_unfolding_all rfl
theorem c162 : compF Go.Proofs.Try.prog 162 = some m162 := by with_unfolding_all rfl
theorem c166 : compF Go.Proofs.Try.prog 166 = some m166 := by with_unfolding_all rfl
theorem c170 : compF Go.Proofs.Try.prog 170 = some m170 := by with_unfolding_all rfl
end Go.Proofs.Ytaijmekhfleciaa.Am
