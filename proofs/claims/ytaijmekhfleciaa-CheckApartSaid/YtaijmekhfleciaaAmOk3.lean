/- Entries of the table are what their functions compile to, part 3. Printed by mktab.py. -/
import Derived.Test.YtaijmekhfleciaaAmTab
import Derived.Test.YtaijmekhfleciaaAmTr
import Derived.Test.YtaijmekhfleciaaProg
set_option maxRecDepth 1000000
namespace Go.Proofs.Ytaijmekhfleciaa.Am
open Go
theorem c5 : compF Go.Proofs.Try.prog 5 = some m5 := by with_unfolding_all rfl
theorem c9 : compF Go.Proofs.Try.prog 9 = some m9 := by with_unfolding_all rfl
theorem c13 : compF Go.Proofs.Try.prog 13 = some m13 := by with_unfolding_all rfl
theorem c17 : compF Go.Proofs.Try.prog 17 = some m17 := by with_unfolding_all rfl
theorem c21 : compF Go.Proofs.Try.prog 21 = some m21 := by with_unfolding_all rfl
theorem c25 : compF Go.Proofs.Try.prog 25 = some m25 := by with_unfolding_all rfl
theorem c29 : compF Go.Proofs.Try.prog 29 = some m29 := by with_unfolding_all rfl
theorem c33 : compF Go.Proofs.Try.prog 33 = some m33 := by with_unfolding_all rfl
theorem c37 : compF Go.Proofs.Try.prog 37 = some m37 := by with_unfolding_all rfl
theorem c41 : compF Go.Proofs.Try.prog 41 = some m41 := by with_unfolding_all rfl
theorem c45 : compF Go.Proofs.Try.prog 45 = some m45 := by with_unfolding_all rfl
theorem c49 : compF Go.Proofs.Try.prog 49 = some m49 := by with_unfolding_all rfl
theorem c53 : compF Go.Proofs.Try.prog 53 = some m53 := by with_unfolding_all rfl
theorem c57 : compF Go.Proofs.Try.prog 57 = some m57 := by with_unfolding_all rfl
theorem c61 : compF Go.Proofs.Try.prog 61 = some m61 := by with_unfolding_all rfl
theorem c65 : compF Go.Proofs.Try.prog 65 = some m65 := by with_unfolding_all rfl
theorem c69 : compF Go.Proofs.Try.prog 69 = some m69 := by with_unfolding_all rfl
theorem c73 : compF Go.Proofs.Try.prog 73 = some m73 := by with_unfolding_all rfl
theorem c77 : compF Go.Proofs.Try.prog 77 = some m77 := by with_unfolding_all rfl
theorem c81 : compF Go.Proofs.Try.prog 81 = some m81 := by with_unfolding_all rfl
theorem c85 : compF Go.Proofs.Try.prog 85 = some m85 := by with_unfolding_all rfl
theorem c89 : compF Go.Proofs.Try.prog 89 = some m89 := by with_unfolding_all rfl
theorem c93 : compF Go.Proofs.Try.prog 93 = some m93 := by with_unfolding_all rfl
theorem c97 : compF Go.Proofs.Try.prog 97 = some m97 := by with_unfolding_all rfl
theorem c101 : compF Go.Proofs.Try.prog 101 = some m101 := by with_unfolding_all rfl
theorem c105 : compF Go.Proofs.Try.prog 105 = some m105 := by with_unfolding_all rfl
theorem c109 : compF Go.Proofs.Try.prog 109 = some m109 := by with_unfolding_all rfl
theorem c113 : compF Go.Proofs.Try.prog 113 = some m113 := by with_unfolding_all rfl
theorem c117 : compF Go.Proofs.Try.prog 117 = some m117 := by with_unfolding_all rfl
theorem c121 : compF Go.Proofs.Try.prog 121 = some m121 := by with_unfolding_all rfl
theorem c125 : compF Go.Proofs.Try.prog 125 = some m125 := by with_unfolding_all rfl
theorem c129 : compF Go.Proofs.Try.prog 129 = some m129 := by with_unfolding_all rfl
theorem c133 : compF Go.Proofs.Try.prog 133 = some m133 := by with_unfolding_all rfl
theorem c137 : compF Go.Proofs.Try.prog 137 = some m137 := by with_unfolding_all rfl
theorem c141 : compF Go.Proofs.Try.prog 141 = some m141 := by with_unfolding_all rfl
theorem c145 : compF Go.Proofs.Try.prog 145 = some m145 := by with_unfolding_all rfl
theorem c149 : compF Go.Proofs.Try.prog 149 = some m149 := by with_unfolding_all rfl
theorem c153 : compF Go.Proofs.Try.prog 153 = some m153 := by with_unfolding_all rfl
theorem c157 : compF Go.Proofs.Try.prog 157 = some m157 := by with_unfolding_all rfl
theorem c161 : compF Go.Proofs.Try.prog 161 = some m161 := by with_unfolding_all rfl
theorem c165 : compF Go.Proofs.Try.prog 165 = some m165 := by with_unfolding_all rfl
theorem c169 : compF Go.Proofs.Try.prog 169 = some m169 := by with_unfolding_all rfl
end Go.Proofs.Ytaijmekhfleciaa.Am
