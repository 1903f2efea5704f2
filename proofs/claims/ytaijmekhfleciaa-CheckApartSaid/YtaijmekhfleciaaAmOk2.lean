/- Entries of the table are what their functions compile to, part 2. Printed by mktab.py. -/
import Derived.Test.YtaijmekhfleciaaAmTab
import Derived.Test.YtaijmekhfleciaaAmTr
import Derived.Test.YtaijmekhfleciaaProg
set_option maxRecDepth 1000000
namespace Go.Proofs.Ytaijmekhfleciaa.Am
open Go
theorem c4 : compF Go.Proofs.Try.prog 4 = some m4 := by with_unfolding_all rfl
theorem c8 : compF Go.Proofs.Try.prog 8 = some m8 := by with_unfolding_all rfl
theorem c12 : compF Go.Proofs.Try.prog 12 = some m12 := by with_unfolding_all rfl
theorem c16 : compF Go.Proofs.Try.prog 16 = some m16 := by with_unfolding_all rfl
theorem c20 : compF Go.Proofs.Try.prog 20 = some m20 := by with_unfolding_all rfl
theorem c24 : compF Go.Proofs.Try.prog 24 = some m24 := by with_unfolding_all rfl
theorem c28 : compF Go.Proofs.Try.prog 28 = some m28 := by with_unfolding_all rfl
theorem c32 : compF Go.Proofs.Try.prog 32 = some m32 := by with_unfolding_all rfl
theorem c36 : compF Go.Proofs.Try.prog 36 = some m36 := by with_unfolding_all rfl
theorem c40 : compF Go.Proofs.Try.prog 40 = some m40 := by with_unfolding_all rfl
theorem c44 : compF Go.Proofs.Try.prog 44 = some m44 := by with_unfolding_all rfl
theorem c48 : compF Go.Proofs.Try.prog 48 = some m48 := by with_unfolding_all rfl
theorem c52 : compF Go.Proofs.Try.prog 52 = some m52 := by with_unfolding_all rfl
theorem c56 : compF Go.Proofs.Try.prog 56 = some m56 := by with_unfolding_all rfl
theorem c60 : compF Go.Proofs.Try.prog 60 = some m60 := by with_unfolding_all rfl
theorem c64 : compF Go.Proofs.Try.prog 64 = some m64 := by with_unfolding_all rfl
theorem c68 : compF Go.Proofs.Try.prog 68 = some m68 := by with_unfolding_all rfl
theorem c72 : compF Go.Proofs.Try.prog 72 = some m72 := by with_unfolding_all rfl
theorem c76 : compF Go.Proofs.Try.prog 76 = some m76 := by with_unfolding_all rfl
theorem c80 : compF Go.Proofs.Try.prog 80 = some m80 := by with_unfolding_all rfl
theorem c84 : compF Go.Proofs.Try.prog 84 = some m84 := by with_unfolding_all rfl
theorem c88 : compF Go.Proofs.Try.prog 88 = some m88 := by with_unfolding_all rfl
theorem c92 : compF Go.Proofs.Try.prog 92 = some m92 := by with_unfolding_all rfl
theorem c96 : compF Go.Proofs.Try.prog 96 = some m96 := by with_unfolding_all rfl
theorem c100 : compF Go.Proofs.Try.prog 100 = some m100 := by with_unfolding_all rfl
theorem c104 : compF Go.Proofs.Try.prog 104 = some m104 := by with_unfolding_all rfl
theorem c108 : compF Go.Proofs.Try.prog 108 = some m108 := by with_unfolding_all rfl
theorem c112 : compF Go.Proofs.Try.prog 112 = some m112 := by with_unfolding_all rfl
theorem c116 : compF Go.Proofs.Try.prog 116 = some m116 := by with_unfolding_all rfl
theorem c120 : compF Go.Proofs.Try.prog 120 = some m120 := by with_unfolding_all rfl
theorem c124 : compF Go.Proofs.Try.prog 124 = some m124 := by with_unfolding_all rfl
theorem c128 : compF Go.Proofs.Try.prog 128 = some m128 := by with_unfolding_all rfl
theorem c132 : compF Go.Proofs.Try.prog 132 = some m132 := by with_unfolding_all rfl
theorem c136 : compF Go.Proofs.Try.prog 136 = some m136 := by with_unfolding_all rfl
theorem c140 : compF Go.Proofs.Try.prog 140 = some m140 := by with_unfolding_all rfl
theorem c144 : compF Go.Proofs.Try.prog 144 = some m144 := by with_unfolding_all rfl
theorem c148 : compF Go.Proofs.Try.prog 148 = some m148 := by with_unfolding_all rfl
theorem c152 : compF Go.Proofs.Try.prog 152 = some m152 := by with_unfolding_all rfl
theorem c156 : compF Go.Proofs.Try.prog 156 = some m156 := by with_unfolding_all rfl
theorem c160 : compF Go.Proofs.Try.prog 160 = some m160 := by with_unfolding_all rfl
theorem c164 : compF Go.Proofs.Try.prog 164 = some m164 := by with_unfolding_all rfl
theorem c168 : compF Go.Proofs.Try.prog 168 = some m168 := by with_unfolding_all rfl
end Go.Proofs.Ytaijmekhfleciaa.Am
