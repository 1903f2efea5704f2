/- A closed run, by the kernel: function 36 answers true. Printed by mktab.py. -/
import Derived.Test.YtaijmekhfleciaaAmWtOk
set_option maxRecDepth 1000000
namespace Go.Proofs.Ytaijmekhfleciaa.Am
open Go
theorem run36 : isTrue (funE wtab 1000000 36 [] ⟨.nil, 0⟩) = true := by decide +kernel
theorem wake36 : OrcOk Go.Proofs.Try.prog 36 yes := by
  obtain ⟨h', e⟩ := isTrue_eq run36
  exact orc_of wtab_ok e fun _ _ _ h => h
end Go.Proofs.Ytaijmekhfleciaa.Am
