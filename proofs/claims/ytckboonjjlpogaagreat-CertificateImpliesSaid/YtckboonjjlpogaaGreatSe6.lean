/- CertificateImplies: the run of the law, in the kernel. -/
import Derived.Test.YtckboonjjlpogaaGreatSe4
set_option linter.unusedVariables false
set_option linter.unusedSimpArgs false
namespace Go.Proofs
open Go.Am
noncomputable section
set_option maxRecDepth 100000
theorem run3 : okRun TT kn bLaw none 300 3 asLaw .tt = true := by kernel_rfl
end
end Go.Proofs
