/- CertificateImplies: the runs of the two askings, in the kernel. -/
import Derived.Test.YtckboonjjlpogaaGreatSe4
set_option linter.unusedVariables false
set_option linter.unusedSimpArgs false
namespace Go.Proofs
open Go.Am
noncomputable section
set_option maxRecDepth 100000
theorem run7 : okRun TT kn bAll none 300 7 (asF factK) implX = true := by kernel_rfl
theorem run8 : okRun TT kn bAll none 300 8 (asF factK) implX = true := by kernel_rfl
end
end Go.Proofs
