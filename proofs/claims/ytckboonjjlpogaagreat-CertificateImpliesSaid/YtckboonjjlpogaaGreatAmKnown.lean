/- The law's own example ends in true, whatever the world: the run of the abstract machine, in the kernel. -/
import Derived.Test.YtckboonjjlpogaaGreatAmEvalU
import Derived.Test.YtckboonjjlpogaaGreatProg
import Derived.KernelRfl
set_option linter.unusedVariables false
set_option linter.unusedSimpArgs false
namespace Go.Proofs
open Go.Am
noncomputable section
def M52 (f : Nat) : Bool := match Nat.beq f 125, Nat.beq f 106, Nat.beq f 109, Nat.beq f 191 with
  | false, false, false, false => false
  | _, _, _, _ => true
set_option maxRecDepth 100000 in
theorem known_run : cameTo true ((ev (mkTbl Tryz.prog) M52 3000).f (.func (.func 5) #[] #[]) [] ⟨.lf, 0⟩) = true := by kernel_rfl
end
end Go.Proofs
