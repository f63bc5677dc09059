/- CertificateImplies: the runs of its functions, in the kernel. -/
import Derived.Test.YtckboonjjlpogaaGreatSe1
import Derived.Test.YtckboonjjlpogaaGreatProg
import Derived.KernelRfl
set_option linter.unusedVariables false
set_option linter.unusedSimpArgs false
namespace Go.Proofs
open Go.Am
noncomputable section
set_option maxRecDepth 100000
abbrev TT : Tbl := mkTbl Tryz.prog
theorem run20 : okRun TT kn noT (some (lpR 13 74 8 30, 2)) 300 20 (asS 74) (eqLX 30 0 1) = true := by kernel_rfl
theorem run23 : okRun TT kn noT (some (lpR 5 74 8 30, 2)) 300 23 (asS 74) (eqLX 30 0 1) = true := by kernel_rfl
theorem run25 : okRun TT kn noT (some (lpR 13 71 10 32, 2)) 300 25 (asS 71) (eqLX 32 0 1) = true := by kernel_rfl
theorem run27 : okRun TT kn noT (some (lpR 5 71 10 32, 2)) 300 27 (asS 71) (eqLX 32 0 1) = true := by kernel_rfl
theorem run22 : okRun TT kn noT (some (lpI 13, 2)) 300 22 (asS 3) (eqLX 31 0 1) = true := by kernel_rfl
theorem run24 : okRun TT kn noT (some (lpI 5, 2)) 300 24 (asS 3) (eqLX 31 0 1) = true := by kernel_rfl
theorem run46 : okRun TT kn noT none 300 46 (asF serK) sameX = true := by kernel_rfl
theorem run21 : okRun TT kn bSer none 300 21 (asF serK) serX = true := by kernel_rfl
theorem run26 : okRun TT kn b26 (some (lpD 17 0 1, 2)) 300 26 r20.as (eqLX 33 0 1) = true := by kernel_rfl
theorem run6 : okRun TT kn noT (some (lpF, 25)) 300 6 [.agg factK] fewAX = true := by kernel_rfl
theorem run9 : okRun TT kn b9 none 300 9 (asF factK) (equalX d9) = true := by kernel_rfl
theorem run10 : okRun TT kn b10 (some (lpD 7 23 48, 50)) 300 10 (asF factK) (equalX d10) = true := by kernel_rfl
theorem size_of (e n : Nat) (h : ((TT.ty.get e).map fun x => x.1.size) = some n) : ∃ j d, TT.ty.get e = some (j, d) ∧ j.size = n := by
  cases hx : TT.ty.get e with
  | none => rw [hx] at h; cases h
  | some x => rw [hx] at h; exact ⟨x.1, x.2, rfl, Option.some.inj h⟩
theorem mixedT : Tryz.prog.follows .mixedOrders = true := by kernel_rfl
theorem z37 : ((TT.ty.get 37).map fun x => x.1.size) = some 25 := by kernel_rfl
theorem z74 : ((TT.ty.get 74).map fun x => x.1.size) = some 8 := by kernel_rfl
theorem z71 : ((TT.ty.get 71).map fun x => x.1.size) = some 10 := by kernel_rfl
theorem z3 : ((TT.ty.get 3).map fun x => x.1.size) = some 1 := by kernel_rfl
theorem z4 : ((TT.ty.get 4).map fun x => x.1.size) = some 1 := by kernel_rfl
end
end Go.Proofs
