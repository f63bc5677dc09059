/- CertificateImplies: the row. -/
import Derived.Test.YtckboonjjlpogaaGreatRows
import Derived.Test.YtckboonjjlpogaaGreatSe10
import Derived.WalkKit
import Derived.ProofKit
import Derived.OpenShut
import Derived.ShutString
import Derived.ChangeOld
import Derived.Below
import Derived.Carry
import Derived.SizedLaws
set_option linter.unusedVariables false
set_option linter.unusedSimpArgs false
set_option maxRecDepth 100000
namespace Go.Proofs.YtckboonjjlpogaaGreat
open Go.Am Go.ChangeShapes Go.WideShapes Go.ChangeAt Go.RowKit
theorem own52 : ownKnob Tryz.prog.godebug = none := by kernel_rfl
theorem laidOut52 : laidOutB Tryz.prog = true := by kernel_rfl
noncomputable def zeroOf : SK → Value
  | .int k => .int k 0
  | .bool => .bool false
  | .boolK b => .bool b
  | .str => .string ByteArray.empty
  | .slice _ => .slice none 0 0
  | _ => .pointer none
theorem func3 : Tryz.prog.funcs[3]? = some Tryz.f3 := by kernel_rfl
theorem params3 : Tryz.f3.params.toList = [37, 37, 39] := by kernel_rfl
theorem under4 : Tryz.prog.underlying 4 = some .bool := by kernel_rfl
theorem isAgg37 : (match Tryz.prog.underlying 37 with | some (.struct _) => true | _ => false) = true := by kernel_rfl
theorem isAgg39 : (match Tryz.prog.underlying 39 with | some (.array _ _) => true | _ => false) = true := by kernel_rfl
theorem agg37 {W : World} {r : Reach} {base : Nat} {v : Value} (h : Value.okWide Tryz.prog W r base 37 v) : ∃ cs, v = .agg cs := by
  have h0 := isAgg37
  unfold Value.okWide at h
  split at h0
  · rename_i fs hu
    rw [hu] at h
    obtain ⟨cs, h, _⟩ := h
    exact ⟨cs, h⟩
  · cases h0
theorem agg39 {W : World} {r : Reach} {base : Nat} {v : Value} (h : Value.okWide Tryz.prog W r base 39 v) : ∃ cs, v = .agg cs := by
  have h0 := isAgg39
  unfold Value.okWide at h
  split at h0
  · rename_i fs hu
    rw [hu] at h
    obtain ⟨cs, h, _⟩ := h
    exact ⟨cs, h⟩
  · cases h0
set_option maxRecDepth 100000 in
theorem lifted52 (os : Os) (started : os.Started) (H : Type) (enc : TypeId × Value → H) :
    ReturnsInHanded {} Tryz.checked os 3 .any (Rows.certificateImpliesSpec.pre6 enc Tryz.prog Tryz.f3 Rows.certificateImpliesRow.domain false) (Rows.certificateImpliesSpec.post enc Tryz.prog Tryz.f3 false true false false) := by
  refine returnsInHanded_of_change_sized (C := Tryz.checked) own52 started (by kernel_rfl) func3
    (ChangeSpec.witness6 (enc := enc) (C := Tryz.checked) false ⟨#[], #[.agg ⟨factK.map zeroOf⟩, .agg ⟨factK.map zeroOf⟩, .agg #[.int .i8 0, .int .i8 0, .int .i8 0]], []⟩ 8 (by kernel_rfl) (by kernel_rfl) (by kernel_rfl) (by kernel_rfl)) ?_
  intro W base args ds gs before hval0 hW hcnd hsz0 _
  have hval : ∀ (j : Nat) t v, Tryz.f3.params[j]? = some t → args[j]? = some v → Value.okWide Tryz.prog W .any base t v := hval0
  have hW' := hW
  obtain ⟨p, q, hA0, hV, rfl, hfz, hnd⟩ := hW
  have hA : DataW.TrodAll enc Tryz.prog W 0 (fun _ => true) true Tryz.f3.params.toList args.toList ds p := hA0
  rw [params3] at hA
  obtain ⟨v0, vs0, d0, ds0, p0, q0, hargs, rfl, rfl, h0, r0⟩ := trodAll_cons hA
  obtain ⟨v1, vs1, d1, ds1, p1, q1, rfl, rfl, rfl, h1, r1⟩ := trodAll_cons r0
  obtain ⟨v2, vs2, d2, ds2, p2, q2, rfl, rfl, rfl, h2, r2⟩ := trodAll_cons r1
  obtain ⟨rfl, rfl, rfl⟩ := trodAll_nil r2
  obtain rfl : args = #[v0, v1, v2] := by cases args; simp_all
  obtain ⟨rfl, rfl⟩ := trodVars_none hV
  obtain ⟨c0, rfl⟩ := agg37 (hval 0 37 v0 (by kernel_rfl) rfl)
  obtain ⟨c1, rfl⟩ := agg37 (hval 1 37 v1 (by kernel_rfl) rfl)
  obtain ⟨c2, rfl⟩ := agg39 (hval 2 39 v2 (by kernel_rfl) rfl)
  have k0 := h0
  have k1 := h1
  have k2 := h2
  have lt0 : ∀ x ∈ p0, x.block < W.heap.size := by obtain ⟨m, hm⟩ := k0; exact DataW.trod_lt m _ _ _ hm
  have lt1 : ∀ x ∈ p1, x.block < W.heap.size := by obtain ⟨m, hm⟩ := k1; exact DataW.trod_lt m _ _ _ hm
  have lt2 : ∀ x ∈ p2, x.block < W.heap.size := by obtain ⟨m, hm⟩ := k2; exact DataW.trod_lt m _ _ _ hm
  clear hA0 hval0 hsz0
  refine (law_at (c0 := c0) (c1 := c1) (c2 := c2) h0 h1 h2).mono fun e W' ⟨he, bel⟩ => ?_
  subst he
  exact ⟨_, rfl, _, _, _, [], _, [], hW', trodAll_mk1 (shut_bool under4 _), (trodAll_cons_mk (Below.trod laidOut52 (by kernel_rfl) (of_decide_eq_true (by kernel_rfl)) k0 bel lt0) (trodAll_cons_mk (Below.trod laidOut52 (by kernel_rfl) (of_decide_eq_true (by kernel_rfl)) k1 bel lt1)
    (trodAll_cons_mk (Below.trod laidOut52 (by kernel_rfl) (of_decide_eq_true (by kernel_rfl)) k2 bel lt2) trodAll_mk0))), rfl, bel.frame _, fun h => by cases h⟩
theorem over52 : Rows.certificateImpliesRow.holds Tryz.pinned (OpenSpec.ofChange Rows.certificateImpliesSpec) :=
  OpenClaim.holds_of_wide 3 Tryz.f3 rfl rfl rfl rfl rfl rfl rfl ⟨rfl, rfl, rfl, rfl, rfl⟩ rfl rfl rfl rfl rfl (by kernel_rfl) func3 (by kernel_rfl)
    (of_decide_eq_true (by kernel_rfl)) (by unfold Func.isWrapper; first | (rw [if_pos (by decide +kernel)]; kernel_rfl) | (rw [if_neg (by decide +kernel)]; exact ⟨rfl, rfl⟩))
    (fun os started H enc _ => lifted52 os started H enc)
theorem certificateImplies_holds : Rows.CertificateImpliesSaid := over52
#print axioms certificateImplies_holds
end Go.Proofs.YtckboonjjlpogaaGreat
