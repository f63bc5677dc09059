/- CertificateImplies: the contracts of its functions, and the law's own call. -/
import Derived.Test.YtckboonjjlpogaaGreatSe3
import Derived.Test.YtckboonjjlpogaaGreatSe5
import Derived.Test.YtckboonjjlpogaaGreatSe6
import Derived.Test.YtckboonjjlpogaaGreatAmKnown
set_option linter.unusedVariables false
set_option linter.unusedSimpArgs false
namespace Go.Proofs
open Go.Am Go.RowKit
noncomputable section

def RowOK [SemC] (P : Program) (w0 : World) (f : FuncId) (r : Row) : Prop := ∀ w args', Below w0.heap.size w0 w → ASL r.as args' →
  (r.kd.ok (SemC.semf r.tag args') ∧ (SemC.semf r.tag args').oneCell' = true) ∧ Calls P f ⟨args'⟩ w fun e w' => e = .returned (SemC.semf r.tag args') ∧ Below w.heap.size w w'
theorem tab0 [SemC] {P : Program} {w0 : World} : TabOK P w0 noT := fun f r h => by simp [noT] at h
theorem tabA [SemC] {P : Program} {w0 : World} {f : FuncId} {r : Row} {B : Tab} (h : RowOK P w0 f r) (hB : TabOK P w0 B) : TabOK P w0 (addR f r B) := by
  intro g r' hg
  unfold addR at hg
  split at hg
  · rename_i e
    have e' := Nat.eq_of_beq_eq_true e
    subst e'; cases hg
    exact h
  · exact hB g r' hg
theorem lo0 [SemC] : LOok none := fun r h => by cases h
theorem lo1 [SemC] {L : LP} {N : Nat} (h : L.ok N) : LOok (some (L, N)) := fun r e => by cases e; exact h

theorem zs : Sizes TT := ⟨size_of 37 25 z37, size_of 74 8 z74, size_of 71 10 z71, size_of 3 1 z3, size_of 4 1 z4⟩
section
variable {w0 : World} {D : Nat}
theorem row_of {f : FuncId} {r : Row} {B : Tab} {LO : Option (LP × Nat)} {spec : BX} (h : okRun TT kn B LO 300 f r.as spec = true) (hLO : @LOok (semD TT w0 D) LO) (hB : @TabOK (semD TT w0 D) Tryz.prog w0 B) (hk : r.kd = .bool)
    (hs : ∀ a, F6 TT w0 (lo TT w0 D) r.tag a = .bool (denB (F6 TT w0 (lo TT w0 D)) (thOf (flat r.as a)) spec)) : @RowOK (semD TT w0 D) Tryz.prog w0 f r := by
  letI := semD TT w0 D
  intro w args hw ha
  have e : SemC.semf r.tag args = .bool (denB SemC.semf (thOf (flat r.as args)) spec) := hs args
  rw [e, hk]
  exact ⟨⟨⟨_, rfl⟩, rfl⟩, run_calls (mkTbl_ok mixedT) (mkTbl_fn _) (semOK zs) hB hLO h hw ha⟩

theorem row22i : @RowOK (semD TT w0 D) Tryz.prog w0 22 r17 := row_of run22 (@lo1 (semD TT w0 D) _ _ (ints_ok 13)) (@tab0 (semD TT w0 D) _ _) rfl sem17
theorem row24i : @RowOK (semD TT w0 D) Tryz.prog w0 24 r17 := row_of run24 (@lo1 (semD TT w0 D) _ _ (ints_ok 5)) (@tab0 (semD TT w0 D) _ _) rfl sem17
theorem tag30 (a : List Value) : F6 TT w0 (lo TT w0 D) 30 a = allJ (arg a 0) (rowP (F0 TT w0) 74 8 a) := by simp [F6, F5, F4, F3, F2, F1]
theorem tag32 (a : List Value) : F6 TT w0 (lo TT w0 D) 32 a = allJ (arg a 0) (rowP (F0 TT w0) 71 10 a) := by simp [F6, F5, F4, F3, F2, F1]
theorem row20i : @RowOK (semD TT w0 D) Tryz.prog w0 20 r16 := row_of run20 (@lo1 (semD TT w0 D) _ _ (rows_ok 13 74 8 30 tag30)) (@tab0 (semD TT w0 D) _ _) rfl sem16
theorem row23i : @RowOK (semD TT w0 D) Tryz.prog w0 23 r16 := row_of run23 (@lo1 (semD TT w0 D) _ _ (rows_ok 5 74 8 30 tag30)) (@tab0 (semD TT w0 D) _ _) rfl sem16
theorem row25i : @RowOK (semD TT w0 D) Tryz.prog w0 25 r18 := row_of run25 (@lo1 (semD TT w0 D) _ _ (rows_ok 13 71 10 32 tag32)) (@tab0 (semD TT w0 D) _ _) rfl sem18
theorem row27i : @RowOK (semD TT w0 D) Tryz.prog w0 27 r18 := row_of run27 (@lo1 (semD TT w0 D) _ _ (rows_ok 5 71 10 32 tag32)) (@tab0 (semD TT w0 D) _ _) rfl sem18
theorem row46i : @RowOK (semD TT w0 D) Tryz.prog w0 46 r34 := row_of run46 (@lo0 (semD TT w0 D)) (@tab0 (semD TT w0 D) _ _) rfl sem34
theorem row21i : @RowOK (semD TT w0 D) Tryz.prog w0 21 r19 := by
  letI := semD TT w0 D
  exact row_of run21 lo0 (tabA row46i (tabA row22i tab0)) rfl sem19
theorem tabAll : @TabOK (semD TT w0 D) Tryz.prog w0 bAll := by
  letI := semD TT w0 D
  exact tabA row20i (tabA row23i (tabA row22i (tabA row24i (tabA row25i (tabA row27i (tabA row21i tab0))))))
theorem row7i : @RowOK (semD TT w0 D) Tryz.prog w0 7 r21 := row_of run7 (@lo0 (semD TT w0 D)) tabAll rfl sem21
theorem row8i : @RowOK (semD TT w0 D) Tryz.prog w0 8 r21 := row_of run8 (@lo0 (semD TT w0 D)) tabAll rfl sem21
theorem row6i : @RowOK (semD TT w0 D) Tryz.prog w0 6 r23 := row_of run6 (@lo1 (semD TT w0 D) _ _ few_ok) (@tab0 (semD TT w0 D) _ _) rfl sem23

/-! ### Equal facts, by the depth of their decisions -/
def trK : SK → SK
  | .slice e => .slice (if e = 37 then 4 else e)
  | k => k
theorem KL_tr : ∀ (ks : List SK) (vs : List Value), (∀ k, k ∈ ks → ∀ e, k = .slice e → e ≠ 4) → @KL (semD TT w0 (D + 1)) (ks.map trK) vs → @KL (semD TT w0 D) ks vs
  | [], [], _, _ => trivial
  | [], _ :: _, _, h => h.elim
  | _ :: _, [], _, h => h.elim
  | k :: ks, v :: vs, hk, ⟨h1, h2, h3⟩ => by
    refine ⟨?_, h2, KL_tr ks vs (fun k h => hk k (List.mem_cons_of_mem _ h)) h3⟩
    rw [ok_iff] at h1 ⊢
    cases k with
    | slice e =>
      have h4 := hk _ List.mem_cons_self e rfl
      have h1 : rdD w0 (D + 1) (if e = 37 then 4 else e) v := h1
      show rdD w0 D e v
      by_cases h37 : e = 37
      · subst h37; simpa [rdD] using h1
      · simpa [rdD, h37, h4] using h1
    | _ => exact h1
theorem four : ∀ k, k ∈ factK → ∀ e, k = SK.slice e → e ≠ 4 := by
  intro k hk e he
  subst he
  simp [factK, factD] at hk
  rcases hk with h | h | h | h <;> first | (subst h; decide) | (rcases h with h | h <;> (subst h; decide))
theorem asl_tr {args : List Value} (h : @ASL (semD TT w0 (D + 1)) (asF factL) args) : @ASL (semD TT w0 D) (asF factK) args := by
  match args, h with
  | [a, b], ⟨⟨cs, e1, h1⟩, ⟨ds, e2, h2⟩, _⟩ => exact ⟨⟨cs, e1, KL_tr factK cs four h1⟩, ⟨ds, e2, KL_tr factK ds four h2⟩, trivial⟩
theorem low0 {f : FuncId} : @RowOK (semD TT w0 0) Tryz.prog w0 f r25 := by
  letI := semD TT w0 0
  intro w args hw ha
  match args, ha with
  | [a, b], ⟨⟨cs, e1, h1⟩, _⟩ =>
    obtain ⟨v, _, hv, _⟩ := KL.get h1 23 (.slice 4) rfl
    have : rdD w0 0 4 v := hv
    simp [rdD, rdF] at this
theorem lowS {f : FuncId} (ih : @RowOK (semD TT w0 D) Tryz.prog w0 f r22) : @RowOK (semD TT w0 (D + 1)) Tryz.prog w0 f r25 := by
  intro w args hw ha
  obtain ⟨_, hc⟩ := ih w args hw (asl_tr ha)
  have hc : Calls Tryz.prog f ⟨args⟩ w fun e w' => e = .returned (F6 TT w0 (lo TT w0 D) 22 args) ∧ Below w.heap.size w w' := hc
  rw [sem22_lo] at hc
  have e : F6 TT w0 (lo TT w0 (D + 1)) 25 args = .bool (lo TT w0 (D + 1) args) := sem25 args
  show ((∃ b, F6 TT w0 (lo TT w0 (D + 1)) 25 args = .bool b) ∧ (F6 TT w0 (lo TT w0 (D + 1)) 25 args).oneCell' = true) ∧ Calls Tryz.prog f ⟨args⟩ w fun e w' => e = .returned (F6 TT w0 (lo TT w0 (D + 1)) 25 args) ∧ Below w.heap.size w w'
  rw [e]
  exact ⟨⟨⟨_, rfl⟩, rfl⟩, hc⟩
theorem eqs_of (h9 : @RowOK (semD TT w0 D) Tryz.prog w0 9 r25) (h10 : @RowOK (semD TT w0 D) Tryz.prog w0 10 r25) : @RowOK (semD TT w0 D) Tryz.prog w0 9 r22 ∧ @RowOK (semD TT w0 D) Tryz.prog w0 10 r22 := by
  letI := semD TT w0 D
  have row26i : RowOK Tryz.prog w0 26 r20 := row_of run26 (lo1 (decs_ok 17 0 1 2 (by omega) (by omega))) (tabA h9 tab0) rfl sem20
  exact ⟨row_of run9 lo0 (tabA row26i tabAll) rfl (fun a => by rw [equal_9]; exact sem22 a), row_of run10 (lo1 (decs_ok 7 23 48 50 (by omega) (by omega))) (tabA h10 tabAll) rfl sem22⟩
end
theorem eqs (w0 : World) : ∀ D, @RowOK (semD TT w0 D) Tryz.prog w0 9 r22 ∧ @RowOK (semD TT w0 D) Tryz.prog w0 10 r22
  | 0 => eqs_of low0 low0
  | D + 1 => eqs_of (lowS (eqs w0 D).1) (lowS (eqs w0 D).2)
theorem known_calls (w : World) : Calls Tryz.prog 5 #[] w fun e w' => e = .returned (.bool true) ∧ w.heap.size ≤ w'.heap.size ∧ w'.os = w.os ∧ w'.tape = w.tape ∧ w'.output = w.output ∧ ∀ k, k < w.heap.size → w'.heap[k]? = w.heap[k]? :=
  @ev_calls (semD (mkTbl Tryz.prog) w 0) _ mixedT M52 _ _ _ known_run w
theorem row5i (w0 : World) (D : Nat) : @RowOK (semD TT w0 D) Tryz.prog w0 5 r24 := by
  letI := semD TT w0 D
  intro w args hw ha
  match args, ha with
  | [], _ =>
    have e : F6 TT w0 (lo TT w0 D) 24 [] = .bool true := sem24 []
    show ((F6 TT w0 (lo TT w0 D) 24 [] = .bool true) ∧ (F6 TT w0 (lo TT w0 D) 24 []).oneCell' = true) ∧ Calls Tryz.prog 5 ⟨[]⟩ w fun e w' => e = .returned (F6 TT w0 (lo TT w0 D) 24 []) ∧ Below w.heap.size w w'
    rw [e]
    exact ⟨⟨rfl, rfl⟩, (known_calls w).mono fun e w' ⟨h1, h2, h3, h4, h5, h6⟩ => ⟨h1, h3, h4, h5, h2, h6⟩⟩
theorem law_calls (w0 : World) (D : Nat) {args : List Value} (ha : @ASL (semD TT w0 D) asLaw args) : Calls Tryz.prog 3 ⟨args⟩ w0 fun e w' => e = .returned (.bool true) ∧ Below w0.heap.size w0 w' := by
  letI := semD TT w0 D
  exact run_calls (spec := .tt) (mkTbl_ok mixedT) (mkTbl_fn _) (semOK zs) (tabA (row5i w0 D) (tabA row6i (tabA row7i (tabA row8i (tabA (eqs w0 D).1 (tabA (eqs w0 D).2 tab0)))))) lo0 run3 (Below.refl _ _) ha
end
end Go.Proofs
