/- CertificateImplies: the arguments as they come in, and the call of the law at them. -/
import Derived.Test.YtckboonjjlpogaaGreatSe7
import Derived.Test.YtckboonjjlpogaaGreatSe9
set_option linter.unusedVariables false
set_option linter.unusedSimpArgs false
namespace Go.Proofs
open Go.Am Go.RowKit
noncomputable section
section
variable {H : Type} {enc : TypeId × Value → H} {W : World}
theorem so37 : sortsT TT 20 37 = some factK := by kernel_rfl
theorem so74 : sortsT TT 20 74 = some segK := by kernel_rfl
theorem so71 : sortsT TT 20 71 = some msgK := by kernel_rfl
theorem so3 : sortsT TT 20 3 = some [.int .i64] := by kernel_rfl
theorem so39 : sortsT TT 20 39 = some [.int .i8, .int .i8, .int .i8] := by kernel_rfl
theorem okT : TblOK Tryz.prog TT := mkTbl_ok mixedT
theorem in_fact {e : TypeId} (h : SK.slice e ∈ factK) : e = 74 ∨ e = 3 ∨ e = 71 ∨ e = 37 := by
  simp [factK, factD] at h
  rcases h with h | h | h | h | h <;> simp [h]
theorem base_of {ks : List SK} {e : TypeId} (hs : sortsT TT 20 e = some ks) (hz : ∃ j d, TT.ty.get e = some (j, d) ∧ j.size = ks.length) (hpos : 0 < ks.length) (hno : ∀ k, k ∈ ks → ∀ x, k ≠ .slice x) {m : Nat} {v : Value} (h : RT enc Tryz.prog W m e v) : rdG W (fun _ _ => False) ks v := by
  obtain ⟨j, d, h1, h2⟩ := hz
  have := rd_of okT hs h1 h2 hpos (σ := id) (R := fun _ _ => False) (m := m) (fun f hf k hk u hu => by
    cases k with
    | slice x => exact (hno _ hk x rfl).elim
    | _ => exact hu) h
  simpa using this
theorem rd0_of {e : TypeId} (he : e = 74 ∨ e = 3 ∨ e = 71) {m : Nat} {v : Value} (h : RT enc Tryz.prog W m e v) : rd0 W e v := by
  rcases he with rfl | rfl | rfl
  · show rdG W (fun _ _ => False) segK v
    exact base_of so74 zs.s74 (by decide) (by intro k hk x hx; subst hx; simp [segK] at hk) h
  · show rdG W (fun _ _ => False) [.int .i64] v
    exact base_of so3 zs.s3 (by decide) (by intro k hk x hx; subst hx; simp at hk) h
  · show rdG W (fun _ _ => False) msgK v
    exact base_of so71 zs.s71 (by decide) (by intro k hk x hx; subst hx; simp [msgK] at hk) h
theorem rdF_of : ∀ (m : Nat) (v : Value), RT enc Tryz.prog W m 37 v → rdF W m v
  | 0, v, ⟨f, _, _, hf, _⟩ => absurd hf (Nat.not_lt_zero _)
  | m + 1, v, h => by
    obtain ⟨j, d, h1, h2⟩ := zs.s37
    have := rd_of okT so37 h1 h2 (by decide) (σ := trK) (R := fun e v => if e = 4 then rdF W m v else rd0 W e v) (m := m + 1) (fun f hf k hk u hu => by
      cases k with
      | slice e =>
        have hu : RT enc Tryz.prog W f e u := hu
        have hmem := in_fact hk
        show (if (if e = 37 then 4 else e) = 4 then rdF W m u else rd0 W (if e = 37 then 4 else e) u)
        by_cases h37 : e = 37
        · subst h37
          simp only [if_true]
          exact rdF_of m u (hu.up (by omega))
        · have he : e = 74 ∨ e = 3 ∨ e = 71 := by
            rcases hmem with h | h | h | h
            · exact .inl h
            · exact .inr (.inl h)
            · exact .inr (.inr h)
            · exact absurd h h37
          have h4 : ¬ e = 4 := four _ hk e rfl
          simp only [if_neg h37, if_neg h4]
          exact rd0_of he hu
      | _ => exact hu) h
    exact this
theorem KL_of {D : Nat} {m : Nat} (hm : m ≤ D + 1) : ∀ {ks : List SK} {cs : List Value}, (∀ k, k ∈ ks → ∀ e, k = .slice e → e = 74 ∨ e = 3 ∨ e = 71 ∨ e = 37) → KLR (RT enc Tryz.prog W m) ks cs → @KL (semD TT W D) ks cs
  | [], [], _, _ => trivial
  | [], _ :: _, _, h => h.elim
  | _ :: _, [], _, h => h.elim
  | k :: ks, v :: vs, hk, ⟨h1, h2, h3⟩ => by
    refine ⟨?_, h2, KL_of hm (fun k h => hk k (List.mem_cons_of_mem _ h)) h3⟩
    rw [ok_iff]
    cases k with
    | slice e =>
      have h1 : RT enc Tryz.prog W m e v := h1
      have he := hk _ List.mem_cons_self e rfl
      show rdD W D e v
      by_cases h37 : e = 37
      · subst h37
        show rdF W (D + 1) v
        exact rdF_of (D + 1) v (h1.up hm)
      · have he : e = 74 ∨ e = 3 ∨ e = 71 := by
          rcases he with h | h | h | h
          · exact .inl h
          · exact .inr (.inl h)
          · exact .inr (.inr h)
          · exact absurd h h37
        have hr := rd0_of he h1
        unfold rdD
        rw [if_neg h37, if_neg (by rcases he with h | h | h <;> (subst h; decide))]
        exact hr
    | _ => exact h1
theorem sorts_of {t : TypeId} {ks : List SK} (hs : sortsT TT 20 t = some ks) {cs : List Value} {x} (h : ∃ fuel, DataW.trod enc Tryz.prog W 0 (fun _ => true) true fuel t cs = some x) : ∃ m, KLR (RT enc Tryz.prog W m) ks cs := by
  obtain ⟨fuel, h⟩ := h
  exact ⟨fuel, trod_sorts okT 20 fuel t cs ks x h hs⟩
theorem law_at {c0 c1 c2 : Array Value} {x0 x1 x2} (h0 : ∃ fuel, DataW.trod enc Tryz.prog W 0 (fun _ => true) true fuel 37 c0.toList = some x0) (h1 : ∃ fuel, DataW.trod enc Tryz.prog W 0 (fun _ => true) true fuel 37 c1.toList = some x1)
    (h2 : ∃ fuel, DataW.trod enc Tryz.prog W 0 (fun _ => true) true fuel 39 c2.toList = some x2) : Calls Tryz.prog 3 #[.agg c0, .agg c1, .agg c2] W fun e w' => e = .returned (.bool true) ∧ Below W.heap.size W w' := by
  obtain ⟨m0, k0⟩ := sorts_of so37 h0
  obtain ⟨m1, k1⟩ := sorts_of so37 h1
  obtain ⟨m2, k2⟩ := sorts_of so39 h2
  have nof : ∀ k, k ∈ factK → ∀ e, k = .slice e → e = 74 ∨ e = 3 ∨ e = 71 ∨ e = 37 := fun k hk e he => by subst he; exact in_fact hk
  refine law_calls W (m0 + m1 + m2) (args := [.agg c0, .agg c1, .agg c2]) ⟨⟨c0.toList, rfl, KL_of (by omega) nof k0⟩, ⟨c1.toList, rfl, KL_of (by omega) nof k1⟩, ⟨c2.toList, rfl, KL_of (by omega) (fun k hk e he => by subst he; simp at hk) k2⟩, trivial⟩
end
end
end Go.Proofs
