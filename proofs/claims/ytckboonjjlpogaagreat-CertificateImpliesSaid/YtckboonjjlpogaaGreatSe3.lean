/- CertificateImplies: the loops' tags, and the tags of what is answered, say what they should. -/
import Derived.Test.YtckboonjjlpogaaGreatSe2
set_option linter.unusedVariables false
set_option linter.unusedSimpArgs false
namespace Go.Am
open Go.RowKit
noncomputable section

section
variable {T : Tbl} {w0 : World}
/-- Tags that are not the seat's. -/
def q1 (t : Nat) : Bool := !(Nat.beq t 16 || Nat.beq t 17 || Nat.beq t 18 || Nat.beq t 34 || Nat.beq t 19 || Nat.beq t 25 || Nat.beq t 33 || Nat.beq t 20 || Nat.beq t 22 || Nat.beq t 21 || Nat.beq t 23 || Nat.beq t 24)
def q2 (t : Nat) : Bool := !(Nat.beq t 19 || Nat.beq t 25 || Nat.beq t 33 || Nat.beq t 20 || Nat.beq t 22 || Nat.beq t 21 || Nat.beq t 23 || Nat.beq t 24)
def q5 (t : Nat) : Bool := !(Nat.beq t 20 || Nat.beq t 22 || Nat.beq t 21 || Nat.beq t 23 || Nat.beq t 24)
theorem nb {a b : Nat} (h : Nat.beq a b = false) : ¬ a = b := Nat.ne_of_beq_eq_false h
theorem F1_agree (l : List Value → Bool) (t : Nat) (a : List Value) (h : q1 t = true) : F1 T w0 t a = F6 T w0 l t a := by
  simp only [q1, Bool.not_eq_true', Bool.or_eq_false_iff] at h
  obtain ⟨⟨⟨⟨⟨⟨⟨⟨⟨⟨⟨h1, h2⟩, h3⟩, h4⟩, h5⟩, h6⟩, h7⟩, h8⟩, h9⟩, h10⟩, h11⟩, h12⟩ := h
  simp only [F6, F5, F4, F3, F2, nb h1, nb h2, nb h3, nb h4, nb h5, nb h6, nb h7, nb h8, nb h9, nb h10, nb h11, nb h12, if_false]
theorem F2_agree (l : List Value → Bool) (t : Nat) (a : List Value) (h : q2 t = true) : F2 T w0 t a = F6 T w0 l t a := by
  simp only [q2, Bool.not_eq_true', Bool.or_eq_false_iff] at h
  obtain ⟨⟨⟨⟨⟨⟨⟨h5, h6⟩, h7⟩, h8⟩, h9⟩, h10⟩, h11⟩, h12⟩ := h
  simp only [F6, F5, F4, F3, nb h5, nb h6, nb h7, nb h8, nb h9, nb h10, nb h11, nb h12, if_false]
theorem F5_agree (l : List Value → Bool) (t : Nat) (a : List Value) (h : q5 t = true) : F5 T w0 l t a = F6 T w0 l t a := by
  simp only [q5, Bool.not_eq_true', Bool.or_eq_false_iff] at h
  obtain ⟨⟨⟨⟨h8, h9⟩, h10⟩, h11⟩, h12⟩ := h
  simp only [F6, nb h8, nb h9, nb h10, nb h11, nb h12, if_false]
theorem by_agree {S S' : Nat → List Value → Value} {q : Nat → Bool} (h : ∀ t a, q t = true → S t a = S' t a) {x : BX} (hx : okB (fun _ => true) q x = true) (as : List AS) (a : List Value) : by_ S as x a = .bool (denB S' (thOf (flat as a)) x) := by
  unfold by_
  rw [denB_congr (p := fun _ => true) (q := q) (fun _ _ => rfl) h x hx]

/-! ### Elements -/
theorem elV_congr {S S' : Nat → List Value → Value} (h : ∀ a, S 6 a = S' 6 a) (s : Value) (j e : Nat) : ∀ n k, elV S s j e k n = elV S' s j e k n
  | 0, _ => rfl
  | n + 1, k => by simp only [elV, h, elV_congr h s j e n (k + 1)]
theorem denL_el {S : Nat → List Value → Value} {θ : Th} {I j : Nat} (hI : θ I = some (idx j)) (p e : Nat) : ∀ n k, denL S θ (elL (sy p) (sy I) e k n) = elV S (dv θ (.chan (some p))) j e k n
  | 0, _ => rfl
  | n + 1, k => by
    have h1 : dv θ (.chan (some I)) = nv j := by simp only [dv, hI, idx]
    have h2 : ∀ m, dv θ (nv m) = nv m := fun _ => rfl
    simp only [elL, elV, denL, den, ceX, sy, cn, h1, h2]
    rw [show denL S θ (elL (.v (.chan (some p))) (.v (.chan (some I))) e (k + 1) n) = _ from denL_el hI p e n (k + 1)]
theorem den_ce {S : Nat → List Value → Value} {θ : Th} {I j : Nat} (hI : θ I = some (idx j)) (p e k : Nat) : den S θ (ceX (sy p) (sy I) e k) = S 6 [dv θ (.chan (some p)), nv j, nv e, nv k] := by
  have h1 : dv θ (.chan (some I)) = nv j := by simp only [dv, hI, idx]
  have h2 : ∀ m, dv θ (nv m) = nv m := fun _ => rfl
  simp only [den, denL, ceX, sy, cn, h1, h2]
theorem den_cn {S : Nat → List Value → Value} {θ : Th} (n : Nat) : den S θ (cn n) = nv n := rfl
theorem dv_upd {θ : Th} {I p : Nat} {x : Pl} (h : p ≠ I) : dv (upd θ I x) (.chan (some p)) = dv θ (.chan (some p)) := by
  simp only [dv, upd_ne _ _ _ h]

theorem lp_ok [SemC] {L : LP} {N : Nat} {Q : List Value → Nat → Bool} (htag : ∀ a, SemC.semf L.tag a = allJ (arg a 0) (Q a)) (h0 : ∀ θ, arg (denL SemC.semf θ L.args) 0 = dv θ (.chan (some L.sl)))
    (hp : ∀ θ I j, N ≤ I → denB SemC.semf (upd θ I (idx j)) (L.pred I) = Q (denL SemC.semf θ L.args) j) : L.ok N := by
  intro θ I n hN ⟨a, c, hs⟩
  rw [htag, h0, hs]
  unfold allJ lenV
  congr 1
  simp only [hp θ I _ hN]

variable {D : Nat}
theorem F6_0 (l : List Value → Bool) (a : List Value) : F6 T w0 l 0 a = F0 T w0 0 a := by simp [F6, F5, F4, F3, F2, F1]
theorem F6_1 (l : List Value → Bool) (a : List Value) : F6 T w0 l 1 a = F0 T w0 1 a := by simp [F6, F5, F4, F3, F2, F1]
theorem F6_2 (l : List Value → Bool) (a : List Value) : F6 T w0 l 2 a = F0 T w0 2 a := by simp [F6, F5, F4, F3, F2, F1]
theorem F6_5 (l : List Value → Bool) (a : List Value) : F6 T w0 l 5 a = F0 T w0 5 a := by simp [F6, F5, F4, F3, F2, F1]
theorem F6_6 (l : List Value → Bool) (a : List Value) : F6 T w0 l 6 a = F0 T w0 6 a := by simp [F6, F5, F4, F3, F2, F1]
theorem F6_25 (l : List Value → Bool) (a : List Value) : F6 T w0 l 25 a = F4 T w0 l 25 a := by simp [F6, F5]
theorem F4_6 (l : List Value → Bool) (a : List Value) : F6 T w0 l 6 a = F4 T w0 l 6 a := by simp [F6, F5]

theorem rows_ok (slot : Tmp) (e n tag : Nat) (htag : ∀ a, F6 T w0 (lo T w0 D) tag a = allJ (arg a 0) (rowP (F0 T w0) e n a)) : @LP.ok (semD T w0 D) (lpR slot e n tag) 2 := by
  letI := semD T w0 D
  refine lp_ok (Q := fun a j => rowP (F0 T w0) e n a j) htag (fun θ => rfl) ?_
  intro θ I j hN
  show isT (F6 T w0 (lo T w0 D) 0 [nv e, .agg ⟨denL (F6 T w0 (lo T w0 D)) (upd θ I (idx j)) (elL (sy 0) (sy I) e 0 n)⟩, .agg ⟨denL (F6 T w0 (lo T w0 D)) (upd θ I (idx j)) (elL (sy 1) (sy I) e 0 n)⟩]) = _
  rw [denL_el (upd_same _ _ _), denL_el (upd_same _ _ _), dv_upd (by omega), dv_upd (by omega), F6_0]
  rw [elV_congr (S' := F0 T w0) (fun a => F6_6 _ a), elV_congr (S' := F0 T w0) (fun a => F6_6 _ a)]
  rfl
theorem ints_ok (slot : Tmp) : @LP.ok (semD T w0 D) (lpI slot) 2 := by
  letI := semD T w0 D
  refine lp_ok (Q := fun a j => intP (F0 T w0) a j) (fun a => by show F6 T w0 (lo T w0 D) 31 a = _; simp [F6, F5, F4, F3, F2, F1]) (fun θ => rfl) ?_
  intro θ I j hN
  show isT (F6 T w0 (lo T w0 D) 0 [nv 3, den (F6 T w0 (lo T w0 D)) (upd θ I (idx j)) (ceX (sy 0) (sy I) 3 0), den (F6 T w0 (lo T w0 D)) (upd θ I (idx j)) (ceX (sy 1) (sy I) 3 0)]) = _
  rw [den_ce (upd_same _ _ _), den_ce (upd_same _ _ _), dv_upd (by omega), dv_upd (by omega), F6_0, F6_6, F6_6]
  rfl
theorem decs_ok (slot : Tmp) (p q N : Nat) (hp : p < N) (hq : q < N) : @LP.ok (semD T w0 D) (lpD slot p q) N := by
  letI := semD T w0 D
  refine lp_ok (Q := fun a j => decP (F4 T w0 (lo T w0 D)) a j) (fun a => by show F6 T w0 (lo T w0 D) 33 a = _; simp [F6, F5]) (fun θ => rfl) ?_
  intro θ I j hN
  show isT (F6 T w0 (lo T w0 D) 25 [.agg ⟨denL (F6 T w0 (lo T w0 D)) (upd θ I (idx j)) (elL (sy p) (sy I) 37 0 25)⟩, .agg ⟨denL (F6 T w0 (lo T w0 D)) (upd θ I (idx j)) (elL (sy q) (sy I) 37 0 25)⟩]) = _
  rw [denL_el (upd_same _ _ _), denL_el (upd_same _ _ _), dv_upd (by omega), dv_upd (by omega), F6_25]
  rw [elV_congr (S' := F4 T w0 (lo T w0 D)) (fun a => F4_6 _ a), elV_congr (S' := F4 T w0 (lo T w0 D)) (fun a => F4_6 _ a)]
  rfl
theorem few_ok : @LP.ok (semD T w0 D) lpF 25 := by
  letI := semD T w0 D
  refine lp_ok (Q := fun a j => fewP (F0 T w0) a j) (fun a => by show F6 T w0 (lo T w0 D) 35 a = _; simp [F6, F5, F4, F3, F2, F1]) (fun θ => rfl) ?_
  intro θ I j hN
  show denB (F6 T w0 (lo T w0 D)) (upd θ I (idx j)) (fewX 23 I) = fewP (F0 T w0) [dv θ (.chan (some 23))] j
  have hl : ∀ k, den (F6 T w0 (lo T w0 D)) (upd θ I (idx j)) (lnX (ceX (sy 23) (sy I) 37 k)) = ln6 (F0 T w0) (dv θ (.chan (some 23))) j k := by
    intro k
    simp only [lnX, den, denL]
    rw [show den (F6 T w0 (lo T w0 D)) (upd θ I (idx j)) (ceX (sy 23) (sy I) 37 k) = _ from den_ce (upd_same _ _ _) 23 37 k, dv_upd (by omega), F6_5, F6_6]
    rfl
  have ha : ∀ x y, den (F6 T w0 (lo T w0 D)) (upd θ I (idx j)) (adX x y) = F0 T w0 2 [den (F6 T w0 (lo T w0 D)) (upd θ I (idx j)) x, den (F6 T w0 (lo T w0 D)) (upd θ I (idx j)) y] := by
    intro x y
    simp only [adX, den, denL, F6_2]
  have ht : ∀ x y, denB (F6 T w0 (lo T w0 D)) (upd θ I (idx j)) (ltX x y) = isT (F0 T w0 1 [den (F6 T w0 (lo T w0 D)) (upd θ I (idx j)) x, den (F6 T w0 (lo T w0 D)) (upd θ I (idx j)) y]) := by
    intro x y
    simp only [ltX, denB, den, denL, F6_1]
  simp only [fewX, denB, ht, ha, hl, den_cn]
  rfl

/-! ### What is answered -/
theorem sem16 (a : List Value) : F6 T w0 (lo T w0 D) 16 a = .bool (denB (F6 T w0 (lo T w0 D)) (thOf (flat (asS 74) a)) (eqLX 30 0 1)) := by
  rw [← by_agree (F1_agree (T := T) (w0 := w0) (lo T w0 D)) (x := eqLX 30 0 1) rfl]; simp [F6, F5, F4, F3, F2]
theorem sem17 (a : List Value) : F6 T w0 (lo T w0 D) 17 a = .bool (denB (F6 T w0 (lo T w0 D)) (thOf (flat (asS 3) a)) (eqLX 31 0 1)) := by
  rw [← by_agree (F1_agree (T := T) (w0 := w0) (lo T w0 D)) (x := eqLX 31 0 1) rfl]; simp [F6, F5, F4, F3, F2]
theorem sem18 (a : List Value) : F6 T w0 (lo T w0 D) 18 a = .bool (denB (F6 T w0 (lo T w0 D)) (thOf (flat (asS 71) a)) (eqLX 32 0 1)) := by
  rw [← by_agree (F1_agree (T := T) (w0 := w0) (lo T w0 D)) (x := eqLX 32 0 1) rfl]; simp [F6, F5, F4, F3, F2]
theorem sem34 (a : List Value) : F6 T w0 (lo T w0 D) 34 a = .bool (denB (F6 T w0 (lo T w0 D)) (thOf (flat (asF serK) a)) sameX) := by
  rw [← by_agree (F1_agree (T := T) (w0 := w0) (lo T w0 D)) (x := sameX) rfl]; simp [F6, F5, F4, F3, F2]
theorem sem19 (a : List Value) : F6 T w0 (lo T w0 D) 19 a = .bool (denB (F6 T w0 (lo T w0 D)) (thOf (flat (asF serK) a)) serX) := by
  rw [← by_agree (F2_agree (T := T) (w0 := w0) (lo T w0 D)) (x := serX) rfl]; simp [F6, F5, F4, F3]
theorem sem20 (a : List Value) : F6 T w0 (lo T w0 D) 20 a = .bool (denB (F6 T w0 (lo T w0 D)) (thOf (flat r20.as a)) (eqLX 33 0 1)) := by
  rw [← by_agree (F5_agree (T := T) (w0 := w0) (lo T w0 D)) (x := eqLX 33 0 1) rfl]; simp [F6]
theorem sem21 (a : List Value) : F6 T w0 (lo T w0 D) 21 a = .bool (denB (F6 T w0 (lo T w0 D)) (thOf (flat (asF factK) a)) implX) := by
  rw [← by_agree (F5_agree (T := T) (w0 := w0) (lo T w0 D)) (x := implX) rfl]; simp [F6]
theorem sem22 (a : List Value) : F6 T w0 (lo T w0 D) 22 a = .bool (denB (F6 T w0 (lo T w0 D)) (thOf (flat (asF factK) a)) (equalX d10)) := by
  rw [← by_agree (F5_agree (T := T) (w0 := w0) (lo T w0 D)) (x := equalX d10) rfl]; simp [F6]
theorem sem23 (a : List Value) : F6 T w0 (lo T w0 D) 23 a = .bool (denB (F6 T w0 (lo T w0 D)) (thOf (flat [.agg factK] a)) fewAX) := by
  rw [← by_agree (F5_agree (T := T) (w0 := w0) (lo T w0 D)) (x := fewAX) rfl]; simp [F6]
theorem sem24 (a : List Value) : F6 T w0 (lo T w0 D) 24 a = .bool true := by simp [F6]
theorem sem25 (a : List Value) : F6 T w0 (lo T w0 D) 25 a = .bool (lo T w0 D a) := by simp [F6, F5, F4]
theorem sem22_lo (a : List Value) : F6 T w0 (lo T w0 D) 22 a = .bool (lo T w0 (D + 1) a) := by simp [F6, lo, by_]
theorem d9_d10 (θ : Th) : denB (F6 T w0 (lo T w0 D)) θ d9 = denB (F6 T w0 (lo T w0 D)) θ d10 := by
  show isT (F6 T w0 (lo T w0 D) 20 [dv θ (.chan (some 23)), dv θ (.chan (some 48)), .func (.func 9) #[] #[]]) = _
  rw [sem20]
  rfl
theorem equal_9 (θ : Th) : denB (F6 T w0 (lo T w0 D)) θ (equalX d9) = denB (F6 T w0 (lo T w0 D)) θ (equalX d10) := by
  simp only [equalX, allX, denB, d9_d10]
end
end
end Go.Am
