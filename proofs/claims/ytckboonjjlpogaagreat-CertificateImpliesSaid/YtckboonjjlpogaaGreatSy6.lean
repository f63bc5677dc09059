/- Contracts out of a run: what a function returns, spelt in tags over its arguments. -/
import Derived.Test.YtckboonjjlpogaaGreatSy5
set_option linter.unusedVariables false
set_option linter.unusedSimpArgs false
namespace Go.Am
open Go.RowKit
noncomputable section

/-! ### Arguments -/
def ksOf : List AS → List SK
  | [] => []
  | .one k :: r => k :: ksOf r
  | .agg l :: r => l ++ ksOf r
  | .fn _ :: r => ksOf r
def chans (n : Nat) : Nat → List Value
  | 0 => []
  | m + 1 => .chan (some n) :: chans (n + 1) m
def absArgs (n : Nat) : List AS → List Value
  | [] => []
  | .one _ :: r => .chan (some n) :: absArgs (n + 1) r
  | .agg l :: r => .agg ⟨chans n l.length⟩ :: absArgs (n + l.length) r
  | .fn f :: r => .func (.func f) #[] #[] :: absArgs n r
def flat : List AS → List Value → List Value
  | [], _ => []
  | _, [] => []
  | .one _ :: r, v :: vs => v :: flat r vs
  | .agg _ :: r, v :: vs => v.cells.toList ++ flat r vs
  | .fn _ :: r, _ :: vs => flat r vs
def initHp : Nat → List SK → Tr AO → Tr AO
  | _, [], t => t
  | n, k :: ks, t => initHp (n + 1) ks (t.set n (some (.sym 9 [] k)))
def thOf (cs : List Value) : Th := fun n => match cs[n]? with
  | some v => some ⟨0, 0, 0, 0, v⟩
  | none => none

section
variable [SemC]
theorem KL.append : ∀ {a b : List SK} {u v : List Value}, KL a u → KL b v → KL (a ++ b) (u ++ v)
  | [], _, [], _, _, h => h
  | [], _, _ :: _, _, h, _ => h.elim
  | _ :: _, _, [], _, h, _ => h.elim
  | _ :: _, _, _ :: _, _, ⟨h1, h2, h3⟩, h => ⟨h1, h2, KL.append h3 h⟩
theorem KL.length : ∀ {a : List SK} {u : List Value}, KL a u → a.length = u.length
  | [], [], _ => rfl
  | [], _ :: _, h => h.elim
  | _ :: _, [], h => h.elim
  | _ :: _, _ :: _, ⟨_, _, h⟩ => by simp [KL.length h]
theorem KL.get : ∀ {a : List SK} {u : List Value}, KL a u → ∀ (i : Nat) (k : SK), a[i]? = some k → ∃ v, u[i]? = some v ∧ k.ok v ∧ v.oneCell' = true
  | [], _, _, i, k, h => by simp at h
  | _ :: _, [], h, _, _, _ => h.elim
  | x :: a, v :: u, ⟨h1, h2, h3⟩, i, k, h => by
    cases i with
    | zero => simp at h; subst h; exact ⟨v, by simp, h1, h2⟩
    | succ i => obtain ⟨v', a1, a2⟩ := KL.get h3 i k (by simpa using h); exact ⟨v', by simpa using a1, a2⟩
theorem flat_KL : ∀ {as : List AS} {vs : List Value}, ASL as vs → KL (ksOf as) (flat as vs)
  | [], [], _ => trivial
  | [], _ :: _, h => h.elim
  | _ :: _, [], h => h.elim
  | .one k :: r, v :: vs, ⟨⟨h1, h2⟩, h3⟩ => ⟨h1, h2, flat_KL h3⟩
  | .agg l :: r, v :: vs, ⟨⟨cs, e, h1⟩, h3⟩ => by subst e; exact KL.append h1 (flat_KL h3)
  | .fn f :: r, v :: vs, ⟨_, h3⟩ => (flat_KL h3 : KL (ksOf r) (flat r vs))
omit [SemC] in
theorem initHp_get : ∀ (ks : List SK) (n : Nat) (t : Tr AO) (b : Nat) (o : AO), n + ks.length < Tr.lim → (initHp n ks t).get b = some o →
    (∃ k, n ≤ b ∧ ks[b - n]? = some k ∧ o = .sym 9 [] k) ∨ ((b < n ∨ n + ks.length ≤ b) ∧ t.get b = some o)
  | [], n, t, b, o, hl, h => .inr ⟨by simp; omega, h⟩
  | k :: ks, n, t, b, o, hl, h => by
    simp only [initHp] at h
    simp only [List.length_cons] at hl
    rcases initHp_get ks (n + 1) _ b o (by omega) h with ⟨k', h1, h2, h3⟩ | ⟨h1, h2⟩
    · exact .inl ⟨k', by omega, by rw [show b - n = (b - (n + 1)) + 1 by omega]; simpa using h2, h3⟩
    · rw [Tr.get_set _ _ _ _ (by omega)] at h2
      split at h2
      · rename_i e; subst e; cases h2; exact .inl ⟨k, Nat.le_refl _, by simp, rfl⟩
      · exact .inr ⟨by simp only [List.length_cons]; omega, h2⟩
theorem init_RH {ks : List SK} {cs : List Value} (h : KL ks cs) (hl : ks.length < Tr.lim) (w : World) : RH (thOf cs) ⟨initHp 0 ks .lf, ks.length⟩ w ∧ ∀ k, ¬ own (thOf cs) (initHp 0 ks .lf) k := by
  have hget : ∀ b o, (initHp 0 ks .lf).get b = some o → ∃ k, ks[b]? = some k ∧ o = .sym 9 [] k := by
    intro b o hg
    rcases initHp_get ks 0 .lf b o (by omega) hg with ⟨k, _, h2, h3⟩ | ⟨_, h2⟩
    · exact ⟨k, by simpa using h2, h3⟩
    · simp [Tr.get_lf] at h2
  refine ⟨⟨⟨?_, ?_⟩, ?_⟩, ?_⟩
  · intro b o hg
    obtain ⟨k, h1, rfl⟩ := hget b o hg
    obtain ⟨v, h2, h3, h4⟩ := h.get b k h1
    exact ⟨⟨0, 0, 0, 0, v⟩, by simp [thOf, h2], h3, h4, .inl rfl⟩
  · intro b b' o o' p p' g g' w1
    obtain ⟨k, _, rfl⟩ := hget b o g
    cases w1
  · intro b hb
    simp only at hb
    have : cs[b]? = none := List.getElem?_eq_none (by rw [← h.length]; exact hb)
    simp [thOf, this]
  · rintro k ⟨b, o, p, g, w1, _⟩
    obtain ⟨k, _, rfl⟩ := hget b o g
    cases w1
theorem chans_LR {θ : Th} : ∀ (cs : List Value) (n : Nat), (∀ (i : Nat) v, cs[i]? = some v → v.oneCell' = true ∧ θ (n + i) = some ⟨0, 0, 0, 0, v⟩) → LR θ (chans n cs.length) cs
  | [], _, _ => .nil
  | c :: cs, n, h => by
    obtain ⟨h1, h2⟩ := h 0 c (by simp)
    refine .cons (.sym (p := ⟨0, 0, 0, 0, c⟩) (by simpa using h2) h1) (chans_LR cs (n + 1) fun i v hv => ?_)
    obtain ⟨h3, h4⟩ := h (i + 1) v (by simpa using hv)
    exact ⟨h3, by rwa [show n + 1 + i = n + (i + 1) by omega]⟩
theorem KL.one : ∀ {a : List SK} {u : List Value}, KL a u → ∀ (i : Nat) v, u[i]? = some v → v.oneCell' = true
  | [], [], _, _, _, h => by simp at h
  | [], _ :: _, h, _, _, _ => h.elim
  | _ :: _, [], h, _, _, _ => h.elim
  | _ :: _, _ :: _, ⟨_, h2, h3⟩, i, v, h => by
    cases i with
    | zero => simp at h; subst h; exact h2
    | succ i => exact KL.one h3 i v (by simpa using h)
theorem abs_LR : ∀ {as : List AS} {vs : List Value} (pre : List Value), ASL as vs → LR (thOf (pre ++ flat as vs)) (absArgs pre.length as) vs
  | [], [], _, _ => .nil
  | [], _ :: _, _, h => h.elim
  | _ :: _, [], _, h => h.elim
  | .one k :: r, v :: vs, pre, ⟨⟨h1, h2⟩, h3⟩ => by
    refine .cons (.sym (p := ⟨0, 0, 0, 0, v⟩) ?_ h2) ?_
    · simp [thOf, flat]
    · have := abs_LR (pre ++ [v]) h3
      simpa [flat] using this
  | .agg l :: r, v :: vs, pre, ⟨⟨cs, e, h1⟩, h3⟩ => by
    subst e
    refine .cons (.agg ?_) ?_
    · rw [h1.length]
      refine chans_LR cs _ fun i v hv => ⟨h1.one i v hv, ?_⟩
      have hi := (List.getElem?_eq_some_iff.1 hv).1
      simp only [thOf, flat, Value.cells]
      rw [List.getElem?_append_right (by omega), List.getElem?_append_left (by simpa using by omega)]
      simp [hv]
    · have := abs_LR (pre ++ cs) h3
      rw [h1.length]
      simpa [flat, Value.cells] using this
  | .fn f :: r, v :: vs, pre, ⟨h1, h3⟩ => by
    have h1' : v = .func (.func f) #[] #[] := h1
    subst h1'
    exact .cons (.func .nil .nil) (abs_LR pre h3)
end

/-! ### The contract -/
def chkF (spec : BX) : List (Bool × AH) → Bool
  | [] => true
  | r :: l => match ev3 r.2.hp r.2.nx spec with
    | some c => match r.1 == c with
      | true => chkF spec l
      | false => false
    | none => false
def chkW (spec : BX) : List (Value × AH) → Bool
  | [] => true
  | r :: l => match forkB r.2 r.1 with
    | some fs => match chkF spec fs with
      | true => chkW spec l
      | false => false
    | none => false
theorem chkF_spec {spec : BX} : ∀ {l : List (Bool × AH)}, chkF spec l = true → ∀ b H, (b, H) ∈ l → ev3 H.hp H.nx spec = some b
  | [], _, _, _, h => by simp at h
  | r :: l, h, b, H, hm => by
    simp only [chkF] at h
    split at h
    · rename_i c hc
      split at h
      · rename_i he
        rcases List.mem_cons.1 hm with rfl | hm
        · have := eq_of_beq he; simp only at this hc; rw [hc, this]
        · exact chkF_spec h b H hm
      · cases h
    · cases h
theorem chkW_spec {spec : BX} : ∀ {l : List (Value × AH)}, chkW spec l = true → ∀ v H, (v, H) ∈ l → ∃ fs, forkB H v = some fs ∧ chkF spec fs = true
  | [], _, _, _, h => by simp at h
  | r :: l, h, v, H, hm => by
    simp only [chkW] at h
    split at h
    · rename_i fs hfs
      split at h
      · rename_i hc
        rcases List.mem_cons.1 hm with rfl | hm
        · exact ⟨fs, hfs, hc⟩
        · exact chkW_spec h v H hm
      · cases h
    · cases h

/-- The run of a function at arguments of which the sorts alone are known. -/
def runY (T : Tbl) (kn : TypeId → List SK) (B : Tab) (LO : Option (LP × Nat)) (n : Nat) (f : FuncId) (as : List AS) : Option (List (Value × AH)) :=
  match T.fn.get f with
  | some fn => evCall T (evY T kn B LO n) fn (absArgs 0 as) ⟨initHp 0 (ksOf as) .lf, (ksOf as).length⟩
  | none => none
def okRun (T : Tbl) (kn : TypeId → List SK) (B : Tab) (LO : Option (LP × Nat)) (n : Nat) (f : FuncId) (as : List AS) (spec : BX) : Bool :=
  match Nat.blt (ksOf as).length Tr.lim, okB (fun m => Nat.blt m (ksOf as).length) (fun _ => true) spec with
  | true, true => match runY T kn B LO n f as with
    | some outs => chkW spec outs
    | none => false
  | _, _ => false

section
variable [SemC] {P : Program} {T : Tbl} (hT : TblOK P T) (hfn : FnOK T) {kn : TypeId → List SK} {w0 : World} (hS : SemOK T kn w0) {B : Tab} (hB : TabOK P w0 B)
include hT hfn hS hB in
theorem run_calls {LO : Option (LP × Nat)} (hLO : LOok LO) {n : Nat} {f : FuncId} {as : List AS} {spec : BX} (h : okRun T kn B LO n f as spec = true) {w : World} (hw : Below w0.heap.size w0 w) {args : List Value} (ha : ASL as args) :
    Calls P f ⟨args⟩ w fun e w' => e = .returned (.bool (denB SemC.semf (thOf (flat as args)) spec)) ∧ Below w.heap.size w w' := by
  unfold okRun at h
  split at h
  · rename_i hlim hok
    split at h
    · rename_i outs hrun
      unfold runY at hrun
      split at hrun
      · rename_i fn hf
        obtain ⟨hR, hown⟩ := init_RH (flat_KL ha) (blt_spec hlim) w
        have hLR : LR (thOf (flat as args)) (absArgs 0 as) args := abs_LR [] ha
        refine (evCall_soundY hT (evY_ok hT hfn hS hB hLO n) (hT.fn _ _ hf) hLR hR ⟨hw, fun k _ => hown k⟩ hrun).mono ?_
        rintro e w' ⟨v', rfl, v, H', θ', hin, hv, hR', hF⟩
        obtain ⟨fs, hfs, hc⟩ := chkW_spec h v H' hin
        obtain ⟨b, H2, hm, rfl, hU⟩ := forkB_sound hR' hv hfs
        have h3 := ev3_sound (hU w' hR').1 spec b (chkF_spec hc b H2 hm)
        refine ⟨?_, ⟨hF.os, hF.tape, hF.output, hF.size, fun k hk => hF.keep k hk (hown k)⟩⟩
        rw [← h3, denB_congr (S := SemC.semf) (S' := SemC.semf) (θ := θ') (θ' := thOf (flat as args)) (p := fun m => Nat.blt m (ksOf as).length) (q := fun _ => true) (fun m hm => hF.old m (blt_spec hm)) (fun _ _ _ => rfl) spec hok]
      · cases hrun
    · cases h
  · cases h
end
end
end Go.Am
