/- Symbols: which are the same, of what sort they are; symbols made, symbols parted. -/
import Derived.Test.YtckboonjjlpogaaGreatAmEvalU
set_option linter.unusedVariables false
set_option linter.unusedSimpArgs false
namespace Go.Am
noncomputable section
variable [SemC]

/-! ### The same, by sight -/
def sid1 : Value → Value → Bool
  | .chan (some m), .chan (some n) => Nat.beq m n
  | .int k a, .int j b => match decide (k = j) with
    | true => decide (a = b)
    | false => false
  | .bool a, .bool b => a == b
  | .string ⟨⟨a⟩⟩, .string ⟨⟨b⟩⟩ => a == b
  | .func (.func f) ⟨[]⟩ ⟨[]⟩, .func (.func g) ⟨[]⟩ ⟨[]⟩ => Nat.beq f g
  | .pointer (some x), .pointer (some y) => addrEq x y
  | .slice (some x) a b, .slice (some y) c d => match addrEq x y, Nat.beq a c, Nat.beq b d, Nat.beq b unk, Nat.beq b 0 with
    | true, true, true, false, false => true
    | _, _, _, _, _ => false
  | .slice none 0 0, .slice none 0 0 => true
  | _, _ => false
omit [SemC] in
theorem sid1_spec {a b : Value} (h : sid1 a b = true) : a = b := by
  unfold sid1 at h
  split at h
  · rw [Nat.eq_of_beq_eq_true h]
  · split at h
    · rename_i hk
      rw [of_decide_eq_true hk, of_decide_eq_true h]
    · cases h
  · rw [eq_of_beq h]
  · rw [eq_of_beq h]
  · rw [Nat.eq_of_beq_eq_true h]
  · rw [addrEq_spec h]
  · split at h
    · rename_i h1 h2 h3 _ _
      rw [addrEq_spec h1, Nat.eq_of_beq_eq_true h2, Nat.eq_of_beq_eq_true h3]
    · cases h
  · rfl
  · cases h
theorem sid1_det {θ : Th} {a b u v : Value} (h : sid1 a b = true) (hu : VR θ a u) (hv : VR θ b v) : u = v := by
  have e := sid1_spec h
  subst e
  unfold sid1 at h
  split at h
  · cases hu with
    | sym e1 _ => cases hv with
      | sym e2 _ => rw [e1] at e2; cases e2; rfl
  · cases hu; cases hv; rfl
  · cases hu; cases hv; rfl
  · cases hu; cases hv; rfl
  · cases hu with
    | func a b => cases hv with
      | func c d => cases a; cases b; cases c; cases d; rfl
  · cases hu with
    | ptr e1 => cases hv with
      | ptr e2 => rw [e1] at e2; cases e2; rfl
  · split at h
    · rename_i h4 h5
      have n1 := Nat.ne_of_beq_eq_false h4
      have n2 := Nat.ne_of_beq_eq_false h5
      cases hu with
      | sl e1 _ => cases hv with
        | sl e2 _ => rw [e1] at e2; cases e2; rfl
        | slU => exact absurd rfl n1
        | slZ e => rcases e with e | e <;> contradiction
      | slU => exact absurd rfl n1
      | slZ e => rcases e with e | e <;> contradiction
    · cases h
  · cases hu; cases hv; rfl
  · cases h
def sidL (f : Value → Value → Bool) : List Value → List Value → Bool
  | [], [] => true
  | a :: r, b :: s => match f a b with
    | true => sidL f r s
    | false => false
  | _, _ => false
omit [SemC] in
theorem sidL_spec {f : Value → Value → Bool} (hf : ∀ a b, f a b = true → a = b) : ∀ {a b : List Value}, sidL f a b = true → a = b
  | [], [], _ => rfl
  | [], _ :: _, h => by simp [sidL] at h
  | _ :: _, [], h => by simp [sidL] at h
  | x :: a, y :: b, h => by
    simp only [sidL] at h
    split at h
    · rename_i h1; rw [hf _ _ h1, sidL_spec hf h]
    · cases h
theorem sidL_det {θ : Th} {f : Value → Value → Bool} (hf : ∀ a b u v, f a b = true → VR θ a u → VR θ b v → u = v) : ∀ {a b u v : List Value}, sidL f a b = true → LR θ a u → LR θ b v → u = v
  | [], [], _, _, _, .nil, .nil => rfl
  | [], _ :: _, _, _, h, _, _ => by simp [sidL] at h
  | _ :: _, [], _, _, h, _, _ => by simp [sidL] at h
  | x :: a, y :: b, _, _, h, .cons h1 h2, .cons h3 h4 => by
    simp only [sidL] at h
    split at h
    · rename_i hxy; rw [hf _ _ _ _ hxy h1 h3, sidL_det hf h h2 h4]
    · cases h
def sidN : Nat → Value → Value → Bool
  | 0, a, b => sid1 a b
  | n + 1, a, b => match a, b with
    | .agg ⟨xs⟩, .agg ⟨ys⟩ => sidL (sidN n) xs ys
    | .func (.method p) ⟨.int k x :: xs⟩ ⟨[]⟩, .func (.method q) ⟨.int j y :: ys⟩ ⟨[]⟩ => match decide (p = q), decide (k = j), decide (x = y) with
      | true, true, true => sidL (sidN n) xs ys
      | _, _, _ => false
    | a, b => sid1 a b
omit [SemC] in
theorem sidN_spec : ∀ (n : Nat) {a b : Value}, sidN n a b = true → a = b
  | 0, _, _, h => sid1_spec h
  | n + 1, a, b, h => by
    unfold sidN at h
    split at h
    · rw [sidL_spec (fun _ _ => sidN_spec n) h]
    · split at h
      · rename_i h1 h2 h3
        rw [of_decide_eq_true h1, of_decide_eq_true h2, of_decide_eq_true h3, sidL_spec (fun _ _ => sidN_spec n) h]
      · cases h
    · exact sid1_spec h
theorem sidN_det {θ : Th} : ∀ (n : Nat) (a b u v : Value), sidN n a b = true → VR θ a u → VR θ b v → u = v
  | 0, _, _, _, _, h, hu, hv => sid1_det h hu hv
  | n + 1, a, b, u, v, h, hu, hv => by
    unfold sidN at h
    split at h
    · cases hu with
      | agg lu => cases hv with
        | agg lv => rw [sidL_det (sidN_det n) h lu lv]
    · split at h
      · rename_i h1 h2 h3
        have h3' := of_decide_eq_true h3
        cases hu with
        | ap lu eu => cases hv with
          | ap lv ev =>
            have e := sidL_det (sidN_det n) h lu lv
            have ht : ∀ m m' : Nat, Int.ofNat m = Int.ofNat m' → m = m' := fun m m' e => Int.ofNat.inj e
            have := ht _ _ h3'
            subst this
            rw [e, ev] at eu
            exact eu.symm
      · cases h
    · exact sid1_det h hu hv
def sid (a b : Value) : Bool := sidN 6 a b
omit [SemC] in
theorem sid_spec {a b : Value} (h : sid a b = true) : a = b := sidN_spec 6 h
theorem sid_det {θ : Th} {a b u v : Value} (h : sid a b = true) (hu : VR θ a u) (hv : VR θ b v) : u = v := sidN_det 6 a b u v h hu hv

/-! ### Sorts -/
def sortB (hp : Tr AO) : Value → Bool
  | .bool _ => true
  | .chan (some n) => match hp.get n with
    | some (.sym _ _ .bool) => true
    | some (.sym _ _ (.boolK _)) => true
    | _ => false
  | _ => false
def sortS (hp : Tr AO) : Value → Bool
  | .string _ => true
  | .chan (some n) => match hp.get n with
    | some (.sym _ _ .str) => true
    | _ => false
  | _ => false

section
theorem sortB_sound {θ : Th} {hp : Tr AO} {heap : Array Obj} (hR : RO θ hp heap) {v v' : Value} (hv : VR θ v v') (h : sortB hp v = true) : ∃ b, v' = .bool b := by
  unfold sortB at h
  split at h
  · cases hv; exact ⟨_, rfl⟩
  · split at h
    · rename_i hg; exact (hR.symAt hg hv).1
    · rename_i hg; exact ⟨_, (hR.symAt hg hv).1⟩
    · cases h
  · cases h
theorem sortS_sound {θ : Th} {hp : Tr AO} {heap : Array Obj} (hR : RO θ hp heap) {v v' : Value} (hv : VR θ v v') (h : sortS hp v = true) : ∃ s, v' = .string s := by
  unfold sortS at h
  split at h
  · cases hv; exact ⟨_, rfl⟩
  · split at h
    · rename_i hg; exact (hR.symAt hg hv).1
    · cases h
  · cases h
end

section
/-- A step that turns what is known alone, in whatever world. -/
def Up (θ : Th) (H : AH) (θ' : Th) (H' : AH) : Prop := ∀ w, RH θ H w → RH θ' H' w ∧ Fr θ H w θ' H' w
theorem Up.refl (θ : Th) (H : AH) : Up θ H θ H := fun _ h => ⟨h, Fr.refl _ _ _⟩
theorem Up.trans {θ θ₁ θ₂ : Th} {H H₁ H₂ : AH} (h : Up θ H θ₁ H₁) (k : Up θ₁ H₁ θ₂ H₂) : Up θ H θ₂ H₂ := fun w hR =>
  let ⟨h1, h2⟩ := h w hR
  let ⟨k1, k2⟩ := k w h1
  ⟨k1, h2.trans k2⟩
theorem Up.ext {θ θ' : Th} {H H' : AH} (h : Up θ H θ' H') {w : World} (hR : RH θ H w) : Ext θ θ' := (h w hR).2.ext hR.fresh
/-- What an operation that writes nothing comes to. -/
def FQ (θ : Th) (H : AH) (outs : List (Value × AH)) (v' : Value) : Prop := ∃ v H' θ', (v, H') ∈ outs ∧ VR θ' v v' ∧ Up θ H θ' H'
theorem FQ.fp {θ : Th} {H : AH} {outs : List (Value × AH)} {v' : Value} (h : FQ θ H outs v') {w : World} (hR : RH θ H w) : FP θ H w outs v' w :=
  let ⟨v, H', θ', h1, h2, h3⟩ := h
  ⟨v, H', θ', h1, h2, (h3 w hR).1, (h3 w hR).2⟩
end
/-! ### A symbol that stands for what a tag says of some values -/
def find (hp : Tr AO) (tag : Nat) (args : List Value) : Nat → Option (Nat × SK)
  | 0 => none
  | m + 1 => match hp.get m with
    | some (.sym t as kd) => match Nat.beq t tag with
      | true => match sidL sid as args with
        | true => some (m, kd)
        | false => find hp tag args m
      | false => find hp tag args m
    | _ => find hp tag args m
omit [SemC] in
theorem find_spec {hp : Tr AO} {tag : Nat} {args : List Value} {r : Nat} {kd : SK} : ∀ {m : Nat}, find hp tag args m = some (r, kd) → ∃ as, hp.get r = some (.sym tag as kd) ∧ sidL sid as args = true
  | 0, h => by simp [find] at h
  | m + 1, h => by
    simp only [find] at h
    split at h
    · rename_i t as kd' hg
      split at h
      · rename_i ht
        split at h
        · rename_i hs
          cases h
          rw [Nat.eq_of_beq_eq_true ht] at hg
          exact ⟨as, hg, hs⟩
        · exact find_spec h
      · exact find_spec h
    · exact find_spec h
def symR (tag : Nat) (args : List Value) (kd : SK) (H : AH) : Option (Value × AH) :=
  match Nat.beq tag 9 with
  | true => none
  | false =>
  match find H.hp tag args H.nx with
  | some (m, kd') => match kd' with
    | .boolK b => some (.bool b, H)
    | _ => some (.chan (some m), H)
  | none => match Nat.blt H.nx Tr.lim with
    | true => some (.chan (some H.nx), ⟨H.hp.set H.nx (some (.sym tag args kd)), Nat.succ H.nx⟩)
    | false => none

section
theorem symR_sound {θ : Th} {H H' : AH} {w : World} (hR : RH θ H w) {tag : Nat} {args args' : List Value} {kd : SK} (ha : LR θ args args') (hk : kd.ok (SemC.semf tag args')) (h1 : (SemC.semf tag args').oneCell' = true) {v : Value}
    (h : symR tag args kd H = some (v, H')) : ∃ θ', VR θ' v (SemC.semf tag args') ∧ Up θ H θ' H' := by
  unfold symR at h
  split at h
  · cases h
  rename_i h9
  have h9' : tag ≠ 9 := Nat.ne_of_beq_eq_false h9
  split at h
  · rename_i m kd' hf
    obtain ⟨as, hg, hs⟩ := find_spec hf
    obtain ⟨p, hp, hok, hone, hor⟩ := hR.obj _ _ hg
    obtain ⟨args'', hl, hval⟩ := hor.resolve_left h9'
    have e : args'' = args' := sidL_det (fun _ _ _ _ => sid_det) hs hl ha
    subst e
    split at h
    · cases h
      refine ⟨θ, ?_, Up.refl _ _⟩
      rw [← hval]
      have : p.val = .bool _ := hok
      rw [this]
      exact .bool _
    · cases h
      refine ⟨θ, ?_, Up.refl _ _⟩
      rw [← hval]
      exact .sym hp hone
  · split at h
    · rename_i hlim
      have hlim' := blt_spec hlim
      cases h
      have hn : θ H.nx = none := hR.fresh _ (Nat.le_refl _)
      refine ⟨upd θ H.nx ⟨0, 0, 0, 0, SemC.semf tag args'⟩, ?_, fun w1 hR1 => ⟨⟨⟨?_, ?_⟩, ?_⟩, ?_⟩⟩
      · exact .sym (p := ⟨0, 0, 0, 0, SemC.semf tag args'⟩) (upd_same _ _ _) h1
      · intro b o hg
        rw [Tr.get_set _ _ _ _ hlim'] at hg
        by_cases e : b = H.nx
        · subst e; rw [if_pos rfl] at hg; cases hg
          exact ⟨_, upd_same _ _ _, hk, h1, .inr ⟨args', ha.mono (Ext.upd _ hn), rfl⟩⟩
        · rw [if_neg e] at hg
          obtain ⟨q, hq, hr⟩ := hR1.obj b o hg
          exact ⟨q, by rw [upd_ne _ _ _ e]; exact hq, hr.mono (Ext.upd _ hn) rfl⟩
      · intro b b' o o' p p' g g' w1 w2 e e' ec
        rw [Tr.get_set _ _ _ _ hlim'] at g g'
        by_cases c : b = H.nx
        · subst c; rw [if_pos rfl] at g; cases g; cases w1
        · rw [if_neg c] at g
          rw [upd_ne _ _ _ c] at e
          by_cases c' : b' = H.nx
          · subst c'; rw [if_pos rfl] at g'; cases g'; cases w2
          · rw [if_neg c'] at g'
            rw [upd_ne _ _ _ c'] at e'
            exact hR1.inj _ _ _ _ _ _ g g' w1 w2 e e' ec
      · intro b hb
        have hb' : H.nx + 1 ≤ b := hb
        rw [upd_ne _ _ _ (by omega)]
        exact hR1.fresh b (by omega)
      · refine ⟨Nat.le_refl _, rfl, rfl, rfl, fun _ _ _ => rfl, ?_, ?_, Nat.le_succ _⟩
        · intro k hk ⟨b, o, p, g, w1, e, ec⟩
          simp only at g
          rw [Tr.get_set _ _ _ _ hlim'] at g
          by_cases c : b = H.nx
          · subst c; rw [if_pos rfl] at g; cases g; cases w1
          · rw [if_neg c] at g
            rw [upd_ne _ _ _ c] at e
            exact ⟨b, o, p, g, w1, e, ec⟩
        · intro b hb
          exact upd_ne _ _ _ (by omega)
    · cases h
end

/-! ### A Bool that is asked for: both ways -/
def forkB (H : AH) (v : Value) : Option (List (Bool × AH)) :=
  match v with
  | .bool b => some [(b, H)]
  | .chan (some n) => match H.hp.get n with
    | some (.sym tag args kd) => match kd with
      | .boolK b => some [(b, H)]
      | .bool => match Nat.blt n Tr.lim with
        | true => some [(true, ⟨H.hp.set n (some (.sym tag args (.boolK true))), H.nx⟩), (false, ⟨H.hp.set n (some (.sym tag args (.boolK false))), H.nx⟩)]
        | false => none
      | _ => none
    | _ => none
  | _ => none
section
theorem RH.setS {θ : Th} {H : AH} {w : World} (hR : RH θ H w) {n tag : Nat} {args : List Value} {kd kd' : SK} (hg : H.hp.get n = some (.sym tag args kd)) (hn : n < Tr.lim) (hk : ∀ p, θ n = some p → kd'.ok p.val) :
    RH θ ⟨H.hp.set n (some (.sym tag args kd')), H.nx⟩ w ∧ Fr θ H w θ ⟨H.hp.set n (some (.sym tag args kd')), H.nx⟩ w := by
  refine ⟨⟨⟨?_, ?_⟩, hR.fresh⟩, ?_⟩
  · intro b o g
    rw [Tr.get_set _ _ _ _ hn] at g
    by_cases c : b = n
    · subst c; rw [if_pos rfl] at g; cases g
      obtain ⟨p, hp, hok, hone, h1⟩ := hR.obj _ _ hg
      exact ⟨p, hp, hk p hp, hone, h1⟩
    · rw [if_neg c] at g; exact hR.obj b o g
  · intro b b' o o' p p' g g' w1 w2 e e' ec
    rw [Tr.get_set _ _ _ _ hn] at g g'
    by_cases c : b = n
    · subst c; rw [if_pos rfl] at g; cases g; cases w1
    · rw [if_neg c] at g
      by_cases c' : b' = n
      · subst c'; rw [if_pos rfl] at g'; cases g'; cases w2
      · rw [if_neg c'] at g'
        exact hR.inj _ _ _ _ _ _ g g' w1 w2 e e' ec
  · refine ⟨Nat.le_refl _, rfl, rfl, rfl, fun _ _ _ => rfl, ?_, fun _ _ => rfl, Nat.le_refl _⟩
    intro k _ ⟨b, o, p, g, w1, e, ec⟩
    simp only at g
    rw [Tr.get_set _ _ _ _ hn] at g
    by_cases c : b = n
    · subst c; rw [if_pos rfl] at g; cases g; cases w1
    · rw [if_neg c] at g; exact ⟨b, o, p, g, w1, e, ec⟩
theorem forkB_sound {θ : Th} {H : AH} {w : World} (hR : RH θ H w) {v v' : Value} (hv : VR θ v v') {l : List (Bool × AH)} (h : forkB H v = some l) : ∃ b H', (b, H') ∈ l ∧ v' = .bool b ∧ Up θ H θ H' := by
  unfold forkB at h
  split at h
  · cases h; cases hv; exact ⟨_, _, List.mem_singleton.2 rfl, rfl, Up.refl _ _⟩
  · rename_i n
    split at h
    · rename_i tag args kd hg
      obtain ⟨hok, _⟩ := RO.symAt ⟨hR.obj, hR.inj⟩ hg hv
      split at h
      · cases h; exact ⟨_, _, List.mem_singleton.2 rfl, hok, Up.refl _ _⟩
      · split at h
        · rename_i hlim
          have hlim' := blt_spec hlim
          cases h
          obtain ⟨b, rfl⟩ := hok
          have hk : ∀ p, θ n = some p → (SK.boolK b).ok p.val := by
            intro p hp
            generalize hz : Value.bool b = z at hv
            cases hv with
            | sym e _ => rw [hp] at e; cases e; exact hz.symm
          have hU : Up θ H θ ⟨H.hp.set n (some (.sym tag args (.boolK b))), H.nx⟩ := fun w1 hR1 => hR1.setS (kd' := .boolK b) hg hlim' hk
          cases b with
          | true => exact ⟨true, _, List.mem_cons_self, rfl, hU⟩
          | false => exact ⟨false, _, List.mem_cons_of_mem _ List.mem_cons_self, rfl, hU⟩
        · cases h
      · cases h
    · cases h
  · cases h
end
end
end Go.Am
