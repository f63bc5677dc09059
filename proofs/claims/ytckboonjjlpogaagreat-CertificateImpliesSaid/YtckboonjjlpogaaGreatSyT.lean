/- Terms over symbols, and what a heap knows of them. -/
import Derived.Test.YtckboonjjlpogaaGreatSy4
set_option linter.unusedVariables false
set_option linter.unusedSimpArgs false
namespace Go.Am
open Go.RowKit
noncomputable section

/-! ### Terms over the arguments' cells -/
inductive TM where
  | v (x : Value)
  | ap (tag : Nat) (args : List TM)
  | agg (l : List TM)
inductive BX where
  | tt
  | ff
  | a (t : TM)
  | not (x : BX)
  | and (x y : BX)
  | or (x y : BX)
  | ite (c x y : BX)

def dv (θ : Th) (x : Value) : Value :=
  match x with
  | .chan (some n) => match θ n with
    | some p => p.val
    | none => undef
  | x => x
mutual
def den (S : Nat → List Value → Value) (θ : Th) : TM → Value
  | .v x => dv θ x
  | .ap tag args => S tag (denL S θ args)
  | .agg l => .agg ⟨denL S θ l⟩
def denL (S : Nat → List Value → Value) (θ : Th) : List TM → List Value
  | [] => []
  | t :: ts => den S θ t :: denL S θ ts
end
def isT : Value → Bool
  | .bool b => b
  | _ => false
def denB (S : Nat → List Value → Value) (θ : Th) : BX → Bool
  | .tt => true
  | .ff => false
  | .a t => isT (den S θ t)
  | .not x => !denB S θ x
  | .and x y => denB S θ x && denB S θ y
  | .or x y => denB S θ x || denB S θ y
  | .ite c x y => match denB S θ c with
    | true => denB S θ x
    | false => denB S θ y

/-- Which symbols, which tags stand in it. -/
def okV (p : Nat → Bool) (x : Value) : Bool :=
  match x with
  | .chan (some n) => p n
  | x => cst x
mutual
def okT (p q : Nat → Bool) : TM → Bool
  | .v x => okV p x
  | .ap tag args => match q tag with
    | true => okTL p q args
    | false => false
  | .agg l => okTL p q l
def okTL (p q : Nat → Bool) : List TM → Bool
  | [] => true
  | t :: ts => match okT p q t with
    | true => okTL p q ts
    | false => false
end
def okB (p q : Nat → Bool) : BX → Bool
  | .tt => true
  | .ff => true
  | .a t => okT p q t
  | .not x => okB p q x
  | .and x y => match okB p q x with
    | true => okB p q y
    | false => false
  | .or x y => match okB p q x with
    | true => okB p q y
    | false => false
  | .ite c x y => match okB p q c with
    | true => match okB p q x with
      | true => okB p q y
      | false => false
    | false => false

mutual
theorem den_congr {S S' : Nat → List Value → Value} {θ θ' : Th} {p q : Nat → Bool} (hp : ∀ n, p n = true → θ n = θ' n) (hq : ∀ t as, q t = true → S t as = S' t as) : ∀ (t : TM), okT p q t = true → den S θ t = den S' θ' t
  | .v x, h => by
    simp only [okT, okV] at h
    simp only [den, dv]
    split
    · rename_i n; rw [hp n h]
    · rfl
  | .ap tag args, h => by
    simp only [okT] at h
    split at h
    · rename_i ht; simp only [den]; rw [denL_congr hp hq args h, hq _ _ ht]
    · cases h
  | .agg l, h => by simp only [okT] at h; simp only [den]; rw [denL_congr hp hq l h]
theorem denL_congr {S S' : Nat → List Value → Value} {θ θ' : Th} {p q : Nat → Bool} (hp : ∀ n, p n = true → θ n = θ' n) (hq : ∀ t as, q t = true → S t as = S' t as) : ∀ (l : List TM), okTL p q l = true → denL S θ l = denL S' θ' l
  | [], _ => rfl
  | t :: ts, h => by
    simp only [okTL] at h
    split at h
    · rename_i ht; simp only [denL]; rw [den_congr hp hq t ht, denL_congr hp hq ts h]
    · cases h
end
theorem denB_congr {S S' : Nat → List Value → Value} {θ θ' : Th} {p q : Nat → Bool} (hp : ∀ n, p n = true → θ n = θ' n) (hq : ∀ t as, q t = true → S t as = S' t as) : ∀ (x : BX), okB p q x = true → denB S θ x = denB S' θ' x
  | .tt, _ => rfl
  | .ff, _ => rfl
  | .a t, h => by simp only [denB]; rw [den_congr hp hq t h]
  | .not x, h => by simp only [denB]; rw [denB_congr hp hq x h]
  | .and x y, h => by
    simp only [okB] at h
    split at h
    · rename_i h1; simp only [denB]; rw [denB_congr hp hq x h1, denB_congr hp hq y h]
    · cases h
  | .or x y, h => by
    simp only [okB] at h
    split at h
    · rename_i h1; simp only [denB]; rw [denB_congr hp hq x h1, denB_congr hp hq y h]
    · cases h
  | .ite c x y, h => by
    simp only [okB] at h
    split at h
    · rename_i h1
      split at h
      · rename_i h2; simp only [denB]; rw [denB_congr hp hq c h1, denB_congr hp hq x h2, denB_congr hp hq y h]
      · cases h
    · cases h

/-! ### What a heap knows of a term -/
mutual
def rsv (hp : Tr AO) (nx : Nat) : TM → Option Value
  | .v x => match x with
    | .chan (some n) => match hp.get n with
      | some (.sym _ _ (.boolK b)) => some (.bool b)
      | some (.sym _ _ _) => some (.chan (some n))
      | _ => none
    | x => match cst x with
      | true => some x
      | false => none
  | .ap tag args => match Nat.beq tag 9, rsvL hp nx args with
    | false, some as => match find hp tag as nx with
      | some (m, kd) => match kd with
        | .boolK b => some (.bool b)
        | _ => some (.chan (some m))
      | none => none
    | _, _ => none
  | .agg l => match rsvL hp nx l with
    | some vs => some (.agg ⟨vs⟩)
    | none => none
def rsvL (hp : Tr AO) (nx : Nat) : List TM → Option (List Value)
  | [] => some []
  | t :: ts => match rsv hp nx t with
    | some v => match rsvL hp nx ts with
      | some vs => some (v :: vs)
      | none => none
    | none => none
end
def not3 : Option Bool → Option Bool
  | some b => some (!b)
  | none => none
def and3 (x y : Option Bool) : Option Bool :=
  match x with
  | some false => some false
  | some true => y
  | none => match y with
    | some false => some false
    | _ => none
def or3 (x y : Option Bool) : Option Bool :=
  match x with
  | some true => some true
  | some false => y
  | none => match y with
    | some true => some true
    | _ => none
def ev3 (hp : Tr AO) (nx : Nat) : BX → Option Bool
  | .tt => some true
  | .ff => some false
  | .a t => match rsv hp nx t with
    | some (.bool b) => some b
    | _ => none
  | .not x => not3 (ev3 hp nx x)
  | .and x y => and3 (ev3 hp nx x) (ev3 hp nx y)
  | .or x y => or3 (ev3 hp nx x) (ev3 hp nx y)
  | .ite c x y => match ev3 hp nx c with
    | some true => ev3 hp nx x
    | some false => ev3 hp nx y
    | none => none

section
variable [SemC]
mutual
theorem rsv_sound {θ : Th} {H : AH} {w : World} (hR : RH θ H w) : ∀ (t : TM) (v : Value), rsv H.hp H.nx t = some v → VR θ v (den SemC.semf θ t)
  | .v x, v, h => by
    simp only [rsv] at h
    simp only [den, dv]
    split at h
    · rename_i n
      split at h
      · rename_i tag args b hg
        cases h
        obtain ⟨p, hp, hok, hone, _⟩ := hR.obj _ _ hg
        rw [hp]
        have : p.val = .bool b := hok
        simp only [this]
        exact .bool _
      · rename_i tag args kd hne hg
        cases h
        obtain ⟨p, hp, hok, hone, _⟩ := hR.obj _ _ hg
        rw [hp]
        exact .sym hp hone
      · cases h
    · rename_i hnc
      split at h
      · rename_i hc
        cases h
        exact VR.of_cst θ _ hc
      · cases h
  | .ap tag args, v, h => by
    simp only [rsv] at h
    split at h
    · rename_i as h9 has
      have hl := rsvL_sound hR args as has
      have h9' := Nat.ne_of_beq_eq_false h9
      split at h
      · rename_i m kd hf
        obtain ⟨as', hg, hs⟩ := find_spec hf
        obtain ⟨p, hp, hok, hone, hor⟩ := hR.obj _ _ hg
        obtain ⟨args'', hl2, hval⟩ := hor.resolve_left h9'
        have e : args'' = denL SemC.semf θ args := sidL_det (fun _ _ _ _ => sid_det) hs hl2 hl
        simp only [den]
        rw [← e, ← hval]
        split at h
        · cases h
          have : p.val = .bool _ := hok
          rw [this]; exact .bool _
        · cases h; exact .sym hp hone
      · cases h
    · cases h
  | .agg l, v, h => by
    simp only [rsv] at h
    split at h
    · rename_i vs hvs
      cases h
      exact .agg (rsvL_sound hR l vs hvs)
    · cases h
theorem rsvL_sound {θ : Th} {H : AH} {w : World} (hR : RH θ H w) : ∀ (l : List TM) (vs : List Value), rsvL H.hp H.nx l = some vs → LR θ vs (denL SemC.semf θ l)
  | [], vs, h => by simp only [rsvL, Option.some.injEq] at h; subst h; exact .nil
  | t :: ts, vs, h => by
    simp only [rsvL] at h
    split at h
    · rename_i v hv
      split at h
      · rename_i us hus
        cases h
        exact .cons (rsv_sound hR t v hv) (rsvL_sound hR ts us hus)
      · cases h
    · cases h
end
theorem ev3_sound {θ : Th} {H : AH} {w : World} (hR : RH θ H w) : ∀ (x : BX) (b : Bool), ev3 H.hp H.nx x = some b → denB SemC.semf θ x = b
  | .tt, b, h => by cases h; rfl
  | .ff, b, h => by cases h; rfl
  | .a t, b, h => by
    simp only [ev3] at h
    split at h
    · rename_i c hc
      cases h
      have := rsv_sound hR t _ hc
      simp only [denB]
      generalize den SemC.semf θ t = z at this
      cases this; rfl
    · cases h
  | .not x, b, h => by
    simp only [ev3] at h
    cases hx : ev3 H.hp H.nx x with
    | none => rw [hx] at h; cases h
    | some c => rw [hx] at h; cases h; simp only [denB]; rw [ev3_sound hR x c hx]
  | .and x y, b, h => by
    simp only [ev3] at h
    simp only [denB]
    cases hx : ev3 H.hp H.nx x with
    | some c =>
      rw [ev3_sound hR x c hx]
      rw [hx] at h
      cases c with
      | false => cases h; rfl
      | true => simp only [and3] at h; rw [ev3_sound hR y b h]; rfl
    | none =>
      rw [hx] at h
      cases hy : ev3 H.hp H.nx y with
      | none => rw [hy] at h; cases h
      | some d =>
        rw [hy] at h
        cases d with
        | false => cases h; rw [ev3_sound hR y _ hy]; simp
        | true => cases h
  | .or x y, b, h => by
    simp only [ev3] at h
    simp only [denB]
    cases hx : ev3 H.hp H.nx x with
    | some c =>
      rw [ev3_sound hR x c hx]
      rw [hx] at h
      cases c with
      | true => cases h; rfl
      | false => simp only [or3] at h; rw [ev3_sound hR y b h]; rfl
    | none =>
      rw [hx] at h
      cases hy : ev3 H.hp H.nx y with
      | none => rw [hy] at h; cases h
      | some d =>
        rw [hy] at h
        cases d with
        | true => cases h; rw [ev3_sound hR y _ hy]; simp
        | false => cases h
  | .ite c x y, b, h => by
    simp only [ev3] at h
    simp only [denB]
    cases hc : ev3 H.hp H.nx c with
    | none => rw [hc] at h; cases h
    | some d =>
      rw [hc] at h
      rw [ev3_sound hR c d hc]
      cases d with
      | true => exact ev3_sound hR x b h
      | false => exact ev3_sound hR y b h
end
end
end Go.Am
