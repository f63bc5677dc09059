/- CertificateImplies: what an argument that can be read looks like. -/
import Derived.Test.YtckboonjjlpogaaGreatSe2
import Derived.ChangeShapes
import Derived.ChangeArms
import Derived.OpenShut
import GoSem.ClaimChange
set_option linter.unusedVariables false
set_option linter.unusedSimpArgs false
namespace Go.Am
open Go.RowKit
noncomputable section

theorem mapM_get {α β : Type} {g : α → Option β} : ∀ {l : List α} {xs : List β}, l.mapM g = some xs → ∀ (i : Nat) (a : α), l[i]? = some a → ∃ x, g a = some x ∧ xs[i]? = some x
  | [], xs, h, i, a, ha => by simp at ha
  | b :: l, xs, h, i, a, ha => by
    rw [List.mapM_cons] at h
    cases hb : g b with
    | none => rw [hb] at h; cases h
    | some y =>
      cases hl : l.mapM g with
      | none => rw [hb, hl] at h; cases h
      | some ys =>
        rw [hb, hl] at h
        have h : some (y :: ys) = some xs := h
        cases h
        cases i with
        | zero => simp at ha; subst ha; exact ⟨y, hb, by simp⟩
        | succ i =>
          obtain ⟨x, h1, h2⟩ := mapM_get hl i a (by simpa using ha)
          exact ⟨x, h1, by simpa using h2⟩

/-! ### The sorts of a type's cells -/
def sortsF (T : Tbl) (rec : TypeId → Option (List SK)) : Nat → List (Nat × TypeId) → Option (List SK)
  | _, [] => some []
  | off, f :: fs => match Nat.beq f.1 off, T.ty.get f.2, rec f.2 with
    | true, some (j, _), some ks => match Nat.beq j.size ks.length, sortsF T rec (off + ks.length) fs with
      | true, some r => some (ks ++ r)
      | _, _ => none
    | _, _, _ => none
def pairsA (e c : Nat) : Nat → Nat → List (Nat × TypeId)
  | _, 0 => []
  | i, n + 1 => (i * c, e) :: pairsA e c (i + 1) n
def sortsT (T : Tbl) : Nat → TypeId → Option (List SK)
  | 0, _ => none
  | n + 1, t => match T.ty.get t with
    | some (i, d) => match d with
      | .bool => some [.bool]
      | .int k => some [.int k]
      | .string => some [.str]
      | .slice e => some [.slice e]
      | .struct fs => match sortsF T (sortsT T n) 0 (fs.toList.map fun f => (f.offset, f.type)) with
        | some ks => match Nat.beq i.size ks.length with
          | true => some ks
          | false => none
        | none => none
      | .array m e => match T.ty.get e with
        | some (j, _) => match sortsF T (sortsT T n) 0 (pairsA e j.size 0 m) with
          | some ks => match Nat.beq i.size ks.length with
            | true => some ks
            | false => none
          | none => none
        | none => none
      | _ => none
    | none => none

def KLR (R : TypeId → Value → Prop) : List SK → List Value → Prop
  | [], [] => True
  | k :: ks, v :: vs => okR R k v ∧ v.oneCell' = true ∧ KLR R ks vs
  | _, _ => False
theorem KLR.append {R : TypeId → Value → Prop} : ∀ {a b : List SK} {u v : List Value}, KLR R a u → KLR R b v → KLR R (a ++ b) (u ++ v)
  | [], _, [], _, _, h => h
  | [], _, _ :: _, _, h, _ => h.elim
  | _ :: _, _, [], _, h, _ => h.elim
  | _ :: _, _, _ :: _, _, ⟨h1, h2, h3⟩, h => ⟨h1, h2, KLR.append h3 h⟩
theorem KLR.mono {R R' : TypeId → Value → Prop} (hm : ∀ e v, R e v → R' e v) : ∀ {a : List SK} {u : List Value}, KLR R a u → KLR R' a u
  | [], [], _ => trivial
  | [], _ :: _, h => h.elim
  | _ :: _, [], h => h.elim
  | _ :: _, _ :: _, ⟨h1, h2, h3⟩ => ⟨okR_mono hm h1, h2, KLR.mono hm h3⟩
theorem KLR.get {R : TypeId → Value → Prop} : ∀ {a : List SK} {u : List Value}, KLR R a u → ∀ (i : Nat) (k : SK), a[i]? = some k → ∃ v, u[i]? = some v ∧ okR R k v ∧ v.oneCell' = true
  | [], _, _, i, k, h => by simp at h
  | _ :: _, [], h, _, _, _ => h.elim
  | x :: a, v :: u, ⟨h1, h2, h3⟩, i, k, h => by
    cases i with
    | zero => simp at h; subst h; exact ⟨v, by simp, h1, h2⟩
    | succ i => obtain ⟨v', a1, a2⟩ := KLR.get h3 i k (by simpa using h); exact ⟨v', by simpa using a1, a2⟩
theorem KLR.length {R : TypeId → Value → Prop} : ∀ {a : List SK} {u : List Value}, KLR R a u → a.length = u.length
  | [], [], _ => rfl
  | [], _ :: _, h => h.elim
  | _ :: _, [], h => h.elim
  | _ :: _, _ :: _, ⟨_, _, h⟩ => by simp [KLR.length h]

section
variable {H : Type} {enc : TypeId × Value → H} {P : Program} {T : Tbl} (hT : TblOK P T) {w : World}
abbrev TR0 (enc : TypeId × Value → H) (P : Program) (w : World) := DataW.trod enc P w 0 (fun _ => true) true
/-- A slice that was read, with less than so much fuel. -/
def RT (enc : TypeId × Value → H) (P : Program) (w : World) (m : Nat) (e : TypeId) (v : Value) : Prop := ∃ f t y, f < m ∧ P.underlying t = some (.slice e) ∧ TR0 enc P w (f + 1) t [v] = some y
theorem RT.up {m m' : Nat} (h : m ≤ m') {e : TypeId} {v : Value} (hr : RT enc P w m e v) : RT enc P w m' e v :=
  let ⟨f, t, y, h1, h2, h3⟩ := hr
  ⟨f, t, y, Nat.lt_of_lt_of_le h1 h, h2, h3⟩

include hT in
theorem cellsOf_of {t : TypeId} {j : TypeInfo} {d : TypeDesc} (h : T.ty.get t = some (j, d)) : P.cellsOf t = j.size := by
  simp [Program.cellsOf, (hT.ty _ _ _ h).1]

include hT in
theorem sortsF_sound {R : TypeId → Value → Prop} {rec : TypeId → Option (List SK)} {cs : List Value} {G : TypeId → List Value → Prop} (hrec : ∀ t xs ks, G t xs → rec t = some ks → KLR R ks xs) :
    ∀ (l : List (Nat × TypeId)) (off : Nat) (ks : List SK), (∀ x ∈ l, G x.2 ((cs.drop x.1).take (P.cellsOf x.2))) → sortsF T rec off l = some ks → off ≤ cs.length → KLR R ks ((cs.drop off).take ks.length)
  | [], off, ks, _, h, _ => by simp only [sortsF, Option.some.injEq] at h; subst h; simp [KLR]
  | x :: l, off, ks, hx, h, hoff => by
    simp only [sortsF] at h
    split at h
    · rename_i j d ks1 h1 h2 h3
      split at h
      · rename_i r h4 h5
        cases h
        have e1 := Nat.eq_of_beq_eq_true h1
        have e4 := Nat.eq_of_beq_eq_true h4
        have k1 := hrec _ _ _ (hx x List.mem_cons_self) h3
        rw [e1, cellsOf_of hT h2, e4] at k1
        have hl := k1.length
        simp only [List.length_take, List.length_drop] at hl
        have hle : off + ks1.length ≤ cs.length := by omega
        have k2 := sortsF_sound hrec l (off + ks1.length) r (fun z hz => hx z (List.mem_cons_of_mem _ hz)) h5 hle
        have := k1.append k2
        rw [List.length_append, List.take_add, List.drop_drop]
        exact this
      · cases h
    · cases h
end
end
end Go.Am
