/- Regions that are carried out in an order that is drawn: the text's order serves for all. -/
import Derived.Test.YtckboonjjlpogaaGreatAmSeq
set_option linter.unusedVariables false
set_option linter.unusedSimpArgs false
namespace Go.Am
noncomputable section
variable [SemC]

/-! ### Sameness of abstract values -/
def addrEq (a b : Addr) : Bool :=
  match Nat.beq a.block b.block, Nat.beq a.off b.off, a.spot, b.spot with
  | true, true, none, none => true
  | _, _, _, _ => false
omit [SemC] in
theorem addrEq_spec {a b : Addr} (h : addrEq a b = true) : a = b := by
  obtain ⟨a1, a2, a3⟩ := a
  obtain ⟨b1, b2, b3⟩ := b
  unfold addrEq at h
  split at h
  · rename_i h1 h2 h3 h4
    have := Nat.eq_of_beq_eq_true h1
    have := Nat.eq_of_beq_eq_true h2
    simp_all
  · cases h
def vidB : Value → Value → Bool
  | .bool a, .bool b => a == b
  | .int k a, .int j b => match decide (k = j) with | true => decide (a = b) | false => false
  | .string ⟨⟨a⟩⟩, .string ⟨⟨b⟩⟩ => a == b
  | .pointer none, .pointer none => true
  | .pointer (some a), .pointer (some b) => addrEq a b
  | .slice none a b, .slice none c d => match Nat.beq a c with | true => Nat.beq b d | false => false
  | .slice (some x) a b, .slice (some y) c d => match addrEq x y, Nat.beq a c with | true, true => Nat.beq b d | _, _ => false
  | .map none, .map none => true
  | .map (some a), .map (some b) => Nat.beq a b
  | .nilFunc, .nilFunc => true
  | .nilIface, .nilIface => true
  | .chan (some a), .chan (some b) => Nat.beq a b
  | _, _ => false
def vid : Nat → Value → Value → Bool
  | 0, a, b => vidB a b
  | n + 1, a, b => match a, b with
    | .agg ⟨xs⟩, .agg ⟨ys⟩ => ceqL (vid n) xs ys
    | .tuple ⟨xs⟩, .tuple ⟨ys⟩ => ceqL (vid n) xs ys
    | .func (.func f) ⟨xs⟩ ⟨us⟩, .func (.func g) ⟨ys⟩ ⟨vs⟩ => match Nat.beq f g, ceqL (vid n) xs ys with
      | true, true => ceqL (vid n) us vs
      | _, _ => false
    | .iface t x, .iface u y => match Nat.beq t u with | true => vid n x y | false => false
    | .func (.method p) ⟨xs⟩ ⟨[]⟩, .func (.method q) ⟨ys⟩ ⟨[]⟩ => match decide (p = q) with | true => ceqL (vid n) xs ys | false => false
    | a, b => vidB a b
omit [SemC] in
theorem vidB_spec {a b : Value} (h : vidB a b = true) : a = b := by
  unfold vidB at h
  split at h
  all_goals first
    | rfl
    | (cases h; done)
    | skip
  · rename_i a b
    have : a = b := by simpa using h
    rw [this]
  · split at h
    · rename_i hk
      rw [of_decide_eq_true hk, of_decide_eq_true h]
    · cases h
  · rename_i a b
    have : a = b := by simpa using h
    rw [this]
  · rw [addrEq_spec h]
  · split at h
    · rename_i h1
      rw [Nat.eq_of_beq_eq_true h1, Nat.eq_of_beq_eq_true h]
    · cases h
  · split at h
    · rename_i h1 h2
      rw [addrEq_spec h1, Nat.eq_of_beq_eq_true h2, Nat.eq_of_beq_eq_true h]
    · cases h
  · rw [Nat.eq_of_beq_eq_true h]
  · rw [Nat.eq_of_beq_eq_true h]
omit [SemC] in
theorem ceqL_id {rec : Value → Value → Bool} (hr : ∀ a b, rec a b = true → a = b) : ∀ (a b : List Value), ceqL rec a b = true → a = b
  | [], [], _ => rfl
  | [], _ :: _, h => by simp [ceqL] at h
  | _ :: _, [], h => by simp [ceqL] at h
  | x :: xs, y :: ys, h => by
    simp only [ceqL] at h
    split at h
    · rename_i h1
      rw [hr x y h1, ceqL_id hr xs ys h]
    · cases h
omit [SemC] in
theorem vid_spec : ∀ (n : Nat) (a b : Value), vid n a b = true → a = b
  | 0, a, b, h => vidB_spec h
  | n + 1, a, b, h => by
    have ih := fun a b => vid_spec n a b
    unfold vid at h
    split at h
    · rw [ceqL_id ih _ _ h]
    · rw [ceqL_id ih _ _ h]
    · split at h
      · rename_i h1 h2
        rw [Nat.eq_of_beq_eq_true h1, ceqL_id ih _ _ h2, ceqL_id ih _ _ h]
      · cases h
    · split at h
      · rename_i h1
        rw [Nat.eq_of_beq_eq_true h1, ih _ _ h]
      · cases h
    · split at h
      · rename_i h1
        rw [of_decide_eq_true h1, ceqL_id ih _ _ h]
      · cases h
    · exact vidB_spec h

/-! ### The operations of a region, each with what it came to in the text's order -/
inductive Rk where
  | skip
  | p0
  | pr
  | pn (ao : AO)
  | ef (H : AH)
def Rk.isEf : Rk → Bool
  | .ef _ => true
  | _ => false

structure It where
  o : Oper
  bef : Nat
  tm : Tr Value
  val : Value
  rk : Rk

/-- The heap behind the writing operations among some items. -/
def stH (H0 : AH) : List It → AH
  | [] => H0
  | it :: r => stH (match it.rk with | .ef H => H | _ => H0) r
/-- What the writing operations among some items wait for. -/
def needM : List It → Nat
  | [] => 0
  | it :: r => (match it.rk with | .ef _ => it.bef | _ => 0) ||| needM r
/-- Which of the items, from number i on, write. -/
def efM : Nat → List It → Nat
  | _, [] => 0
  | i, it :: r => (match it.rk with | .ef _ => 2 ^ i | _ => 0) ||| efM (i + 1) r
def alls : Nat → List It → List (Nat × AO)
  | _, [] => []
  | i, it :: r => match it.rk with
    | .pn ao => (i, ao) :: alls (i + 1) r
    | _ => alls (i + 1) r
/-- New objects, those for which f says so, added to a heap: number k under nx0 + k. -/
def addA (nx0 : Nat) (f : Nat → Bool) : List (Nat × AO) → Tr AO → Tr AO
  | [], hp => hp
  | (k, ao) :: r, hp => match f k with
    | true => addA nx0 f r (hp.set (nx0 + k) (some ao))
    | false => addA nx0 f r hp

omit [SemC] in
theorem addA_not (nx0 : Nat) (f : Nat → Bool) : ∀ (l : List (Nat × AO)) (hp : Tr AO) (b : Nat), (∀ x ∈ l, nx0 + x.1 < Tr.lim) → (∀ x ∈ l, f x.1 = true → nx0 + x.1 ≠ b) → (addA nx0 f l hp).get b = hp.get b
  | [], _, _, _, _ => rfl
  | (k, ao) :: r, hp, b, hl, h => by
    unfold addA
    split
    · rename_i hf
      rw [addA_not nx0 f r _ b (fun x hx => hl x (by simp [hx])) (fun x hx => h x (by simp [hx])), Tr.get_set _ _ _ _ (hl (k, ao) (by simp)),
        if_neg (fun e => h (k, ao) (by simp) hf e.symm)]
    · exact addA_not nx0 f r _ b (fun x hx => hl x (by simp [hx])) (fun x hx => h x (by simp [hx]))

omit [SemC] in
theorem addA_mem (nx0 : Nat) (f : Nat → Bool) : ∀ (l : List (Nat × AO)) (hp : Tr AO) (k : Nat) (ao : AO), (∀ x ∈ l, nx0 + x.1 < Tr.lim) → (l.map (·.1)).Nodup → (k, ao) ∈ l → f k = true → (addA nx0 f l hp).get (nx0 + k) = some ao
  | [], _, _, _, _, _, h, _ => by simp at h
  | (j, bo) :: r, hp, k, ao, hl, hnd, hm, hf => by
    simp only [List.map_cons, List.nodup_cons] at hnd
    have hl' : ∀ x ∈ r, nx0 + x.1 < Tr.lim := fun x hx => hl x (by simp [hx])
    unfold addA
    rcases List.mem_cons.1 hm with e | hm'
    · cases e
      rw [hf]
      simp only
      have hno : ∀ x ∈ r, f x.1 = true → nx0 + x.1 ≠ nx0 + j := fun x hx _ e => by
        have hk : x.1 = j := by omega
        exact hnd.1 (hk ▸ List.mem_map.2 ⟨x, hx, rfl⟩)
      rw [addA_not nx0 f r _ _ hl' hno, Tr.get_set _ _ _ _ (hl (j, bo) (by simp)), if_pos rfl]
    · split
      · exact addA_mem nx0 f r _ k ao hl' hnd.2 hm' hf
      · exact addA_mem nx0 f r _ k ao hl' hnd.2 hm' hf

omit [SemC] in
theorem addA_get (nx0 : Nat) (f : Nat → Bool) (l : List (Nat × AO)) (hp : Tr AO) (hl : ∀ x ∈ l, nx0 + x.1 < Tr.lim) (hnd : (l.map (·.1)).Nodup) (b : Nat) (o : AO) (h : (addA nx0 f l hp).get b = some o) :
    (∃ k ao, (k, ao) ∈ l ∧ f k = true ∧ b = nx0 + k ∧ o = ao) ∨ ((∀ x ∈ l, f x.1 = true → nx0 + x.1 ≠ b) ∧ hp.get b = some o) := by
  by_cases hc : ∃ x ∈ l, f x.1 = true ∧ nx0 + x.1 = b
  · obtain ⟨⟨k, ao⟩, hx, hf, rfl⟩ := hc
    rw [addA_mem nx0 f l hp k ao hl hnd hx hf] at h
    cases h
    exact .inl ⟨k, _, hx, hf, rfl, rfl⟩
  · have hc' : ∀ x ∈ l, f x.1 = true → nx0 + x.1 ≠ b := fun x hx hf e => hc ⟨x, hx, hf, e⟩
    rw [addA_not nx0 f l hp b hl hc'] at h
    exact .inr ⟨hc', h⟩

/-! ### The run in the text's order -/
def befOf (i : Nat) (accs : Tr Nat) : List Edge → Option Nat
  | [] => some 0
  | e :: es => match befOf i accs es with
    | none => none
    | some m => match Region.binds .any e with
      | false => some m
      | true => match Nat.blt e.on i, accs.get e.on with
        | true, some b => some (m ||| 2 ^ e.on ||| b)
        | _, _ => none

structure DS where
  accs : Tr Nat
  tm : Tr Value
  H : AH
  need : Nat
  efm : Nat
  wr : Nat
  al : List (Nat × AO)

def guardOK (bef : Nat) (o : Oper) : Bool :=
  match o.guard with
  | none => true
  | some (j, _) => bef.testBit j

/-- A temporary that no earlier operation of the region has written. -/
def freshT (wr : Nat) : Option Tmp → Bool
  | none => true
  | some d => !wr.testBit d
def wrOf (wr : Nat) : Option Tmp → Nat
  | none => wr
  | some d => wr ||| 2 ^ d

def evItem (T : Tbl) (E : Ev) (ops : Array Oper) (nx0 i : Nat) (o : Oper) (bef : Nat) (s : DS) : Option (List (Value × Rk)) :=
  match wantA ops s.tm o with
  | none => none
  | some false => some [(undef, .skip)]
  | some true => match isE o.op with
    | true => match Nat.beq (bef &&& s.efm) s.efm with
      | false => none
      | true => match opE T E (oev s.tm) ⟨addA nx0 (fun k => bef.testBit k && !s.need.testBit k) s.al s.H.hp, s.H.nx⟩ o.op with
        | some outs => some (outs.map fun r => (r.1, .ef r.2))
        | none => none
    | false => match pev T (oev s.tm) .lf o.op with
      | some (.v v) => some [(v, .p0)]
      | some (.new ao mk) => some [(mk (nx0 + i), .pn ao)]
      | none => match pev T (oev s.tm) (addA nx0 (fun k => bef.testBit k && !s.need.testBit k) s.al s.H.hp) o.op with
        | some (.v v) => some [(v, .pr)]
        | _ => none

def nextDS (i : Nat) (bef : Nat) (o : Oper) (tm' : Tr Value) (rk : Rk) (s : DS) : DS :=
  { accs := s.accs.set i (some bef), tm := tm', wr := wrOf s.wr o.dst,
    H := match rk with | .ef H' => H' | _ => s.H,
    need := match rk with | .ef _ => s.need ||| bef | _ => s.need,
    efm := match rk with | .ef _ => s.efm ||| 2 ^ i | _ => s.efm,
    al := match rk with | .pn ao => s.al ++ [(i, ao)] | _ => s.al }

/-! Sameness of what does not wait for an operation with more than one way. -/
def sameE : List (Value × Value × Nat) → List (Value × Value × Nat) → Bool
  | [], [] => true
  | (k, v, b) :: r, (k', v', b') :: r' => match vid 40 k k', vid 40 v v', Nat.beq b b' with
    | true, true, true => sameE r r'
    | _, _, _ => false
  | _, _ => false
def sameO : AO → AO → Bool
  | .cells e vs, .cells e' vs' => match Nat.beq e e' with
    | true => ceqL (vid 40) vs vs'
    | false => false
  | .map es c, .map es' c' => match Nat.beq c c' with
    | true => sameE es es'
    | false => false
  | _, _ => false
omit [SemC] in
theorem sameE_spec : ∀ (a b : List (Value × Value × Nat)), sameE a b = true → a = b
  | [], [], _ => rfl
  | [], _ :: _, h => by simp [sameE] at h
  | _ :: _, [], h => by simp [sameE] at h
  | (k, v, n) :: r, (k', v', n') :: r', h => by
    simp only [sameE] at h
    split at h
    · rename_i h1 h2 h3
      rw [vid_spec _ _ _ h1, vid_spec _ _ _ h2, Nat.eq_of_beq_eq_true h3, sameE_spec r r' h]
    · cases h
omit [SemC] in
theorem sameO_spec {a b : AO} (h : sameO a b = true) : a = b := by
  unfold sameO at h
  split at h
  · split at h
    · rename_i h1
      rw [Nat.eq_of_beq_eq_true h1, ceqL_id (vid_spec 40) _ _ h]
    · cases h
  · split at h
    · rename_i h1
      rw [Nat.eq_of_beq_eq_true h1, sameE_spec _ _ h]
    · cases h
  · cases h
def sameRk : Rk → Rk → Bool
  | .skip, .skip => true
  | .p0, .p0 => true
  | .pr, .pr => true
  | .pn a, .pn b => sameO a b
  | _, _ => false
omit [SemC] in
theorem sameRk_spec {a b : Rk} (h : sameRk a b = true) : a = b := by
  unfold sameRk at h
  split at h
  · rfl
  · rfl
  · rfl
  · rw [sameO_spec h]
  · cases h
/-- Two ways of going on behind operation i. -/
def agree (i : Nat) : List It → List It → Bool
  | [], [] => true
  | x :: xs, y :: ys => match Nat.beq x.bef y.bef with
    | false => false
    | true => match x.bef.testBit i with
      | true => agree i xs ys
      | false => match vid 40 x.val y.val, sameRk x.rk y.rk with
        | true, true => agree i xs ys
        | _, _ => false
  | _, _ => false
omit [SemC] in
theorem agree_spec (i : Nat) : ∀ (xs ys : List It), agree i xs ys = true → xs.length = ys.length ∧
    ∀ (k : Nat) (x y : It), xs[k]? = some x → ys[k]? = some y → x.bef = y.bef ∧ (x.bef.testBit i = false → x.val = y.val ∧ x.rk = y.rk)
  | [], [], _ => ⟨rfl, fun k x y h => by simp at h⟩
  | [], _ :: _, h => by simp [agree] at h
  | _ :: _, [], h => by simp [agree] at h
  | x :: xs, y :: ys, h => by
    simp only [agree] at h
    split at h
    · cases h
    · rename_i hb
      have hb' := Nat.eq_of_beq_eq_true hb
      have key : ∀ (_ : agree i xs ys = true) (_ : x.bef.testBit i = false → x.val = y.val ∧ x.rk = y.rk), (x :: xs).length = (y :: ys).length ∧
          ∀ (k : Nat) (x' y' : It), (x :: xs)[k]? = some x' → (y :: ys)[k]? = some y' → x'.bef = y'.bef ∧ (x'.bef.testBit i = false → x'.val = y'.val ∧ x'.rk = y'.rk) := by
        intro ha hv
        obtain ⟨h1, h2⟩ := agree_spec i xs ys ha
        refine ⟨by simp [h1], fun k x' y' hx hy => ?_⟩
        cases k with
        | zero => simp at hx hy; subst hx; subst hy; exact ⟨hb', hv⟩
        | succ k => exact h2 k x' y' (by simpa using hx) (by simpa using hy)
      split at h
      · rename_i ht
        exact key h fun hf => by rw [ht] at hf; cases hf
      · split at h
        · rename_i h1 h2
          exact key h fun _ => ⟨vid_spec _ _ _ h1, sameRk_spec h2⟩
        · cases h
def agreeAll (i : Nat) (b : List It) : List (List It × DS) → Bool
  | [] => true
  | r :: rs => match agree i b.tail r.1.tail with
    | true => agreeAll i b rs
    | false => false
omit [SemC] in
theorem agreeAll_spec (i : Nat) (b : List It) : ∀ (l : List (List It × DS)), agreeAll i b l = true → ∀ r ∈ l, agree i b.tail r.1.tail = true
  | [], _, r, h => by simp at h
  | x :: l, h, r, hr => by
    simp only [agreeAll] at h
    split at h
    · rename_i h1
      rcases List.mem_cons.1 hr with rfl | hr
      · exact h1
      · exact agreeAll_spec i b l h r hr
    · cases h
def agreed (i : Nat) (outs : List (Value × Rk)) (l : List (List It × DS)) : Bool :=
  match outs with
  | [_] => true
  | _ => match l with
    | [] => false
    | r :: rs => agreeAll i r.1 (r :: rs)

def consI (it : It) (l : List (List It × DS)) : List (List It × DS) := l.map fun r => (it :: r.1, r.2)
/-- The ways that the text's order may take: for each of the ways of its first operation, the ways behind it. -/
def ways (mk : Value × Rk → It) (f : Value × Rk → Option (List (List It × DS))) : List (Value × Rk) → Option (List (List It × DS))
  | [] => some []
  | r :: rs => match f r with
    | some l => match ways mk f rs with
      | some m => some (consI (mk r) l ++ m)
      | none => none
    | none => none
omit [SemC] in
theorem ways_mem {mk : Value × Rk → It} {f : Value × Rk → Option (List (List It × DS))} : ∀ {outs : List (Value × Rk)} {B : List (List It × DS)}, ways mk f outs = some B →
    (∀ r ∈ outs, ∃ l, f r = some l ∧ ∀ x ∈ l, (mk r :: x.1, x.2) ∈ B) ∧ (∀ b ∈ B, ∃ r ∈ outs, ∃ l, f r = some l ∧ ∃ x ∈ l, b = (mk r :: x.1, x.2))
  | [], B, h => by simp only [ways, Option.some.injEq] at h; subst h; simp
  | r :: rs, B, h => by
    simp only [ways] at h
    split at h
    · rename_i l hl
      split at h
      · rename_i m hm
        cases h
        obtain ⟨h1, h2⟩ := ways_mem hm
        refine ⟨fun q hq => ?_, fun b hb => ?_⟩
        · rcases List.mem_cons.1 hq with rfl | hq
          · exact ⟨l, hl, fun x hx => List.mem_append.2 (.inl (List.mem_map.2 ⟨x, hx, rfl⟩))⟩
          · obtain ⟨l', e1, e2⟩ := h1 q hq
            exact ⟨l', e1, fun x hx => List.mem_append.2 (.inr (e2 x hx))⟩
        · rcases List.mem_append.1 hb with hb | hb
          · obtain ⟨x, hx, rfl⟩ := List.mem_map.1 hb
            exact ⟨r, by simp, l, hl, x, hx, rfl⟩
          · obtain ⟨q, hq, l', e1, e2⟩ := h2 b hb
            exact ⟨q, by simp [hq], l', e1, e2⟩
      · cases h
    · cases h
def runD (T : Tbl) (E : Ev) (ops : Array Oper) (nx0 sz : Nat) : Nat → List Oper → DS → Option (List (List It × DS))
  | _, [], s => some [([], s)]
  | i, o :: rest, s => match befOf i s.accs o.after.toList with
    | none => none
    | some bef => match guardOK bef o, freshT s.wr o.dst, evItem T E ops nx0 i o bef s with
      | true, true, some outs => match ways (fun r => ⟨o, bef, s.tm, r.1, r.2⟩) (fun r => match putT s.tm sz o.dst r.1 with
          | some tm' => runD T E ops nx0 sz (i + 1) rest (nextDS i bef o tm' r.2 s)
          | none => none) outs with
        | some B => match agreed i outs B with
          | true => some B
          | false => none
        | none => none
      | _, _, _ => none
end
end Go.Am
