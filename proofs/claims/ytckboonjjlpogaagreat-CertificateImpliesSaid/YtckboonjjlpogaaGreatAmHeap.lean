/- The abstract heap, its relation to a real world, and what a step keeps. -/
import Derived.Test.YtckboonjjlpogaaGreatAmBase
set_option linter.unusedVariables false
set_option linter.unusedSimpArgs false
namespace Go.Am
noncomputable section
variable [SemC]

/-- Sorts of symbols. -/
inductive SK where
  | int (k : IntKind)
  | bool
  | boolK (b : Bool)
  | str
  | slice (e : TypeId)
  | ptr
  | other
def SK.ok : SK → Value → Prop
  | .int k, v => ∃ n, v = .int k n
  | .bool, v => ∃ b, v = .bool b
  | .boolK b, v => v = .bool b
  | .str, v => ∃ s, v = .string s
  | .slice e, v => SemC.rd e v
  | .ptr, v => ∃ b o, v = .pointer (some ⟨b, o, none⟩)
  | .other, _ => True

inductive AO where
  | cells (esz : Nat) (vs : List Value)
  | map (es : List (Value × Value × Nat)) (clock : Nat)
  | siter (s : ByteArray) (pos : Nat)
  | miter (m : Option Nat) (since : Nat) (seen : List Nat) (stepped : Nat)
  | loop (st : LoopState) (pending : Option Code) (tm : Tr Value) (sz : Nat) (ps : List Tmp) (asg body : Code) (df : Nat)
  | dfr (opened : Bool)
  | sym (tag : Nat) (args : List Value) (kd : SK)
def AO.wr : AO → Bool
  | .sym _ _ _ => false
  | _ => true

structure AH where
  hp : Tr AO
  nx : Nat

inductive ER (θ : Th) : List (Value × Value × Nat) → List MapEntry → Prop
  | nil : ER θ [] []
  | cons {k v k' v' : Value} {b : Nat} {es : List (Value × Value × Nat)} {es' : List MapEntry} :
      VR θ k k' → VR θ v v' → ER θ es es' → ER θ ((k, v, b) :: es) (⟨k', v', b⟩ :: es')

theorem ER.mono {θ θ' : Th} (h : Ext θ θ') : ∀ {es : List (Value × Value × Nat)} {es' : List MapEntry}, ER θ es es' → ER θ' es es'
  | _, _, .nil => .nil
  | _, _, .cons a b c => .cons (a.mono h) (b.mono h) (ER.mono h c)

def TR (θ : Th) (tm : Tr Value) (a : Array Value) : Prop := ∀ t v, tm.get t = some v → VR θ v (a.getD t undef)
theorem TR.mono {θ θ' : Th} (h : Ext θ θ') {tm : Tr Value} {a : Array Value} (ht : TR θ tm a) : TR θ' tm a := fun t v e => (ht t v e).mono h

def ORel (θ : Th) (heap : Array Obj) (p : Pl) : AO → Prop
  | .cells esz vs => p.esz = esz ∧ ∃ cur e, heap[p.cb]? = some (.cells cur e (0, 0)) ∧ cur.size = p.tot ∧ p.off + vs.length ≤ p.tot ∧
      ∀ (i : Nat) (v : Value), vs[i]? = some v → ∃ v', cur[p.off + i]? = some v' ∧ VR θ v v'
  | .map es clock => ∃ es', heap[p.cb]? = some (.map es' clock) ∧ ER θ es es'.toList
  | .siter s pos => p.off = 0 ∧ heap[p.cb]? = some (.stringIter s pos)
  | .miter none since seen stepped => p.off = 0 ∧ heap[p.cb]? = some (.mapIter none since ⟨seen⟩ stepped)
  | .miter (some m) since seen stepped => p.off = 0 ∧ ∃ q, θ m = some q ∧ heap[p.cb]? = some (.mapIter (some q.cb) since ⟨seen⟩ stepped)
  | .loop st pend tm sz ps asg body df => ∃ fn tmps q, heap[p.cb]? = some (.loop { state := st, pending := pend, fn, tmps, params := ⟨ps⟩, assign := asg, body, defers := q.cb }) ∧
      θ df = some q ∧ tmps.size = sz ∧ TR θ tm tmps
  | .dfr o => heap[p.cb]? = some (.deferred (if o then some [] else none))
  | .sym tag args kd => kd.ok p.val ∧ p.val.oneCell' = true ∧ (tag = 9 ∨ ∃ args', LR θ args args' ∧ p.val = SemC.semf tag args')

/-- The object of a place stands where the heap has it, and as it was. -/
theorem ORel.mono {θ θ' : Th} {heap heap' : Array Obj} {p : Pl} (h : Ext θ θ') (hb : heap'[p.cb]? = heap[p.cb]?) : ∀ {o : AO}, ORel θ heap p o → ORel θ' heap' p o
  | .cells _ _, ⟨a, cur, e, h1, h2, h3, h4⟩ => ⟨a, cur, e, hb.trans h1, h2, h3, fun i v hv => let ⟨v', x, y⟩ := h4 i v hv; ⟨v', x, y.mono h⟩⟩
  | .map _ _, ⟨es', h1, h2⟩ => ⟨es', hb.trans h1, h2.mono h⟩
  | .siter _ _, ⟨a, h1⟩ => ⟨a, hb.trans h1⟩
  | .miter none _ _ _, ⟨a, h1⟩ => ⟨a, hb.trans h1⟩
  | .miter (some _) _ _ _, ⟨a, q, h1, h2⟩ => ⟨a, q, h _ _ h1, hb.trans h2⟩
  | .loop _ _ _ _ _ _ _ _, ⟨fn, tmps, q, h1, h2, h3, h4⟩ => ⟨fn, tmps, q, hb.trans h1, h _ _ h2, h3, h4.mono h⟩
  | .dfr _, h1 => hb.trans h1
  | .sym _ _ _, ⟨a, b, .inl c⟩ => ⟨a, b, .inl c⟩
  | .sym _ _ _, ⟨a, b, .inr ⟨args', h1, h2⟩⟩ => ⟨a, b, .inr ⟨args', h1.mono h, h2⟩⟩
theorem ORel.monoS {θ θ' : Th} {heap heap' : Array Obj} {p : Pl} (h : Ext θ θ') : ∀ {o : AO}, o.wr = false → ORel θ heap p o → ORel θ' heap' p o
  | .sym _ _ _, _, ⟨a, b, .inl c⟩ => ⟨a, b, .inl c⟩
  | .sym _ _ _, _, ⟨a, b, .inr ⟨args', h1, h2⟩⟩ => ⟨a, b, .inr ⟨args', h1.mono h, h2⟩⟩

theorem ORel.lt {θ : Th} {heap : Array Obj} {p : Pl} {o : AO} (h : ORel θ heap p o) (hs : o.wr = true) : p.cb < heap.size := by
  have key : ∃ x, heap[p.cb]? = some x := by
    cases o with
    | cells => obtain ⟨_, cur, e, h1, _⟩ := h; exact ⟨_, h1⟩
    | map => obtain ⟨es', h1, _⟩ := h; exact ⟨_, h1⟩
    | siter => exact ⟨_, h.2⟩
    | miter m => cases m with
      | none => exact ⟨_, h.2⟩
      | some m => obtain ⟨_, q, _, h1⟩ := h; exact ⟨_, h1⟩
    | loop => obtain ⟨fn, tmps, q, h1, _⟩ := h; exact ⟨_, h1⟩
    | dfr => exact ⟨_, h⟩
    | sym => cases hs
  obtain ⟨x, hx⟩ := key
  exact (Array.getElem?_eq_some_iff.1 hx).1

/-- Objects of a trie, each at a place of its own. -/
structure RO (θ : Th) (hp : Tr AO) (heap : Array Obj) : Prop where
  obj : ∀ b o, hp.get b = some o → ∃ p, θ b = some p ∧ ORel θ heap p o
  inj : ∀ b b' o o' p p', hp.get b = some o → hp.get b' = some o' → o.wr = true → o'.wr = true → θ b = some p → θ b' = some p' → p.cb = p'.cb → b = b'

structure RH (θ : Th) (H : AH) (w : World) : Prop extends RO θ H.hp w.heap where
  fresh : ∀ b, H.nx ≤ b → θ b = none

/-- Block k is one of the abstract heap's own. -/
def own (θ : Th) (hp : Tr AO) (k : Nat) : Prop := ∃ b o p, hp.get b = some o ∧ o.wr = true ∧ θ b = some p ∧ p.cb = k

structure Fr (θ : Th) (H : AH) (w : World) (θ' : Th) (H' : AH) (w' : World) : Prop where
  size : w.heap.size ≤ w'.heap.size
  os : w'.os = w.os
  tape : w'.tape = w.tape
  output : w'.output = w.output
  keep : ∀ k, k < w.heap.size → ¬ own θ H.hp k → w'.heap[k]? = w.heap[k]?
  sub : ∀ k, k < w.heap.size → own θ' H'.hp k → own θ H.hp k
  old : ∀ b, b < H.nx → θ' b = θ b
  nx : H.nx ≤ H'.nx

omit [SemC] in
theorem Fr.refl (θ : Th) (H : AH) (w : World) : Fr θ H w θ H w :=
  ⟨Nat.le_refl _, rfl, rfl, rfl, fun _ _ _ => rfl, fun _ _ h => h, fun _ _ => rfl, Nat.le_refl _⟩

omit [SemC] in
theorem Fr.trans {θ θ₁ θ₂ : Th} {H H₁ H₂ : AH} {w w₁ w₂ : World} (h : Fr θ H w θ₁ H₁ w₁) (k : Fr θ₁ H₁ w₁ θ₂ H₂ w₂) : Fr θ H w θ₂ H₂ w₂ :=
  ⟨Nat.le_trans h.size k.size, k.os.trans h.os, k.tape.trans h.tape, k.output.trans h.output,
   fun i hi hn => (k.keep i (Nat.lt_of_lt_of_le hi h.size) (fun ho => hn (h.sub i hi ho))).trans (h.keep i hi hn),
   fun i hi ho => h.sub i hi (k.sub i (Nat.lt_of_lt_of_le hi h.size) ho),
   fun b hb => (k.old b (Nat.lt_of_lt_of_le hb h.nx)).trans (h.old b hb),
   Nat.le_trans h.nx k.nx⟩

omit [SemC] in
theorem Fr.ext {θ θ' : Th} {H H' : AH} {w w' : World} (h : Fr θ H w θ' H' w') (hf : ∀ b, H.nx ≤ b → θ b = none) : Ext θ θ' := fun b p hb => by
  by_cases hn : b < H.nx
  · rw [h.old b hn]; exact hb
  · rw [hf b (by omega)] at hb; cases hb

/-- A world with the same heap. -/
theorem RH.drew {θ : Th} {H : AH} {w : World} (h : RH θ H w) (n : Nat) : RH θ H { w with drawn := n } := ⟨⟨h.obj, h.inj⟩, h.fresh⟩
omit [SemC] in
theorem Fr.drew {θ θ' : Th} {H H' : AH} {w w' : World} (h : Fr θ H w θ' H' w') (n : Nat) : Fr θ H w θ' H' { w' with drawn := n } :=
  ⟨h.size, h.os, h.tape, h.output, h.keep, h.sub, h.old, h.nx⟩
omit [SemC] in
theorem Fr.drewL {θ θ' : Th} {H H' : AH} {w w' : World} (n : Nat) (h : Fr θ H { w with drawn := n } θ' H' w') : Fr θ H w θ' H' w' :=
  ⟨h.size, h.os, h.tape, h.output, h.keep, h.sub, h.old, h.nx⟩

def upd (θ : Th) (b : Nat) (p : Pl) : Th := fun x => if x = b then some p else θ x
omit [SemC] in
theorem upd_same (θ : Th) (b : Nat) (p : Pl) : upd θ b p b = some p := by simp [upd]
omit [SemC] in
theorem upd_ne (θ : Th) (b : Nat) (p : Pl) {x : Nat} (h : x ≠ b) : upd θ b p x = θ x := by simp [upd, h]
omit [SemC] in
theorem Ext.upd {θ : Th} {b : Nat} (p : Pl) (h : θ b = none) : Ext θ (upd θ b p) := fun x q hx => by
  by_cases e : x = b
  · subst e; rw [h] at hx; cases hx
  · rw [upd_ne _ _ _ e]; exact hx

/-- A new object at a number that has no place yet. -/
theorem RO.alloc {θ : Th} {hp : Tr AO} {heap : Array Obj} (h : RO θ hp heap) {b : Nat} (hb : b < Tr.lim) (hn : θ b = none) {o : AO} {x : Obj} {p : Pl}
    (hp' : p.cb = heap.size) (ho : ORel (upd θ b p) (heap.push x) p o) : RO (upd θ b p) (hp.set b (some o)) (heap.push x) := by
  have hlt : ∀ b' o', hp.get b' = some o' → b' ≠ b := fun b' o' hg e => by
    subst e; obtain ⟨q, hq, _⟩ := h.obj _ _ hg; rw [hn] at hq; cases hq
  constructor
  · intro b' o' hg
    rw [Tr.get_set _ _ _ _ hb] at hg
    by_cases e : b' = b
    · subst e; rw [if_pos rfl] at hg; cases hg; exact ⟨p, upd_same _ _ _, ho⟩
    · rw [if_neg e] at hg
      obtain ⟨q, hq, hr⟩ := h.obj b' o' hg
      refine ⟨q, by rw [upd_ne _ _ _ e]; exact hq, ?_⟩
      cases hsy : o'.wr with
      | false => exact hr.monoS (Ext.upd p hn) hsy
      | true => exact hr.mono (Ext.upd p hn) (by rw [Array.getElem?_push, if_neg (by have := hr.lt hsy; omega)])
  · intro b₁ b₂ o₁ o₂ p₁ p₂ g₁ g₂ w₁ w₂ e₁ e₂ ec
    rw [Tr.get_set _ _ _ _ hb] at g₁ g₂
    by_cases c₁ : b₁ = b
    · subst c₁
      by_cases c₂ : b₂ = b₁
      · exact c₂.symm
      · rw [if_neg c₂] at g₂
        rw [upd_same] at e₁; cases e₁
        rw [upd_ne _ _ _ c₂] at e₂
        obtain ⟨q, hq, hr⟩ := h.obj _ _ g₂
        rw [hq] at e₂; cases e₂
        have := hr.lt w₂; omega
    · rw [if_neg c₁] at g₁
      rw [upd_ne _ _ _ c₁] at e₁
      by_cases c₂ : b₂ = b
      · subst c₂
        rw [upd_same] at e₂; cases e₂
        obtain ⟨q, hq, hr⟩ := h.obj _ _ g₁
        rw [hq] at e₁; cases e₁
        have := hr.lt w₁; omega
      · rw [if_neg c₂] at g₂
        rw [upd_ne _ _ _ c₂] at e₂
        exact h.inj _ _ _ _ _ _ g₁ g₂ w₁ w₂ e₁ e₂ ec

/-- A change of the one object b, in its own block. -/
theorem RO.change {θ : Th} {hp : Tr AO} {heap heap' : Array Obj} (h : RO θ hp heap) {b : Nat} {o o' : AO} {p : Pl} (hg : hp.get b = some o) (hp' : θ b = some p)
    (hk : ∀ k, k ≠ p.cb → heap'[k]? = heap[k]?) (ho : ORel θ heap' p o') (hb : b < Tr.lim) (hw : o.wr = true := by rfl) : RO θ (hp.set b (some o')) heap' := by
  constructor
  · intro b' q hg'
    rw [Tr.get_set _ _ _ _ hb] at hg'
    by_cases e : b' = b
    · subst e; rw [if_pos rfl] at hg'; cases hg'; exact ⟨p, hp', ho⟩
    · rw [if_neg e] at hg'
      obtain ⟨p', hq, hr⟩ := h.obj b' q hg'
      refine ⟨p', hq, ?_⟩
      cases hsy : q.wr with
      | false => exact hr.monoS (Ext.refl θ) hsy
      | true => exact hr.mono (Ext.refl θ) (hk _ (fun ec => e (h.inj _ _ _ _ _ _ hg hg' hw hsy hp' hq ec.symm).symm))
  · intro b₁ b₂ o₁ o₂ p₁ p₂ g₁ g₂ w₁ w₂ e₁ e₂ ec
    rw [Tr.get_set _ _ _ _ hb] at g₁ g₂
    by_cases c₁ : b₁ = b
    · subst c₁
      by_cases c₂ : b₂ = b₁
      · exact c₂.symm
      · rw [if_neg c₂] at g₂
        exact h.inj _ _ _ _ _ _ hg g₂ hw w₂ e₁ e₂ ec
    · rw [if_neg c₁] at g₁
      by_cases c₂ : b₂ = b
      · subst c₂
        exact h.inj _ _ _ _ _ _ g₁ hg w₁ hw e₁ e₂ ec
      · rw [if_neg c₂] at g₂
        exact h.inj _ _ _ _ _ _ g₁ g₂ w₁ w₂ e₁ e₂ ec

omit [SemC] in
theorem own_change {θ : Th} {hp : Tr AO} {b : Nat} {o : AO} {x : Option AO} (hg : hp.get b = some o) (hb : b < Tr.lim) {k : Nat} (h : own θ (hp.set b x) k) (hw : o.wr = true := by rfl) : own θ hp k := by
  obtain ⟨b', o', p', h1, h0, h2, h3⟩ := h
  rw [Tr.get_set _ _ _ _ hb] at h1
  by_cases e : b' = b
  · subst e; exact ⟨b', o, p', hg, hw, h2, h3⟩
  · rw [if_neg e] at h1; exact ⟨b', o', p', h1, h0, h2, h3⟩

/-- To forget objects. -/
theorem RO.sub {θ : Th} {hp hp' : Tr AO} {heap : Array Obj} (h : RO θ hp heap) (hs : ∀ b o, hp'.get b = some o → hp.get b = some o) : RO θ hp' heap :=
  ⟨fun b o hg => h.obj b o (hs b o hg), fun b b' o o' p p' g g' => h.inj b b' o o' p p' (hs _ _ g) (hs _ _ g')⟩

end
end Go.Am
