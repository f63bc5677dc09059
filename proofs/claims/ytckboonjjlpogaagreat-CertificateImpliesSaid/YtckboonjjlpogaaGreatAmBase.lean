/- The base of an abstract machine over the model: tries, places, the relation of abstract values and heaps to real ones. -/
import Derived.RangeFuncLeaves
import Derived.OrdersIn
import Derived.KernelRfl
import Derived.Below
import Derived.Laws.StructEq
set_option linter.unusedVariables false
set_option linter.unusedSimpArgs false
namespace Go.Am

/-! ### Tries -/
inductive Tr (α : Type) where
  | lf : Tr α
  | nd : Option α → Tr α → Tr α → Tr α

namespace Tr
variable {α : Type}
noncomputable def get (t : Tr α) : Nat → Option α :=
  Tr.rec (motive := fun _ => Nat → Option α) (fun _ => none)
    (fun v _ _ gl gr k => Bool.rec (motive := fun _ => Option α) (Bool.rec (motive := fun _ => Option α) (gr (Nat.sub (Nat.div k (nat_lit 2)) (nat_lit 1))) (gl (Nat.div k (nat_lit 2))) (Nat.beq (Nat.mod k (nat_lit 2)) (nat_lit 1))) v (Nat.beq k (nat_lit 0))) t
theorem get_lf (k : Nat) : (Tr.lf : Tr α).get k = none := rfl
theorem get_nd (v : Option α) (l r : Tr α) (k : Nat) : (Tr.nd v l r).get k = if k = 0 then v else if k % 2 = 1 then l.get (k / 2) else r.get (k / 2 - 1) := by
  show Bool.rec (motive := fun _ => Option α) (Bool.rec (motive := fun _ => Option α) (r.get (k / 2 - 1)) (l.get (k / 2)) (Nat.beq (k % 2) 1)) v (Nat.beq k 0) = _
  cases hk : Nat.beq k 0 with
  | true => rw [if_pos (Nat.eq_of_beq_eq_true hk)]
  | false =>
    rw [if_neg (Nat.ne_of_beq_eq_false hk)]
    cases hm : Nat.beq (k % 2) 1 with
    | true => rw [if_pos (Nat.eq_of_beq_eq_true hm)]
    | false => rw [if_neg (Nat.ne_of_beq_eq_false hm)]

noncomputable def mk1 (n : Nat) : Nat → Option α → Tr α :=
  Nat.rec (motive := fun _ => Nat → Option α → Tr α) (fun _ _ => .lf)
    (fun _ ih k x => Bool.rec (motive := fun _ => Tr α) (Bool.rec (motive := fun _ => Tr α) (.nd none .lf (ih (Nat.sub (Nat.div k (nat_lit 2)) (nat_lit 1)) x)) (.nd none (ih (Nat.div k (nat_lit 2)) x) .lf) (Nat.beq (Nat.mod k (nat_lit 2)) (nat_lit 1))) (.nd x .lf .lf) (Nat.beq k (nat_lit 0))) n
theorem mk1_succ (n k : Nat) (x : Option α) : mk1 (n + 1) k x = if k = 0 then .nd x .lf .lf else if k % 2 = 1 then .nd none (mk1 n (k / 2) x) .lf else .nd none .lf (mk1 n (k / 2 - 1) x) := by
  show Bool.rec (motive := fun _ => Tr α) (Bool.rec (motive := fun _ => Tr α) (.nd none .lf (mk1 n (k / 2 - 1) x)) (.nd none (mk1 n (k / 2) x) .lf) (Nat.beq (k % 2) 1)) (.nd x .lf .lf) (Nat.beq k 0) = _
  cases hk : Nat.beq k 0 with
  | true => rw [if_pos (Nat.eq_of_beq_eq_true hk)]
  | false =>
    rw [if_neg (Nat.ne_of_beq_eq_false hk)]
    cases hm : Nat.beq (k % 2) 1 with
    | true => rw [if_pos (Nat.eq_of_beq_eq_true hm)]
    | false => rw [if_neg (Nat.ne_of_beq_eq_false hm)]
theorem get_mk1 : ∀ (n k : Nat) (x : Option α) (j : Nat), k + 1 < 2 ^ n → (mk1 n k x).get j = if j = k then x else none
  | 0, k, x, j, h => by simp at h
  | n + 1, k, x, j, h => by
    have hp : 2 ^ (n + 1) = 2 * 2 ^ n := by rw [Nat.pow_succ]; omega
    rw [mk1_succ]
    by_cases hk : k = 0
    · subst hk
      rw [if_pos rfl, get_nd]
      by_cases hj : j = 0
      · rw [if_pos hj, if_pos hj]
      · rw [if_neg hj, if_neg hj]; split <;> rfl
    · rw [if_neg hk]
      by_cases hm : k % 2 = 1
      · rw [if_pos hm, get_nd]
        by_cases hj : j = 0
        · rw [if_pos hj, if_neg (by omega)]
        · rw [if_neg hj]
          by_cases hjm : j % 2 = 1
          · rw [if_pos hjm, get_mk1 n _ _ _ (by omega)]
            by_cases e : j = k
            · subst e; simp
            · rw [if_neg e, if_neg (by omega)]
          · rw [if_neg hjm, if_neg (by intro e; subst e; exact hjm hm)]; rfl
      · rw [if_neg hm, get_nd]
        by_cases hj : j = 0
        · rw [if_pos hj, if_neg (by omega)]
        · rw [if_neg hj]
          by_cases hjm : j % 2 = 1
          · rw [if_pos hjm, if_neg (by intro e; subst e; exact hm hjm)]; rfl
          · rw [if_neg hjm, get_mk1 n _ _ _ (by omega)]
            by_cases e : j = k
            · subst e; simp
            · rw [if_neg e, if_neg (by omega)]

def lim : Nat := 1000000000
noncomputable def set (t : Tr α) : Nat → Option α → Tr α :=
  Tr.rec (motive := fun _ => Nat → Option α → Tr α) (fun k x => mk1 (nat_lit 32) k x)
    (fun v l r sl sr k x => Bool.rec (motive := fun _ => Tr α) (Bool.rec (motive := fun _ => Tr α) (.nd v l (sr (Nat.sub (Nat.div k (nat_lit 2)) (nat_lit 1)) x)) (.nd v (sl (Nat.div k (nat_lit 2)) x) r) (Nat.beq (Nat.mod k (nat_lit 2)) (nat_lit 1))) (.nd x l r) (Nat.beq k (nat_lit 0))) t
theorem set_nd (v : Option α) (l r : Tr α) (k : Nat) (x : Option α) : (Tr.nd v l r).set k x = if k = 0 then .nd x l r else if k % 2 = 1 then .nd v (l.set (k / 2) x) r else .nd v l (r.set (k / 2 - 1) x) := by
  show Bool.rec (motive := fun _ => Tr α) (Bool.rec (motive := fun _ => Tr α) (.nd v l (r.set (k / 2 - 1) x)) (.nd v (l.set (k / 2) x) r) (Nat.beq (k % 2) 1)) (.nd x l r) (Nat.beq k 0) = _
  cases hk : Nat.beq k 0 with
  | true => rw [if_pos (Nat.eq_of_beq_eq_true hk)]
  | false =>
    rw [if_neg (Nat.ne_of_beq_eq_false hk)]
    cases hm : Nat.beq (k % 2) 1 with
    | true => rw [if_pos (Nat.eq_of_beq_eq_true hm)]
    | false => rw [if_neg (Nat.ne_of_beq_eq_false hm)]

theorem get_set : ∀ (t : Tr α) (k : Nat) (x : Option α) (j : Nat), k < lim → (t.set k x).get j = if j = k then x else t.get j
  | .lf, k, x, j, h => by
    show (mk1 32 k x).get j = _
    rw [get_mk1 32 k x j (by unfold lim at h; omega)]
    rfl
  | .nd v l r, k, x, j, h => by
    rw [set_nd]
    by_cases hk : k = 0
    · subst hk
      rw [if_pos rfl, get_nd, get_nd]
      by_cases hj : j = 0
      · rw [if_pos hj, if_pos hj]
      · rw [if_neg hj, if_neg hj, if_neg hj]
    · rw [if_neg hk]
      by_cases hm : k % 2 = 1
      · rw [if_pos hm, get_nd, get_nd]
        by_cases hj : j = 0
        · rw [if_pos hj, if_pos hj, if_neg (by omega)]
        · rw [if_neg hj, if_neg hj]
          by_cases hjm : j % 2 = 1
          · rw [if_pos hjm, if_pos hjm, get_set l _ _ _ (by omega)]
            by_cases e : j = k
            · subst e; simp
            · rw [if_neg e, if_neg (by omega)]
          · rw [if_neg hjm, if_neg hjm, if_neg (by intro e; subst e; exact hjm hm)]
      · rw [if_neg hm, get_nd, get_nd]
        by_cases hj : j = 0
        · rw [if_pos hj, if_pos hj, if_neg (by omega)]
        · rw [if_neg hj, if_neg hj]
          by_cases hjm : j % 2 = 1
          · rw [if_pos hjm, if_pos hjm, if_neg (by intro e; subst e; exact hm hjm)]
          · rw [if_neg hjm, if_neg hjm, get_set r _ _ _ (by omega)]
            by_cases e : j = k
            · subst e; simp
            · rw [if_neg e, if_neg (by omega)]

/-- A trie of the elements of a list, from a number on. -/
noncomputable def ofListAt : Nat → List α → Tr α → Tr α
  | _, [], t => t
  | n, x :: xs, t => ofListAt (n + 1) xs (t.set n (some x))

theorem get_ofListAt : ∀ (l : List α) (n : Nat) (t : Tr α) (j : Nat), n + l.length < lim →
    (ofListAt n l t).get j = if n ≤ j ∧ j < n + l.length then l[j - n]? else t.get j := by
  intro l
  induction l with
  | nil => intro n t j _; simp [ofListAt]; intro h h2; omega
  | cons x xs ih =>
    intro n t j h
    simp only [List.length_cons] at h
    simp only [ofListAt]
    rw [ih (n + 1) _ j (by omega), get_set _ _ _ _ (by omega)]
    simp only [List.length_cons]
    by_cases h1 : n + 1 ≤ j ∧ j < n + 1 + xs.length
    · rw [if_pos h1, if_pos (by omega)]
      obtain ⟨m, rfl⟩ : ∃ m, j = n + 1 + m := ⟨j - (n + 1), by omega⟩
      rw [show n + 1 + m - (n + 1) = m by omega, show n + 1 + m - n = m + 1 by omega]
      simp
    · rw [if_neg h1]
      by_cases h2 : j = n
      · subst h2; rw [if_pos rfl, if_pos (by omega)]; simp
      · rw [if_neg h2, if_neg (by omega)]
end Tr

/-! ### Places -/
structure Pl where
  cb : Nat
  off : Nat
  esz : Nat
  tot : Nat
  val : Value := undef
abbrev Th := Nat → Option Pl
/-- The sign of a capacity that is not known. -/
def unk : Nat := 4611686018427387904

/-! ### Values -/
/-- What the symbols' tags stand for, and which values are slices that came in and can be read. -/
class SemC where
  semf : Nat → List Value → Value
  rd : TypeId → Value → Prop
  add : ∀ k a b, semf 2 [.int k a, .int k b] = .int k (k.wrap (a + b))
  sub : ∀ k a b, semf 3 [.int k a, .int k b] = .int k (k.wrap (a - b))
  conv : ∀ d k n, semf (100 + d.ctorIdx) [.int k n] = .int d (d.wrap n)
variable [SemC]
/-- A whole number that an operation gives, spelt by its operands. -/
def apV (k : IntKind) (tag : Nat) (args : List Value) : Value := .func (.method "") ⟨.int k (.ofNat tag) :: args⟩ #[]
mutual
inductive VR (θ : Th) : Value → Value → Prop
  | bool (b : Bool) : VR θ (.bool b) (.bool b)
  | int (k : IntKind) (n : Int) : VR θ (.int k n) (.int k n)
  | str (s : ByteArray) : VR θ (.string s) (.string s)
  | ptrN : VR θ (.pointer none) (.pointer none)
  | ptr {b o : Nat} {p : Pl} : θ b = some p → VR θ (.pointer (some ⟨b, o, none⟩)) (.pointer (some ⟨p.cb, p.off + o, none⟩))
  | slN : VR θ (.slice none 0 0) (.slice none 0 0)
  | sl {b o : Nat} {p : Pl} {len cap : Nat} : θ b = some p → cap ≠ unk → VR θ (.slice (some ⟨b, o, none⟩) len cap) (.slice (some ⟨p.cb, p.off + o, none⟩) len cap)
  | slU {b o : Nat} {p : Pl} {len cap : Nat} : θ b = some p → len ≤ cap → p.off + o + cap * p.esz ≤ p.tot →
      VR θ (.slice (some ⟨b, o, none⟩) len unk) (.slice (some ⟨p.cb, p.off + o, none⟩) len cap)
  | slZ {b o c : Nat} {a : Addr} : c = unk ∨ c = 0 → VR θ (.slice (some ⟨b, o, none⟩) 0 c) (.slice (some a) 0 0)
  | mapN : VR θ (.map none) (.map none)
  | map {b : Nat} {p : Pl} : θ b = some p → VR θ (.map (some b)) (.map (some p.cb))
  | nilFunc : VR θ .nilFunc .nilFunc
  | func {f : FuncId} {fs fs' cs cs' : List Value} : LR θ fs fs' → LR θ cs cs' → VR θ (.func (.func f) ⟨fs⟩ ⟨cs⟩) (.func (.func f) ⟨fs'⟩ ⟨cs'⟩)
  | yield {l : Nat} {p : Pl} : θ l = some p → VR θ (.func (.yield l) #[] #[]) (.func (.yield p.cb) #[] #[])
  | nilIface : VR θ .nilIface .nilIface
  | iface {t : TypeId} {v v' : Value} : VR θ v v' → VR θ (.iface t v) (.iface t v')
  | agg {cs cs' : List Value} : LR θ cs cs' → VR θ (.agg ⟨cs⟩) (.agg ⟨cs'⟩)
  | tuple {cs cs' : List Value} : LR θ cs cs' → VR θ (.tuple ⟨cs⟩) (.tuple ⟨cs'⟩)
  | sym {n : Nat} {p : Pl} : θ n = some p → p.val.oneCell' = true → VR θ (.chan (some n)) p.val
  | ap {k : IntKind} {tag : Nat} {args args' : List Value} {n : Int} : LR θ args args' → SemC.semf tag args' = .int k n → VR θ (apV k tag args) (.int k n)
inductive LR (θ : Th) : List Value → List Value → Prop
  | nil : LR θ [] []
  | cons {v v' : Value} {vs vs' : List Value} : VR θ v v' → LR θ vs vs' → LR θ (v :: vs) (v' :: vs')
end

def Ext (θ θ' : Th) : Prop := ∀ b p, θ b = some p → θ' b = some p
omit [SemC] in
theorem Ext.refl (θ : Th) : Ext θ θ := fun _ _ h => h
omit [SemC] in
theorem Ext.trans {a b c : Th} (h : Ext a b) (k : Ext b c) : Ext a c := fun _ _ e => k _ _ (h _ _ e)

mutual
theorem VR.mono {θ θ' : Th} (h : Ext θ θ') : ∀ {v v' : Value}, VR θ v v' → VR θ' v v'
  | _, _, .bool b => .bool b
  | _, _, .int k n => .int k n
  | _, _, .str s => .str s
  | _, _, .ptrN => .ptrN
  | _, _, .ptr e => .ptr (h _ _ e)
  | _, _, .slN => .slN
  | _, _, .sl e c => .sl (h _ _ e) c
  | _, _, .slU e c d => .slU (h _ _ e) c d
  | _, _, .slZ e => .slZ e
  | _, _, .mapN => .mapN
  | _, _, .map e => .map (h _ _ e)
  | _, _, .nilFunc => .nilFunc
  | _, _, .func a b => .func (LR.mono h a) (LR.mono h b)
  | _, _, .yield e => .yield (h _ _ e)
  | _, _, .nilIface => .nilIface
  | _, _, .iface a => .iface (VR.mono h a)
  | _, _, .agg a => .agg (LR.mono h a)
  | _, _, .tuple a => .tuple (LR.mono h a)
  | _, _, .sym e o => .sym (h _ _ e) o
  | _, _, .ap a e => .ap (LR.mono h a) e
theorem LR.mono {θ θ' : Th} (h : Ext θ θ') : ∀ {v v' : List Value}, LR θ v v' → LR θ' v v'
  | _, _, .nil => .nil
  | _, _, .cons a b => .cons (VR.mono h a) (LR.mono h b)
end

theorem LR.length {θ : Th} : ∀ {v v' : List Value}, LR θ v v' → v.length = v'.length
  | _, _, .nil => rfl
  | _, _, .cons _ b => by simp [LR.length b]
theorem LR.get {θ : Th} : ∀ {v v' : List Value}, LR θ v v' → ∀ (i : Nat) (x : Value), v[i]? = some x → ∃ x', v'[i]? = some x' ∧ VR θ x x'
  | _, _, .nil, i, x, h => by simp at h
  | _, _, .cons a _, 0, x, h => by simp at h; subst h; exact ⟨_, by simp, a⟩
  | _, _, .cons _ b, i + 1, x, h => by simp at h; obtain ⟨x', h1, h2⟩ := LR.get b i x h; exact ⟨x', by simpa using h1, h2⟩
theorem LR.get' {θ : Th} : ∀ {v v' : List Value}, LR θ v v' → ∀ (i : Nat) (x' : Value), v'[i]? = some x' → ∃ x, v[i]? = some x ∧ VR θ x x'
  | _, _, .nil, i, x, h => by simp at h
  | _, _, .cons a _, 0, x, h => by simp at h; subst h; exact ⟨_, by simp, a⟩
  | _, _, .cons _ b, i + 1, x, h => by simp at h; obtain ⟨x', h1, h2⟩ := LR.get' b i x h; exact ⟨x', by simpa using h1, h2⟩
theorem LR.append {θ : Th} : ∀ {v v' u u' : List Value}, LR θ v v' → LR θ u u' → LR θ (v ++ u) (v' ++ u')
  | _, _, _, _, .nil, h => h
  | _, _, _, _, .cons a b, h => .cons a (LR.append b h)
theorem LR.drop {θ : Th} : ∀ (n : Nat) {v v' : List Value}, LR θ v v' → LR θ (v.drop n) (v'.drop n)
  | 0, _, _, h => by simpa using h
  | _ + 1, _, _, .nil => by simpa using LR.nil
  | n + 1, _, _, .cons _ b => by simpa using LR.drop n b
theorem LR.take {θ : Th} : ∀ (n : Nat) {v v' : List Value}, LR θ v v' → LR θ (v.take n) (v'.take n)
  | 0, _, _, _ => by simpa using LR.nil
  | _ + 1, _, _, .nil => by simpa using LR.nil
  | n + 1, _, _, .cons a b => by simpa using LR.cons a (LR.take n b)
theorem LR.set {θ : Th} : ∀ (n : Nat) {v v' : List Value} {x x' : Value}, LR θ v v' → VR θ x x' → LR θ (v.set n x) (v'.set n x')
  | _, _, _, _, _, .nil, _ => by simpa using LR.nil
  | 0, _, _, _, _, .cons _ b, h => by simpa using LR.cons h b
  | n + 1, _, _, _, _, .cons a b, h => by simpa using LR.cons a (LR.set n b h)
theorem LR.of_get {θ : Th} : ∀ {v v' : List Value}, v.length = v'.length → (∀ (i : Nat) (x x' : Value), v[i]? = some x → v'[i]? = some x' → VR θ x x') → LR θ v v'
  | [], [], _, _ => .nil
  | x :: v, x' :: v', hl, h => .cons (h 0 x x' (by simp) (by simp)) (LR.of_get (by simpa using hl) fun i a a' h1 h2 => h (i + 1) a a' (by simpa using h1) (by simpa using h2))
theorem VR.cells {θ : Th} {v v' : Value} (h : VR θ v v') : LR θ v.cells.toList v'.cells.toList := by
  cases h with
  | sym e o =>
    rename_i n p
    have : p.val.cells = #[p.val] := by
      cases hv : p.val <;> first | rfl | (rw [hv] at o; simp [Value.oneCell'] at o)
    rw [this]
    exact .cons (.sym e o) .nil
  | ap a e => exact .cons (.ap a e) .nil
  | _ => first | exact .cons (by constructor <;> assumption) .nil | assumption

/-! ### Values without places -/
mutual
def cst : Value → Bool
  | .bool _ | .int _ _ | .string _ | .pointer none | .map none | .nilFunc | .nilIface => true
  | .slice none 0 0 => true
  | .func (.func _) ⟨fs⟩ ⟨cs⟩ => cstL fs && cstL cs
  | .iface _ v => cst v
  | .agg ⟨cs⟩ => cstL cs
  | .tuple ⟨cs⟩ => cstL cs
  | _ => false
def cstL : List Value → Bool
  | [] => true
  | v :: vs => cst v && cstL vs
end
mutual
theorem VR.of_cst (θ : Th) : ∀ (v : Value), cst v = true → VR θ v v
  | .bool _, _ => .bool _
  | .int _ _, _ => .int _ _
  | .string _, _ => .str _
  | .pointer none, _ => .ptrN
  | .map none, _ => .mapN
  | .nilFunc, _ => .nilFunc
  | .nilIface, _ => .nilIface
  | .slice none 0 0, _ => .slN
  | .func (.func _) ⟨fs⟩ ⟨cs⟩, h => by
    simp only [cst, Bool.and_eq_true] at h
    exact .func (LR.of_cst θ fs h.1) (LR.of_cst θ cs h.2)
  | .iface _ v, h => .iface (VR.of_cst θ v (by simpa [cst] using h))
  | .agg ⟨cs⟩, h => .agg (LR.of_cst θ cs (by simpa [cst] using h))
  | .tuple ⟨cs⟩, h => .tuple (LR.of_cst θ cs (by simpa [cst] using h))
  | .float _ _, h | .complex _ _ _, h | .pointer (some _), h | .map (some _), h | .chan _, h => by simp [cst] at h
  | .slice (some _) _ _, h => by simp [cst] at h
  | .slice none (_ + 1) _, h => by simp [cst] at h
  | .slice none 0 (_ + 1), h => by simp [cst] at h
  | .func (.method _) _ _, h | .func (.methodOf _ _) _ _, h | .func (.via _ _ _ _) _ _, h | .func (.yield _) _ _, h => by simp [cst] at h
theorem LR.of_cst (θ : Th) : ∀ (v : List Value), cstL v = true → LR θ v v
  | [], _ => .nil
  | v :: vs, h => by
    simp only [cstL, Bool.and_eq_true] at h
    exact .cons (VR.of_cst θ v h.1) (LR.of_cst θ vs h.2)
end
end Go.Am
