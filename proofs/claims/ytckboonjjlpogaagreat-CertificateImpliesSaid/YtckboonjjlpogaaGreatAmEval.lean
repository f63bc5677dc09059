/- The abstract machine: codes, calls, rounds. -/
import Derived.Test.YtckboonjjlpogaaGreatAmDraw5
import Derived.RangeFuncRecord
set_option linter.unusedVariables false
set_option linter.unusedSimpArgs false
namespace Go.Am
noncomputable section
variable [SemC]

/-! ### Tables -/
def lazyTr {α : Type} (f : Nat → Option α) : Nat → Tr α
  | 0 => .lf
  | d + 1 => .nd (f 0) (lazyTr (fun j => f (2 * j + 1)) d) (lazyTr (fun j => f (2 * j + 2)) d)
omit [SemC] in
theorem lazyTr_get {α : Type} : ∀ (d : Nat) (f : Nat → Option α) (k : Nat) (v : α), (lazyTr f d).get k = some v → f k = some v
  | 0, f, k, v, h => by simp [lazyTr, Tr.get_lf] at h
  | d + 1, f, k, v, h => by
    rw [lazyTr, Tr.get_nd] at h
    split at h
    · rename_i hk
      rw [hk]; exact h
    · rename_i hk0
      split at h
      · rename_i hm'
        have := lazyTr_get d _ _ v h
        rwa [show 2 * (k / 2) + 1 = k by omega] at this
      · rename_i hm'
        have := lazyTr_get d _ _ v h
        rwa [show 2 * (k / 2 - 1) + 2 = k by omega] at this

def tyOf (P : Program) (t : Nat) : Option (TypeInfo × TypeDesc) :=
  match P.info? t with
  | some i => match P.underlying t with
    | some d => some (i, d)
    | none => none
  | none => none
def fnOf (P : Program) (f : Nat) : Option Func :=
  match P.funcs[f]? with
  | some x => match x.name == "runtime.NumGoroutine" with
    | false => some x
    | true => none
  | none => none
def eqOf (P : Program) (t : Nat) : Option Unit :=
  match P.stoodInHeld t with
  | false => match P.eqGuardType P.depth t with
    | false => some ()
    | true => none
  | true => none
def mkTbl (P : Program) : Tbl := ⟨lazyTr (tyOf P) 12, lazyTr (fnOf P) 12, lazyTr (eqOf P) 12⟩

omit [SemC] in
theorem mkTbl_ok {P : Program} (h : P.follows .mixedOrders = true) : TblOK P (mkTbl P) := by
  refine ⟨?_, ?_, ?_, h⟩
  · intro t i d ht
    have := lazyTr_get _ _ _ _ ht
    unfold tyOf at this
    split at this
    · rename_i i' hi
      split at this
      · rename_i d' hd; cases this; exact ⟨hi, hd⟩
      · cases this
    · cases this
  · intro f x hf
    have := lazyTr_get _ _ _ _ hf
    unfold fnOf at this
    split at this
    · rename_i x' hx
      split at this
      · cases this; exact hx
      · cases this
    · cases this
  · intro t ht
    have := lazyTr_get _ _ _ _ ht
    unfold eqOf at this
    split at this
    · rename_i h1
      split at this
      · rename_i h2; exact ⟨h1, h2⟩
      · cases this
    · cases this

def FnOK (T : Tbl) : Prop := ∀ f x, T.fn.get f = some x → (x.name == "runtime.NumGoroutine") = false
omit [SemC] in
theorem mkTbl_fn (P : Program) : FnOK (mkTbl P) := by
  intro f x hf
  have := lazyTr_get _ _ _ _ hf
  unfold fnOf at this
  split at this
  · rename_i x' hx
    split at this
    · rename_i h; cases this; exact h
    · cases this
  · cases this

/-! ### Codes -/
def setO (H : AH) (b : Nat) (o : AO) : AH := ⟨H.hp.set b (some o), H.nx⟩

def blockR (id : Nat) (r : AX × St) : AX × St :=
  match r.1 with
  | .exit j => match Nat.beq j id with
    | true => (.normal, r.2)
    | false => r
  | _ => r

def jumpRF (E : Ev) (pend : Option Code) (st : St) : Option (List (AX × St)) :=
  match pend with
  | none => some [(.normal, st)]
  | some c => E.c c false st
/-- Behind the function that a loop ranges over. -/
def afterRF (E : Ev) (l : Nat) (st : St) (r : Value × AH) : Option (List (AX × St)) :=
  match r.2.hp.get l with
  | some (.loop ls pend tm sz ps asg body df) => match ls, Nat.beq df st.h.nx with
    | .busy, _ => none
    | _, false => none
    | _, true => jumpRF E pend ⟨st.tm, st.sz, df :: st.df, setO r.2 l (.loop .exhausted pend tm sz ps asg body df)⟩
  | _ => none

def evRF (E : Ev) (g : Operand) (ps : Array Tmp) (asg body : Code) (st : St) : Option (List (AX × St)) :=
  match Nat.blt (st.h.nx + 1) Tr.lim, oev st.tm g with
  | true, some (.func (.func f) fs cs) =>
    bnd (E.f (.func (.func f) fs cs) [.func (.yield (st.h.nx + 1)) #[] #[]] ⟨(st.h.hp.set st.h.nx (some (.dfr true))).set (st.h.nx + 1) (some (.loop .ready none st.tm st.sz ps.toList asg body st.h.nx)), st.h.nx + 2⟩)
      (afterRF E (st.h.nx + 1) st)
  | _, _ => none

/-- The rounds of a loop. -/
def evRounds (E : Ev) (b : Code) (inr : Bool) : Nat → St → Option (List (AX × St))
  | 0, _ => none
  | n + 1, st => bnd (E.c b inr st) fun r => match r.1 with
    | .normal => evRounds E b inr n r.2
    | _ => some [r]

def stepCS (T : Tbl) (E : Ev) (c : Code) (inr : Bool) (st : St) : Option (List (AX × St)) :=
  match c with
  | .skip => some [(.normal, st)]
  | .label _ => some [(.normal, st)]
  | .region _ ops d => match d with
    | true => evD T E ops st
    | false => evOps T E ops st.sz st.df ops.toList st.tm st.h
  | .seq x y => bnd (E.c x inr st) fun r => match r.1 with
    | .normal => E.c y inr r.2
    | _ => some [r]
  | .cond x t e => match oev st.tm x with
    | some (.bool true) => E.c t inr st
    | some (.bool false) => E.c e inr st
    | _ => none
  | .block id b => match E.c b inr st with
    | some l => some (l.map (blockR id))
    | none => none
  | .loop b => evRounds E b inr 100000 st
  | .exit id => some [(.exit id, st)]
  | .ret => some [(.ret, st)]
  | .rangeFunc g ps asg body => match inr with
    | false => evRF E g ps asg body st
    | true => none
  | _ => none

/-! The same, with closed branches. -/
abbrev CK := Tbl → Ev → Bool → St → Option (List (AX × St))
def cSeq (x y : Code) : CK := fun _ E inr st => bnd (E.c x inr st) fun r => match r.1 with
    | .normal => E.c y inr r.2
    | _ => some [r]
def cCond (x : Operand) (t e : Code) : CK := fun _ E inr st => match oev st.tm x with
    | some (.bool true) => E.c t inr st
    | some (.bool false) => E.c e inr st
    | _ => none
def cBlock (id : Nat) (b : Code) : CK := fun _ E inr st => match E.c b inr st with
    | some l => some (l.map (blockR id))
    | none => none
def cRF (g : Operand) (ps : Array Tmp) (asg body : Code) : CK := fun _ E inr st => match inr with
    | false => evRF E g ps asg body st
    | true => none
def cRegion (ops : Array Oper) (d : Bool) : CK := fun T E _ st => match d with
    | true => evD T E ops st
    | false => evOps T E ops st.sz st.df ops.toList st.tm st.h
def stepC (T : Tbl) (E : Ev) (c : Code) (inr : Bool) (st : St) : Option (List (AX × St)) :=
  Code.rec (motive := fun _ => CK) (fun _ _ _ st => some [(.normal, st)]) (fun _ ops d => cRegion ops d) (fun x y _ _ => cSeq x y) (fun x t e _ _ => cCond x t e) (fun id b _ => cBlock id b)
    (fun b _ _ E inr st => evRounds E b inr 100000 st) (fun g ps asg body _ _ => cRF g ps asg body) (fun id _ _ _ st => some [(.exit id, st)]) (fun _ _ _ _ _ _ => none) (fun _ _ _ _ st => some [(.normal, st)])
    (fun _ _ _ _ _ => none) (fun _ _ _ st => some [(.ret, st)]) (fun _ _ _ _ _ => none) c T E inr st
omit [SemC] in
theorem stepC_eq (T : Tbl) (E : Ev) (c : Code) (inr : Bool) (st : St) : stepC T E c inr st = stepCS T E c inr st := by
  cases c <;> first
    | rfl
    | skip

/-! ### Calls -/
def resL (T : Tbl) (tm : Tr Value) (hp : Tr AO) : List ResultVar → Option (List Value)
  | [] => some []
  | .tmp t :: r => match tm.get t with
    | some v => match resL T tm hp r with
      | some vs => some (v :: vs)
      | none => none
    | none => none
  | .cell a t :: r => match tm.get a with
    | some p => match pLoad T hp t p with
      | some v => match resL T tm hp r with
        | some vs => some (v :: vs)
        | none => none
      | none => none
    | none => none
def resOne : List Value → Value
  | [v] => v
  | vs => .tuple ⟨vs⟩
/-- The marks of the loops over functions, come to. -/
def unmark : List Nat → Tr AO → Option (Tr AO)
  | [], hp => some hp
  | r :: rs, hp => match hp.get r, Nat.blt r Tr.lim with
    | some (.dfr true), true => unmark rs (hp.set r (some (.dfr false)))
    | _, _ => none
def leave (T : Tbl) (fn : Func) (r : AX × St) : Option (List (Value × AH)) :=
  match r.1 with
  | .exit _ => none
  | _ => match unmark r.2.df r.2.h.hp with
    | none => none
    | some hp => match resL T r.2.tm hp fn.results.toList with
      | some vs => some [(resOne vs, ⟨hp, r.2.h.nx⟩)]
      | none => none

def evCall (T : Tbl) (E : Ev) (fn : Func) (args : List Value) (H : AH) : Option (List (Value × AH)) :=
  match fn.body, Nat.blt args.length Tr.lim with
  | some c, true => bnd (E.c c false ⟨Tr.ofListAt 0 args .lf, args.length + (fn.ntmps - args.length), [], H⟩) (leave T fn)
  | _, _ => none

def putL (sz : Nat) : List Tmp → List Value → Tr Value → Option (Tr Value)
  | [], [], tm => some tm
  | t :: ts, v :: vs, tm => match putT tm sz (some t) v with
    | some tm' => putL sz ts vs tm'
    | none => none
  | _, _, _ => none
def endRd (l : Nat) (r : AX × St) : Option (List (Value × AH)) :=
  match r.2.h.hp.get l with
  | some (.loop _ _ tm sz ps asg body df) => match r.1 with
    | .normal => some [(.bool true, setO r.2.h l (.loop .ready none tm sz ps asg body df))]
    | .ret => some [(.bool false, setO r.2.h l (.loop .done (some .ret) tm sz ps asg body df))]
    | .exit id => some [(.bool false, setO r.2.h l (.loop .done (some (.exit id)) tm sz ps asg body df))]
  | _ => none
def beginRd (E : Ev) (l : Nat) (code : Code) (r : AX × St) : Option (List (Value × AH)) :=
  match r.1 with
  | .normal => match r.2.h.hp.get l with
    | some (.loop ls pend tm sz ps asg body df) => match ls with
      | .ready => bnd (E.c code true ⟨r.2.tm, r.2.sz, r.2.df, setO r.2.h l (.loop .busy pend tm sz ps asg body df)⟩) (endRd l)
      | _ => none
    | _ => none
  | _ => none
def evYield (E : Ev) (l : Nat) (args : List Value) (H : AH) : Option (List (Value × AH)) :=
  match H.hp.get l, Nat.blt l Tr.lim with
  | some (.loop _ _ tm sz ps asg body _), true => match putL sz ps args tm with
    | some tm' => bnd (E.c asg true ⟨tm', sz, [], H⟩) (fun r => match beginRd E l body r with
      | some m => some m
      | none => none)
    | none => none
  | _, _ => none

/-! ### Ways that come to the same -/
mutual
def refsV : Value → List Nat → List Nat
  | .pointer (some ⟨b, _, _⟩), r => b :: r
  | .slice (some ⟨b, _, _⟩) _ _, r => b :: r
  | .map (some b), r => b :: r
  | .func _ ⟨fs⟩ ⟨cs⟩, r => refsL fs (refsL cs r)
  | .iface _ v, r => refsV v r
  | .agg ⟨cs⟩, r => refsL cs r
  | .tuple ⟨cs⟩, r => refsL cs r
  | _, r => r
def refsL : List Value → List Nat → List Nat
  | [], r => r
  | v :: vs, r => refsV v (refsL vs r)
end
def refsE : List (Value × Value × Nat) → List Nat → List Nat
  | [], r => r
  | (k, v, _) :: es, r => refsV k (refsV v (refsE es r))
def refsO : AO → List Nat → List Nat
  | .cells _ vs, r => refsL vs r
  | .map es _, r => refsE es r
  | _, r => r
/-- What can be reached from some blocks. -/
def reach (hp : Tr AO) : Nat → List Nat → Tr Unit → List (Nat × AO) → Option (List (Nat × AO))
  | _, [], _, acc => some acc
  | 0, _ :: _, _, _ => none
  | n + 1, b :: bs, seen, acc => match seen.get b with
    | some _ => reach hp n bs seen acc
    | none => match hp.get b with
      | some o => reach hp n (refsO o bs) (seen.set b (some ())) ((b, o) :: acc)
      | none => reach hp n bs (seen.set b (some ())) acc
def setAO : List (Nat × AO) → Tr AO → Tr AO
  | [], hp => hp
  | (b, o) :: r, hp => setAO r (hp.set b (some o))
def unsetAO : List (Nat × AO) → Tr AO → Tr AO
  | [], hp => hp
  | (b, _) :: r, hp => unsetAO r (hp.set b none)
def keysOf (l : List (Nat × AO)) : List Nat := l.map (·.1)
def sameL : List (Nat × AO) → List (Nat × AO) → Bool
  | [], [] => true
  | (b, o) :: r, (b', o') :: r' => match Nat.beq b b', sameO o o' with
    | true, true => sameL r r'
    | _, _ => false
  | _, _ => false
def limL : List (Nat × AO) → Bool
  | [] => true
  | (b, _) :: r => match Nat.blt b Tr.lim with
    | true => limL r
    | false => false
def reachR (R : List (Nat × AO)) (r : Value × AH) : Option (List (Nat × AO)) := reach r.2.hp 100000 (refsV r.1 (keysOf R)) .lf []
def allSame (R : List (Nat × AO)) (v : Value) (L : List (Nat × AO)) (nx : Nat) : List (Value × AH) → Bool
  | [] => true
  | r :: rs => match vid 40 v r.1, Nat.ble r.2.nx nx, reachR R r with
    | true, true, some L' => match sameL L L' with
      | true => allSame R v L nx rs
      | false => false
    | _, _, _ => false
def maxNx : List (Value × AH) → Nat → Nat
  | [], n => n
  | r :: rs, n => match Nat.ble r.2.nx n with
    | true => maxNx rs n
    | false => maxNx rs r.2.nx
/-- The ways of a call in the part of the heap that it reaches; as one way, put back into the heap. -/
def mergeR (R : List (Nat × AO)) (H : AH) (outs : List (Value × AH)) : Option (List (Value × AH)) :=
  match outs with
  | [] => none
  | r :: _ => match reachR R r with
    | none => none
    | some L => match allSame R r.1 L (maxNx outs 0) outs, limL R, limL L with
      | true, true, true => some [(r.1, ⟨setAO L (unsetAO R H.hp), maxNx outs 0⟩)]
      | _, _, _ => none

def stepM (T : Tbl) (E : Ev) (fn : Func) (args : List Value) (H : AH) : Option (List (Value × AH)) :=
  match reach H.hp 100000 (refsL args []) .lf [] with
  | none => none
  | some R => match limL R, evCall T E fn args ⟨setAO R .lf, H.nx⟩ with
    | true, some outs => mergeR R H outs
    | _, _ => none

def stepF (T : Tbl) (M : Nat → Bool) (E : Ev) (fv : Value) (args : List Value) (H : AH) : Option (List (Value × AH)) :=
  match fv with
  | .func (.func f) ⟨fs⟩ ⟨cs⟩ => match T.fn.get f with
    | some fn => match M f with
      | false => evCall T E fn (fs ++ args ++ cs) H
      | true => stepM T E fn (fs ++ args ++ cs) H
    | none => none
  | .func (.yield l) ⟨fs⟩ ⟨_⟩ => match fs with
    | [] => evYield E l args H
    | _ => none
  | _ => none

def ev (T : Tbl) (M : Nat → Bool) : Nat → Ev
  | 0 => ⟨fun _ _ _ => none, fun _ _ _ => none⟩
  | n + 1 => ⟨fun c inr st => stepC T (ev T M n) c inr st, fun fv args H => stepF T M (ev T M n) fv args H⟩
end
end Go.Am
