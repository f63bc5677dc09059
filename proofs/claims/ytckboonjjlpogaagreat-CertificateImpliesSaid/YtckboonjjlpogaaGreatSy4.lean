/- The symbolic machine: operations, regions (drawn ones too), codes, calls by contracts; its soundness. -/
import Derived.Test.YtckboonjjlpogaaGreatSy3
import Derived.Sort.QuietThIn
set_option linter.unusedVariables false
set_option linter.unusedSimpArgs false
namespace Go.Am
open Go.RowKit
noncomputable section
variable [SemC]

/-! ### Contracts of callees -/
inductive AS where
  | one (k : SK)
  | agg (l : List SK)
  | fn (f : FuncId)
structure Row where
  tag : Nat
  as : List AS
  kd : SK
abbrev Tab := FuncId → Option Row

def isK (hp : Tr AO) (k : SK) (v : Value) : Bool :=
  match k with
  | .int k => match sortI hp v with
    | some j => decide (j = k)
    | none => false
  | .bool => sortB hp v
  | .str => sortS hp v
  | .slice e => match v with
    | .chan (some n) => match hp.get n with
      | some (.sym _ _ (.slice e')) => Nat.beq e' e
      | _ => false
    | _ => false
  | _ => false
def isKL (hp : Tr AO) : List SK → List Value → Bool
  | [], [] => true
  | k :: ks, v :: vs => match isK hp k v with
    | true => isKL hp ks vs
    | false => false
  | _, _ => false
def chkA (hp : Tr AO) : AS → Value → Bool
  | .one k, v => isK hp k v
  | .agg l, v => match v with
    | .agg ⟨cs⟩ => isKL hp l cs
    | _ => false
  | .fn f, v => sid1 v (.func (.func f) #[] #[])
def chkL (hp : Tr AO) : List AS → List Value → Bool
  | [], [] => true
  | a :: as, v :: vs => match chkA hp a v with
    | true => chkL hp as vs
    | false => false
  | _, _ => false

section
def KL : List SK → List Value → Prop
  | [], [] => True
  | k :: ks, v :: vs => k.ok v ∧ v.oneCell' = true ∧ KL ks vs
  | _, _ => False
def AS.ok : AS → Value → Prop
  | .one k, v => k.ok v ∧ v.oneCell' = true
  | .agg l, v => ∃ cs, v = .agg ⟨cs⟩ ∧ KL l cs
  | .fn f, v => v = .func (.func f) #[] #[]
def ASL : List AS → List Value → Prop
  | [], [] => True
  | a :: as, v :: vs => a.ok v ∧ ASL as vs
  | _, _ => False
theorem isK_sound {θ : Th} {hp : Tr AO} {heap : Array Obj} (hR : RO θ hp heap) {k : SK} {v v' : Value} (hv : VR θ v v') (h : isK hp k v = true) : k.ok v' ∧ v'.oneCell' = true := by
  unfold isK at h
  split at h
  · split at h
    · rename_i hk
      obtain ⟨n, rfl⟩ := sortI_sound hR hv hk
      have := of_decide_eq_true h
      subst this
      exact ⟨⟨n, rfl⟩, rfl⟩
    · cases h
  · obtain ⟨b, rfl⟩ := sortB_sound hR hv h; exact ⟨⟨b, rfl⟩, rfl⟩
  · obtain ⟨b, rfl⟩ := sortS_sound hR hv h; exact ⟨⟨b, rfl⟩, rfl⟩
  · split at h
    · split at h
      · rename_i hg
        have := Nat.eq_of_beq_eq_true h
        subst this
        obtain ⟨h1, h2, _⟩ := hR.symAt hg hv
        exact ⟨h1, h2⟩
      · cases h
    · cases h
  · cases h
theorem isKL_sound {θ : Th} {hp : Tr AO} {heap : Array Obj} (hR : RO θ hp heap) : ∀ {ks : List SK} {vs vs' : List Value}, LR θ vs vs' → isKL hp ks vs = true → KL ks vs'
  | [], [], _, .nil, _ => trivial
  | [], _ :: _, _, _, h => by simp [isKL] at h
  | _ :: _, [], _, _, h => by simp [isKL] at h
  | k :: ks, v :: vs, _, .cons hv hr, h => by
    simp only [isKL] at h
    split at h
    · rename_i h1
      obtain ⟨a, b⟩ := isK_sound hR hv h1
      exact ⟨a, b, isKL_sound hR hr h⟩
    · cases h
theorem chkA_sound {θ : Th} {hp : Tr AO} {heap : Array Obj} (hR : RO θ hp heap) {a : AS} {v v' : Value} (hv : VR θ v v') (h : chkA hp a v = true) : a.ok v' := by
  unfold chkA at h
  split at h
  · exact isK_sound hR hv h
  · split at h
    · cases hv with
      | agg hl => exact ⟨_, rfl, isKL_sound hR hl h⟩
    · cases h
  · exact sid1_det h hv (.func .nil .nil)
theorem chkL_sound {θ : Th} {hp : Tr AO} {heap : Array Obj} (hR : RO θ hp heap) : ∀ {as : List AS} {vs vs' : List Value}, LR θ vs vs' → chkL hp as vs = true → ASL as vs'
  | [], [], _, .nil, _ => trivial
  | [], _ :: _, _, _, h => by simp [chkL] at h
  | _ :: _, [], _, _, h => by simp [chkL] at h
  | k :: ks, v :: vs, _, .cons hv hr, h => by
    simp only [chkL] at h
    split at h
    · rename_i h1; exact ⟨chkA_sound hR hv h1, chkL_sound hR hr h⟩
    · cases h

def TabOK (P : Program) (w0 : World) (B : Tab) : Prop := ∀ f r, B f = some r → ∀ w args', Below w0.heap.size w0 w → ASL r.as args' →
  (r.kd.ok (SemC.semf r.tag args') ∧ (SemC.semf r.tag args').oneCell' = true) ∧ Calls P f ⟨args'⟩ w fun e w' => e = .returned (SemC.semf r.tag args') ∧ Below w.heap.size w w'
end

def callY (T : Tbl) (B : Tab) (H : AH) (fv : Value) (args : List Value) : Option (List (Value × AH)) :=
  match fv with
  | .func (.func f) ⟨[]⟩ ⟨[]⟩ => match T.fn.get f, B f with
    | some fn, some r => match fn.body, chkL H.hp r.as args with
      | some _, true => match r.kd with
        | .boolK b => some [(.bool b, H)]
        | k => one (symR r.tag args k H)
      | _, _ => none
    | _, _ => none
  | _ => none

/-! ### Operations that may come up in any order -/
def isChan : Value → Bool
  | .chan _ => true
  | _ => false
def hasC : Value → Bool
  | .chan _ => true
  | .agg ⟨cs⟩ => match allV (fun v => match isChan v with | true => false | false => true) cs with
    | true => false
    | false => true
  | _ => false
def pk (b : Bool) (x y : Option Value) : Option Value :=
  match b with
  | true => x
  | false => y
def pickL (x y : Option Value) : List (Bool × AH) → Option (List (Value × AH))
  | [] => some []
  | r :: l => match pk r.1 x y, pickL x y l with
    | some v, some m => some ((v, r.2) :: m)
    | _, _ => none
def opQ (T : Tbl) (kn : TypeId → List SK) (B : Tab) (ev : Operand → Option Value) (H : AH) (o : Op) : Option (List (Value × AH)) :=
  match o with
  | .pick c a b => match ev c with
    | some vc => match forkB H vc with
      | some l => pickL (ev a) (ev b) l
      | none => none
    | none => none
  | .unOp u _ x => match u, ev x with
    | .not, some v => match forkB H v with
      | some l => some (negL l)
      | none => none
    | _, _ => none
  | .binOp op t x y _ => match ev x, ev y with
    | some a, some b => match hasC a, hasC b with
      | false, false => none
      | _, _ => binY T H op t a b
    | _, _ => none
  | .convert s d x => match ev x with
    | some a => match isChan a with
      | true => convY T H s d a
      | false => none
    | none => none
  | .indexAddr t x i => match ev x, ev i with
    | some a, some b => match isChan a with
      | true => idxY T H t a b
      | false => none
    | _, _ => none
  | .fieldAddr s x f => match ev x with
    | some a => match isChan a with
      | true => fieldY T H s a f
      | false => none
    | none => none
  | .load t x => match ev x with
    | some a => match isChan a with
      | true => loadY T kn H t a
      | false => none
    | none => none
  | .call c => match c.callee with
    | .value f => match ev f, oevL ev c.args.toList with
      | some fv, some vs => callY T B H fv vs
      | _, _ => none
    | .builtin .len => match c.argTypes.toList, oevL ev c.args.toList with
      | t :: _, some (x :: _) => match isChan x with
        | true => lenY T H t x
        | false => none
      | _, _ => none
    | _ => none
  | _ => none
def opD (T : Tbl) (kn : TypeId → List SK) (B : Tab) (ev : Operand → Option Value) (H : AH) (o : Op) : Option (List (Value × AH)) :=
  match opQ T kn B ev H o with
  | some r => some r
  | none => match pev T ev H.hp o with
    | some (.v v) => match sid v v with
      | true => some [(v, H)]
      | false => none
    | _ => none
def opP (T : Tbl) (kn : TypeId → List SK) (B : Tab) (ev : Operand → Option Value) (H : AH) (o : Op) : Option (List (Value × AH)) :=
  match opQ T kn B ev H o with
  | some r => some r
  | none => match isE o with
    | true => eev T ev H o
    | false => match pev T ev H.hp o with
      | some (.v v) => some [(v, H)]
      | some (.new ao mk) => match Nat.blt H.nx Tr.lim with
        | true => some [(mk H.nx, ⟨H.hp.set H.nx (some ao), Nat.succ H.nx⟩)]
        | false => none
      | none => none

/-! ### Guards, regions -/
def eqL (want : Bool) (l : List (Bool × AH)) : List (Bool × AH) := l.map fun r => (r.1 == want, r.2)
def guardY (ops : Array Oper) (tm : Tr Value) (H : AH) (o : Oper) : Option (List (Bool × AH)) :=
  match o.guard with
  | none => some [(true, H)]
  | some (j, want) => match ops[j]? with
    | some oj => match oj.dst with
      | some d => match tm.get d with
        | some v => match v with
          | .tuple _ => some [(false, H)]
          | v => match forkB H v with
            | some l => some (eqL want l)
            | none => none
        | none => none
      | none => none
    | none => none
abbrev OpF := (Operand → Option Value) → AH → Op → Option (List (Value × AH))
def opsY (F : OpF) (ops : Array Oper) (sz : Nat) (df : List Nat) : List Oper → Tr Value → AH → Option (List (AX × St))
  | [], tm, h => some [(.normal, ⟨tm, sz, df, h⟩)]
  | o :: rest, tm, h => bnd (guardY ops tm h o) fun g => match g.1 with
    | false => match putT tm sz o.dst undef with
      | some tm' => opsY F ops sz df rest tm' g.2
      | none => none
    | true => bnd (F (oev tm) g.2 o.op) fun r => match putT tm sz o.dst r.1 with
      | some tm' => opsY F ops sz df rest tm' r.2
      | none => none

section
variable {P : Program} {T : Tbl} (hT : TblOK P T) {kn : TypeId → List SK} {w0 : World} (hS : SemOK T kn w0) {B : Tab} (hB : TabOK P w0 B)

/-- A later world, of the old blocks of which nothing has turned. -/
theorem RH.below {θ : Th} {H : AH} {W w : World} (hR : RH θ H W) (hb : Below W.heap.size W w) : RH θ H w ∧ Fr θ H W θ H w := by
  refine ⟨⟨⟨?_, hR.inj⟩, hR.fresh⟩, ⟨hb.size, hb.os, hb.tape, hb.output, fun k hk _ => hb.block k hk, fun _ _ h => h, fun _ _ => rfl, Nat.le_refl _⟩⟩
  intro b o hg
  obtain ⟨p, hp, hr⟩ := hR.obj b o hg
  refine ⟨p, hp, ?_⟩
  cases hw : o.wr with
  | false => exact hr.monoS (Ext.refl θ) hw
  | true => exact hr.mono (Ext.refl θ) (hb.block _ (hr.lt hw))

/-- What an operation does in a world: a value, or a call that lays blocks at most. -/
def QR (P : Program) (o : Oper) (ρ : Operand → Value) (w : World) (v' : Value) : Prop :=
  (execOp ρ o).run P w = .ok (.value v') w ∨ ∃ f args, (execOp ρ o).run P w = .ok (.enter f args) w ∧ Calls P f args w fun e w' => e = .returned v' ∧ Below w.heap.size w w'

omit [SemC] in
theorem pickL_mem {x y : Option Value} : ∀ {l : List (Bool × AH)} {m : List (Value × AH)}, pickL x y l = some m → ∀ b H, (b, H) ∈ l → ∃ v, pk b x y = some v ∧ (v, H) ∈ m
  | [], m, h, b, H, hm => by simp at hm
  | r :: l, m, h, b, H, hm => by
    simp only [pickL] at h
    split at h
    · rename_i v m' hv hm'
      cases h
      rcases List.mem_cons.1 hm with rfl | hm
      · exact ⟨v, hv, by simp⟩
      · obtain ⟨v2, h1, h2⟩ := pickL_mem hm' b H hm
        exact ⟨v2, h1, List.mem_cons_of_mem _ h2⟩
    · cases h

include hT hB in
theorem callY_sound {θ : Th} {H : AH} {W : World} (hW : Below w0.heap.size w0 W) (hR : RH θ H W) (hfn : FnOK T) {ρ : Operand → Value} {o : Oper} {c : Call} {f : Operand} (ho : o.op = .call c) (hf : c.callee = .value f) {fv : Value} {vs : List Value} (hv : VR θ fv (ρ f)) (ha : LR θ vs (c.args.toList.map ρ))
    {outs : List (Value × AH)} (h : callY T B H fv vs = some outs) : ∃ v', (∀ w, Below W.heap.size W w → QR P o ρ w v') ∧ FQ θ H outs v' := by
  unfold callY at h
  split at h
  · rename_i f0
    split at h
    · rename_i fn r hfn0 hr
      split at h
      · rename_i cb hbody hchk
        have hASL := chkL_sound ⟨hR.obj, hR.inj⟩ ha hchk
        have hfP := hT.fn _ _ hfn0
        have hname : ¬ fn.name = "runtime.NumGoroutine" := by simpa using hfn _ _ hfn0
        obtain ⟨⟨k1, k2⟩, _⟩ := hB _ _ hr W _ hW hASL
        refine ⟨SemC.semf r.tag (c.args.toList.map ρ), fun w hw => .inr ⟨f0, ⟨c.args.toList.map ρ⟩, ?_, ?_⟩, ?_⟩
        · have e1 : c.args.map ρ = ⟨c.args.toList.map ρ⟩ := by apply Array.ext'; simp
          have ev : ρ f = .func (.func f0) #[] #[] := by
            generalize ρ f = z at hv
            cases hv with
            | func a b => cases a; cases b; rfl
          simp only [execOp, ho, resolve, hf, e1, ev]
          simp [Deferred.ofValue, invoke, callFunc, hfP, hname, hbody]
        · exact (hB _ _ hr w _ (hW.trans (hw.mono hW.size)) hASL).2
        · split at h
          · rename_i b hkd
            cases h
            rw [hkd] at k1
            have : SemC.semf r.tag (c.args.toList.map ρ) = .bool b := k1
            rw [this]
            exact ⟨_, H, θ, List.mem_singleton.2 rfl, .bool _, Up.refl _ _⟩
          · exact FQ.one hR ha rfl k1 k2 h
      · cases h
    · cases h
  · cases h

include hT hS hB in
theorem opQ_sound {θ : Th} {H : AH} {W : World} (hW : Below w0.heap.size w0 W) (hR : RH θ H W) (hfn : FnOK T) {ev : Operand → Option Value} {ρ : Operand → Value} {o : Oper} (hev : ∀ x ∈ o.op.operands, ∀ v, ev x = some v → VR θ v (ρ x)) {outs : List (Value × AH)}
    (h : opQ T kn B ev H o.op = some outs) : ∃ v', (∀ w, Below W.heap.size W w → QR P o ρ w v') ∧ FQ θ H outs v' := by
  obtain ⟨dst, op, ty, pos, after, guard⟩ := o
  simp only at h hev
  cases op <;> simp only [opQ, reduceCtorEq] at h
  case pick c x y =>
    split at h
    · rename_i vc hc
      split at h
      · rename_i l hl
        obtain ⟨b, H', hm, he, hU⟩ := forkB_sound hR (hev _ (by simp [Op.operands]) _ hc) hl
        obtain ⟨v, h1, h2⟩ := pickL_mem h b H' hm
        cases b with
        | true => exact ⟨ρ x, fun w _ => .inl (by simp [execOp, he, asBool]), v, H', θ, h2, hev _ (by simp [Op.operands]) _ h1, hU⟩
        | false => exact ⟨ρ y, fun w _ => .inl (by simp [execOp, he, asBool]), v, H', θ, h2, hev _ (by simp [Op.operands]) _ h1, hU⟩
      · cases h
    · cases h
  case unOp u t x =>
    split at h
    · rename_i v hx
      split at h
      · rename_i l hl
        cases h
        obtain ⟨b, H', hm, he, hU⟩ := forkB_sound hR (hev _ (by simp [Op.operands]) _ hx) hl
        exact ⟨.bool (!b), fun w _ => .inl (by simp [execOp, he, Op.unary]), _, H', θ, List.mem_map_of_mem (f := fun r : Bool × AH => (Value.bool (!r.1), r.2)) hm, .bool _, hU⟩
      · cases h
    · cases h
  case binOp bop t x y yt =>
    split at h
    · rename_i a b hx hy
      have key : ∀ {r}, binY T H bop t a b = some r → ∃ v', (∀ w, Below W.heap.size W w → QR P ⟨dst, .binOp bop t x y yt, ty, pos, after, guard⟩ ρ w v') ∧ FQ θ H r v' := by
        intro r hr
        obtain ⟨v', h1, h2⟩ := binY_sound (P := P) hT hS hR (hev x (by simp [Op.operands]) _ hx) (hev y (by simp [Op.operands]) _ hy) x y hr
        exact ⟨v', fun w _ => .inl (by
          have e : (execOp ρ ⟨dst, .binOp bop t x y yt, ty, pos, after, guard⟩).run P w = (do pure (Next.value (← (do eqGuard bop t x y (ρ x) (ρ y); binOp bop t (ρ x) (ρ y) : Sem Value))) : Sem Next).run P w := rfl
          rw [e, Sem.run_bind, h1 w, Result.andThen_ok]; rfl), h2⟩
      split at h
      · cases h
      · exact key h
    · cases h
  case convert s d x =>
    split at h
    · rename_i a hx
      split at h
      · obtain ⟨v', h1, h2⟩ := convY_sound (P := P) hT hR (hev x (by simp [Op.operands]) _ hx) h
        exact ⟨v', fun w _ => .inl (by simp [execOp, h1 w]), h2⟩
      · cases h
    · cases h
  case indexAddr t x i =>
    split at h
    · rename_i a b hx hy
      split at h
      · obtain ⟨v', h1, h2⟩ := idxY_sound (P := P) hT hS hR (hev x (by simp [Op.operands]) _ hx) (hev i (by simp [Op.operands]) _ hy) h
        exact ⟨v', fun w _ => .inl (by simp [execOp, h1 w]), h2⟩
      · cases h
    · cases h
  case fieldAddr s x f =>
    split at h
    · rename_i a hx
      split at h
      · obtain ⟨v', h1, h2⟩ := fieldY_sound (P := P) hT hS hR (hev x (by simp [Op.operands]) _ hx) h
        exact ⟨v', fun w _ => .inl (by simp [execOp, h1 w]), h2⟩
      · cases h
    · cases h
  case load t x =>
    split at h
    · rename_i a hx
      split at h
      · obtain ⟨v', h1, h2⟩ := loadY_sound (P := P) hT hS hR (hev x (by simp [Op.operands]) _ hx) h
        exact ⟨v', fun w hw => .inl (by simp [execOp, h1 w (hW.trans (hw.mono hW.size))]), h2⟩
      · cases h
    · cases h
  case call c =>
    split at h
    · rename_i f hf
      split at h
      · rename_i fv vs h1 h2
        have hfv := hev f (by simp [Op.operands, Call.operands, hf]) fv h1
        have hvs := oevL_sound (fun x hx => hev x (by simp only [Op.operands, Call.operands, Array.mem_append]; exact .inr (Array.mem_toList_iff.1 hx))) h2
        exact callY_sound hT hB hW hR hfn (o := ⟨dst, .call c, ty, pos, after, guard⟩) rfl hf hfv hvs h
      · cases h
    · rename_i hb
      split at h
      · rename_i t ts x xs hts hx
        split at h
        · have hl := oevL_sound (fun x hx => hev x (by simp only [Op.operands, Call.operands, Array.mem_append]; exact .inr (Array.mem_toList_iff.1 hx))) hx
          obtain ⟨⟨ts0⟩, hts0⟩ : ∃ ts, c.argTypes = ts := ⟨_, rfl⟩
          rw [hts0] at hts
          simp only at hts
          subst hts
          have e1 : c.args.map ρ = ⟨c.args.toList.map ρ⟩ := by apply Array.ext'; simp
          generalize hz : c.args.toList.map ρ = vs' at hl
          cases hl with
          | cons hv hr =>
            obtain ⟨v', h1, h2⟩ := lenY_sound (P := P) hT hS hR (ty := ty) (ts := ts) hv h
            refine ⟨v', fun w _ => .inl ?_, h2⟩
            rw [exec_builtin _ _ c .len hb rfl, e1, hz, hts0]
            have := h1 w
            simp only [builtin, Sem.run_bind]
            rw [this]; rfl
        · cases h
      · cases h
    · cases h
end
end
end Go.Am
