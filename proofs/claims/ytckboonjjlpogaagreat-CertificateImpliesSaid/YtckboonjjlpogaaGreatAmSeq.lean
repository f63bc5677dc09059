/- States of the abstract machine; calls; regions that are carried out in the text's order. -/
import Derived.Test.YtckboonjjlpogaaGreatAmStep
set_option linter.unusedVariables false
set_option linter.unusedSimpArgs false
namespace Go.Am
noncomputable section
variable [SemC]

inductive AX where
  | normal
  | exit (id : Nat)
  | ret

structure St where
  tm : Tr Value
  sz : Nat
  df : List Nat
  h : AH

structure Ev where
  c : Code → Bool → St → Option (List (AX × St))
  f : Value → List Value → AH → Option (List (Value × AH))

def FR (ro : Option Nat) : Fence := { Fence.wide with round := ro }

inductive DR (θ : Th) : List Nat → List Deferred → Prop
  | nil : DR θ [] []
  | cons {r : Nat} {p : Pl} {rs : List Nat} {ds : List Deferred} : θ r = some p → DR θ rs ds → DR θ (r :: rs) ({ target := .collected p.cb, args := #[] } :: ds)
omit [SemC] in
theorem DR.mono {θ θ' : Th} (h : Ext θ θ') : ∀ {rs : List Nat} {ds : List Deferred}, DR θ rs ds → DR θ' rs ds
  | _, _, .nil => .nil
  | _, _, .cons a b => .cons (h _ _ a) (DR.mono h b)

structure RS (θ : Th) (st : St) (a : Act) (w : World) : Prop where
  tm : TR θ st.tm a.tmps
  sz : a.tmps.size = st.sz
  df : DR θ st.df a.defers
  h : RH θ st.h w

def AXR : AX → Exit → Prop
  | .normal, .normal => True
  | .exit i, .exit j => i = j
  | .ret, .ret => True
  | _, _ => False

/-- What a piece of code comes to. -/
def CP (θ : Th) (H : AH) (w : World) (outs : List (AX × St)) (e : Exit) (a' : Act) (w' : World) : Prop :=
  ∃ x st' θ', (x, st') ∈ outs ∧ AXR x e ∧ RS θ' st' a' w' ∧ Fr θ H w θ' st'.h w'

/-- What a call comes to. -/
def FP (θ : Th) (H : AH) (w : World) (outs : List (Value × AH)) (v' : Value) (w' : World) : Prop :=
  ∃ v H' θ', (v, H') ∈ outs ∧ VR θ' v v' ∧ RH θ' H' w' ∧ Fr θ H w θ' H' w'

def NextOK (P : Program) (w : World) (R : Value → World → Prop) : Next → Prop
  | .enter f args => CallsIn (FR none) 0 P f args w fun e w' => ∃ v', e = .returned v' ∧ R v' w'
  | .round l f tmps assign body => RoundIn (FR none) 0 P l f tmps assign body w fun e w' => ∃ v', e = .returned v' ∧ R v' w'
  | _ => False

def CallOK (P : Program) (fv : Value) (args : Array Value) (w : World) (R : Value → World → Prop) : Prop :=
  ∃ nx w₁, (do let d ← Deferred.ofValue fv args; invoke d.target d.args : Sem Next).run P w = .ok nx w₁ ∧ NextOK P w₁ R nx ∧ (∀ f fs cs, fv = .func (.func f) fs cs → ∃ f' a', nx = .enter f' a')

structure EvOK (P : Program) (E : Ev) : Prop where
  c : ∀ c inr st outs, E.c c inr st = some outs → ∀ θ a w ro, (inr = false → ro = none) → RS θ st a w → c.wpIn (FR ro) 0 P (CP θ st.h w outs) a w
  f : ∀ fv args H outs, E.f fv args H = some outs → ∀ θ w fv' args', VR θ fv fv' → LR θ args args' → RH θ H w → CallOK P fv' ⟨args'⟩ w (FP θ H w outs)

/-! ### Lists of ways -/
def bndL {α β : Type} (f : α → Option (List β)) : List α → Option (List β)
  | [] => some []
  | [x] => f x
  | x :: y :: r => match f x with
    | none => none
    | some l => match bndL f (y :: r) with
      | none => none
      | some m => some (l ++ m)
def bnd {α β : Type} (x : Option (List α)) (f : α → Option (List β)) : Option (List β) :=
  match x with
  | none => none
  | some l => bndL f l
omit [SemC] in
theorem bndL_mem {α β : Type} {f : α → Option (List β)} : ∀ {l : List α} {r : List β}, bndL f l = some r → ∀ x ∈ l, ∃ m, f x = some m ∧ ∀ y ∈ m, y ∈ r
  | [], _, _, x, hx => by simp at hx
  | [z], r, h, x, hx => by
    simp only [List.mem_singleton] at hx; subst hx
    exact ⟨r, h, fun _ h => h⟩
  | z :: y :: l, r, h, x, hx => by
    simp only [bndL] at h
    split at h
    · cases h
    · rename_i m hm
      split at h
      · cases h
      · rename_i m' hm'
        cases h
        rcases List.mem_cons.1 hx with rfl | hx
        · exact ⟨m, hm, fun y hy => List.mem_append.2 (.inl hy)⟩
        · obtain ⟨k, h1, h2⟩ := bndL_mem hm' x hx
          exact ⟨k, h1, fun y hy => List.mem_append.2 (.inr (h2 y hy))⟩
omit [SemC] in
theorem bnd_mem {α β : Type} {x : Option (List α)} {f : α → Option (List β)} {r : List β} (h : bnd x f = some r) : ∃ l, x = some l ∧ ∀ z ∈ l, ∃ m, f z = some m ∧ ∀ y ∈ m, y ∈ r := by
  unfold bnd at h
  split at h
  · cases h
  · exact ⟨_, rfl, bndL_mem h⟩

/-! ### Temporaries -/
def putS (tm : Tr Value) (sz : Nat) (dst : Option Tmp) (v : Value) : Option (Tr Value) :=
  match dst with
  | none => some tm
  | some d => match Nat.blt d sz, Nat.blt d Tr.lim with
    | true, true => some (tm.set d (some v))
    | _, _ => none
def putT (tm : Tr Value) (sz : Nat) (dst : Option Tmp) (v : Value) : Option (Tr Value) :=
  Option.rec (motive := fun _ => Option (Tr Value)) (some tm)
    (fun d => Bool.rec (motive := fun _ => Option (Tr Value)) none (Bool.rec (motive := fun _ => Option (Tr Value)) none (some (tm.set d (some v))) (Nat.ble (Nat.succ d) (nat_lit 1000000000))) (Nat.ble (Nat.succ d) sz)) dst
omit [SemC] in
theorem putT_def (tm : Tr Value) (sz : Nat) (dst : Option Tmp) (v : Value) : putT tm sz dst v = match dst with
  | none => some tm
  | some d => match Nat.blt d sz, Nat.blt d Tr.lim with
    | true, true => some (tm.set d (some v))
    | _, _ => none := by
  cases dst with
  | none => rfl
  | some d =>
    show Bool.rec (motive := fun _ => Option (Tr Value)) none (Bool.rec (motive := fun _ => Option (Tr Value)) none (some (tm.set d (some v))) (Nat.blt d Tr.lim)) (Nat.blt d sz) = _
    simp only
    cases Nat.blt d sz <;> cases Nat.blt d Tr.lim <;> rfl

theorem TR.put {θ : Th} {tm tm' : Tr Value} {a : Act} {sz : Nat} (ht : TR θ tm a.tmps) (hs : a.tmps.size = sz) {dst : Option Tmp} {v v' : Value} (hv : VR θ v v') (h : putT tm sz dst v = some tm') :
    TR θ tm' (a.put dst v').tmps ∧ (a.put dst v').tmps.size = sz ∧ (a.put dst v').defers = a.defers := by
  rw [putT_def] at h
  split at h
  · cases h; exact ⟨ht, hs, rfl⟩
  · rename_i d
    split at h
    · rename_i h1 h2
      have h1' := blt_spec h1
      have h2' := blt_spec h2
      cases h
      refine ⟨?_, by simp [Act.put, hs], rfl⟩
      intro t x hx
      rw [Tr.get_set _ _ _ _ h2'] at hx
      simp only [Act.put]
      by_cases e : t = d
      · subst e
        rw [if_pos rfl] at hx; cases hx
        have : t < a.tmps.size := by omega
        simp [Array.getD, this]; exact hv
      · rw [if_neg e] at hx
        have := ht t x hx
        have e2 : (a.tmps.setIfInBounds d v').getD t undef = a.tmps.getD t undef := by
          simp only [Array.getD_eq_getD_getElem?]
          rw [Array.getElem?_setIfInBounds_ne (Ne.symm e)]
        rw [e2]; exact this
    · cases h

theorem RS.put {θ : Th} {st : St} {a : Act} {w : World} (h : RS θ st a w) {dst : Option Tmp} {v v' : Value} {tm' : Tr Value} (hv : VR θ v v') (hp : putT st.tm st.sz dst v = some tm') :
    RS θ { st with tm := tm' } (a.put dst v') w := by
  obtain ⟨h1, h2, h3⟩ := h.tm.put h.sz hv hp
  exact ⟨h1, h2, by rw [h3]; exact h.df, h.h⟩

/-- The state in a later world. -/
theorem RS.later {θ θ' : Th} {st : St} {a : Act} {w w' : World} {H' : AH} (h : RS θ st a w) (hR : RH θ' H' w') (hF : Fr θ st.h w θ' H' w') : RS θ' { st with h := H' } a w' := by
  have hE := hF.ext h.h.fresh
  exact ⟨h.tm.mono hE, h.sz, h.df.mono hE, hR⟩

/-! ### Guards -/
def wantG (ops : Array Oper) (tm : Tr Value) (j : Nat) (want : Bool) : Option Bool :=
  match ops[j]? with
  | some oj => match oj.dst with
    | some d => match tm.get d with
      | some (.bool b) => some (b == want)
      | some (.tuple _) => some false
      | _ => none
    | none => none
  | none => none
def wantA (ops : Array Oper) (tm : Tr Value) (o : Oper) : Option Bool :=
  Option.rec (motive := fun _ => Option Bool) (some true) (fun p => wantG ops tm p.1 p.2) o.guard
omit [SemC] in
theorem wantA_def (ops : Array Oper) (tm : Tr Value) (o : Oper) : wantA ops tm o = match o.guard with
  | none => some true
  | some (j, want) => match ops[j]? with
    | some oj => match oj.dst with
      | some d => match tm.get d with
        | some (.bool b) => some (b == want)
        | some (.tuple _) => some false
        | _ => none
      | none => none
    | none => none := by
  unfold wantA
  cases o.guard with
  | none => rfl
  | some p => rfl

def guardT (ops : Array Oper) (o : Oper) : Option Tmp :=
  match o.guard with
  | none => none
  | some (j, _) => match ops[j]? with
    | some oj => oj.dst
    | none => none

theorem wantA_sound' {θ : Th} {ops : Array Oper} {tm : Tr Value} {a : Act} {o : Oper} (ht : ∀ t v, guardT ops o = some t → tm.get t = some v → VR θ v (a.tmps.getD t undef)) {b : Bool} (h : wantA ops tm o = some b) : Region.wanted o (yielded ops a.tmps) = b := by
  rw [wantA_def] at h
  unfold Region.wanted
  split at h
  · rename_i hg; cases h; rw [hg]
  · rename_i j want hg
    rw [hg]
    split at h
    · rename_i oj hj
      split at h
      · rename_i d hd
        split at h
        · rename_i x hx
          cases h
          have := ht d _ (by simp [guardT, hg, hj, hd]) hx
          have hget : a.tmps[d]? = some (.bool x) := by
            generalize hz : a.tmps.getD d undef = z at this
            cases this
            rw [Array.getD_eq_getD_getElem?] at hz
            cases hc : a.tmps[d]? with
            | none => rw [hc] at hz; simp [undef] at hz
            | some y => rw [hc] at hz; simp at hz; rw [hz]
          simp only [yielded, hj, Option.bind_some, hd, hget]
          cases x <;> cases want <;> rfl
        · rename_i vs hx
          cases h
          have := ht d _ (by simp [guardT, hg, hj, hd]) hx
          have hget : ∀ y, a.tmps[d]? = some y → ∃ q, y = .tuple q := by
            intro y hc
            rw [Array.getD_eq_getD_getElem?, hc] at this
            simp only [Option.getD_some] at this
            cases this; exact ⟨_, rfl⟩
          simp only [yielded, hj, Option.bind_some, hd]
          cases hc : a.tmps[d]? with
          | none => rfl
          | some y => obtain ⟨q, rfl⟩ := hget y hc; rfl
        · cases h
      · cases h
    · cases h

theorem wantA_sound {θ : Th} {ops : Array Oper} {tm : Tr Value} {a : Act} (ht : TR θ tm a.tmps) {o : Oper} {b : Bool} (h : wantA ops tm o = some b) : Region.wanted o (yielded ops a.tmps) = b :=
  wantA_sound' (fun t v _ hv => ht t v hv) h

/-! ### One operation that writes or calls -/
def opE (T : Tbl) (E : Ev) (ev : Operand → Option Value) (H : AH) (op : Op) : Option (List (Value × AH)) :=
  match op with
  | .call c => match c.callee with
    | .value f => match ev f, oevL ev c.args.toList with
      | some fv, some vs => E.f fv vs H
      | _, _ => none
    | _ => eev T ev H op
  | op => eev T ev H op

def isC (c : Call) : Bool :=
  match c.callee with
  | .value _ => true
  | .builtin .append => true
  | .builtin .copy => true
  | _ => false
def isE (o : Op) : Bool :=
  Op.rec (motive := fun _ => Bool) (fun _ => false) (fun _ => false) (fun _ _ _ => false) (fun _ => false) (fun _ _ => false)
    (fun _ _ => false) (fun _ _ _ => false)
    (fun _ _ _ _ => true) (fun _ _ => false) (fun _ _ _ => true) (fun _ => false) (fun _ => false)
    (fun _ => false)
    (fun _ _ _ _ _ => false)
    (fun _ _ _ => false) (fun _ _ _ => false) (fun _ _ => false) (fun _ _ => false)
    (fun _ _ _ => false) (fun _ _ => false) (fun _ _ => false) (fun _ _ _ => false) (fun _ _ _ _ _ => false)
    (fun _ _ _ => false) (fun _ _ _ => false)
    (fun _ _ _ => false) (fun _ _ _ => false)
    (fun _ _ _ _ => false) (fun _ _ _ _ => true) (fun _ _ _ => false) (fun _ _ _ _ => false)
    (fun _ _ => false) (fun _ _ => true) (fun _ => false) (fun _ _ _ _ => false)
    (fun _ _ => false) isC (fun _ => false) (fun _ => false) (fun _ => false) (fun _ _ => false) (fun _ _ _ => false) (fun _ _ => false) o

omit [SemC] in
theorem no_defer_eev {T : Tbl} {ev : Operand → Option Value} {H : AH} {op : Op} {r : List (Value × AH)} (h : eev T ev H op = some r) : ∀ c, op ≠ .defer c := by
  intro c e; subst e; simp [eev] at h
omit [SemC] in
theorem no_defer_pev {T : Tbl} {ev : Operand → Option Value} {hp : Tr AO} {op : Op} {r : PR} (h : pev T ev hp op = some r) : ∀ c, op ≠ .defer c := by
  intro c e; subst e; rw [pev_eq] at h; simp [pevS] at h

omit [SemC] in
theorem wp_of_run {P : Program} {ro : Option Nat} {o : Oper} {a : Act} {w : World} {next : Act → World → Prop} {Q : Exit → Act → World → Prop} (hd : ∀ c, o.op ≠ .defer c)
    (h : o.uponIn (FR ro) 0 P a next Q ((execOp a.eval o).run P w)) : o.wpIn (FR ro) 0 P a w next Q := by
  refine ⟨fun _ _ => trivial, ?_⟩
  rw [Oper.semAt_eq _ _ _ hd]
  exact h

theorem opE_sound {P : Program} {T : Tbl} (hT : TblOK P T) {E : Ev} (hE : EvOK P E) {θ : Th} {ev : Operand → Option Value} {H : AH} {a : Act} {w : World} {o : Oper} {outs : List (Value × AH)}
    (hev : ∀ x ∈ o.op.operands, ∀ v, ev x = some v → VR θ v (a.eval x)) (hR : RH θ H w) (h : opE T E ev H o.op = some outs) (ro : Option Nat) (next : Act → World → Prop) (Q : Exit → Act → World → Prop)
    (hn : ∀ v' w', FP θ H w outs v' w' → next (a.put o.dst v') w') : o.wpIn (FR ro) 0 P a w next Q := by
  have eevc : ∀ r, eev T ev H o.op = some r → r = outs → o.wpIn (FR ro) 0 P a w next Q := by
    intro r hr he
    subst he
    obtain ⟨v, H', v', w', θ', nx, h1, h2, h3, h4, h5, h6⟩ := eev_sound hT hev hR hr
    refine wp_of_run (no_defer_eev hr) ?_
    rw [h2]
    have := hn v' w' ⟨v, H', θ', h1, h4, h5, h6⟩
    cases nx <;> simp only [gives] at h3
    · subst h3; exact this
    · subst h3; exact this
  unfold opE at h
  split at h
  · rename_i c hc
    split at h
    · rename_i f hf
      split at h
      · rename_i fv vs h1 h2
        have hfv := hev f (by rw [hc]; simp [Op.operands, Call.operands, hf]) fv h1
        have hvs := oevL_sound (fun x hx => hev x (by rw [hc]; simp only [Op.operands, Call.operands, Array.mem_append]; exact .inr (Array.mem_toList_iff.1 hx))) h2
        obtain ⟨nx, w₁, hrun, hok, _⟩ := hE.f fv vs H outs h θ w _ _ hfv hvs hR
        refine wp_of_run (by intro c' e; rw [hc] at e; cases e) ?_
        have e1 : c.args.map a.eval = ⟨c.args.toList.map a.eval⟩ := by apply Array.ext'; simp
        have hex : (execOp a.eval o).run P w = .ok nx w₁ := by
          rw [← hrun]
          simp only [execOp, hc, resolve, hf, e1]
        rw [hex]
        cases nx <;> simp only [NextOK] at hok
        · refine ⟨fun h => by simp [FR, Fence.wide] at h, ?_⟩
          refine CallsIn.mono (F := FR ro) hok ?_
          rintro e w' ⟨v', rfl, hv⟩
          exact hn v' w' hv
        · refine ⟨fun h => by simp [FR, Fence.wide] at h, ?_⟩
          refine RoundIn.mono (F := FR ro) hok ?_
          rintro e w' ⟨v', rfl, hv⟩
          exact hn v' w' hv
      · cases h
    · exact eevc _ h rfl
  · exact eevc _ h rfl

/-! ### A region in the text's order -/
def evOpsS (T : Tbl) (E : Ev) (ops : Array Oper) (sz : Nat) (df : List Nat) : List Oper → Tr Value → AH → Option (List (AX × St))
  | [], tm, h => some [(.normal, ⟨tm, sz, df, h⟩)]
  | o :: rest, tm, h => match wantA ops tm o with
    | none => none
    | some false => match putT tm sz o.dst undef with
      | some tm' => evOpsS T E ops sz df rest tm' h
      | none => none
    | some true => match isE o.op with
      | true => bnd (opE T E (oev tm) h o.op) fun r => match putT tm sz o.dst r.1 with
        | some tm' => evOpsS T E ops sz df rest tm' r.2
        | none => none
      | false => match pev T (oev tm) h.hp o.op with
        | some (.v v) => match putT tm sz o.dst v with
          | some tm' => evOpsS T E ops sz df rest tm' h
          | none => none
        | some (.new ao mk) => match Nat.blt h.nx Tr.lim, putT tm sz o.dst (mk h.nx) with
          | true, some tm' => evOpsS T E ops sz df rest tm' ⟨h.hp.set h.nx (some ao), Nat.succ h.nx⟩
          | _, _ => none
        | none => none
def evOps (T : Tbl) (E : Ev) (ops : Array Oper) (sz : Nat) (df : List Nat) (l : List Oper) : Tr Value → AH → Option (List (AX × St)) :=
  List.rec (motive := fun _ => Tr Value → AH → Option (List (AX × St))) (fun tm h => some [(.normal, ⟨tm, sz, df, h⟩)])
    (fun o _ ih tm h => Option.rec (motive := fun _ => Option (List (AX × St))) none
      (fun b => Bool.rec (motive := fun _ => Option (List (AX × St))) (ob (putT tm sz o.dst undef) fun tm' => ih tm' h)
        (Bool.rec (motive := fun _ => Option (List (AX × St)))
          (Option.rec (motive := fun _ => Option (List (AX × St))) none
            (fun r => PR.rec (motive := fun _ => Option (List (AX × St))) (fun v => ob (putT tm sz o.dst v) fun tm' => ih tm' h)
              (fun ao mk => Bool.rec (motive := fun _ => Option (List (AX × St))) none (ob (putT tm sz o.dst (mk h.nx)) fun tm' => ih tm' ⟨h.hp.set h.nx (some ao), Nat.succ h.nx⟩) (Nat.blt h.nx Tr.lim)) r)
            (pev T (oev tm) h.hp o.op))
          (bnd (opE T E (oev tm) h o.op) fun r => ob (putT tm sz o.dst r.1) fun tm' => ih tm' r.2) (isE o.op)) b)
      (wantA ops tm o)) l
omit [SemC] in
theorem evOps_eq (T : Tbl) (E : Ev) (ops : Array Oper) (sz : Nat) (df : List Nat) : ∀ (l : List Oper) (tm : Tr Value) (h : AH), evOps T E ops sz df l tm h = evOpsS T E ops sz df l tm h
  | [], tm, h => rfl
  | o :: rest, tm, h => by
    have ih := evOps_eq T E ops sz df rest
    show Option.rec (motive := fun _ => Option (List (AX × St))) none
      (fun b => Bool.rec (motive := fun _ => Option (List (AX × St))) (ob (putT tm sz o.dst undef) fun tm' => evOps T E ops sz df rest tm' h)
        (Bool.rec (motive := fun _ => Option (List (AX × St)))
          (Option.rec (motive := fun _ => Option (List (AX × St))) none
            (fun r => PR.rec (motive := fun _ => Option (List (AX × St))) (fun v => ob (putT tm sz o.dst v) fun tm' => evOps T E ops sz df rest tm' h)
              (fun ao mk => Bool.rec (motive := fun _ => Option (List (AX × St))) none (ob (putT tm sz o.dst (mk h.nx)) fun tm' => evOps T E ops sz df rest tm' ⟨h.hp.set h.nx (some ao), Nat.succ h.nx⟩) (Nat.blt h.nx Tr.lim)) r)
            (pev T (oev tm) h.hp o.op))
          (bnd (opE T E (oev tm) h o.op) fun r => ob (putT tm sz o.dst r.1) fun tm' => evOps T E ops sz df rest tm' r.2) (isE o.op)) b)
      (wantA ops tm o) = _
    simp only [ih]
    rw [evOpsS]
    cases wantA ops tm o with
    | none => rfl
    | some b =>
      cases b with
      | false =>
        show (ob (putT tm sz o.dst undef) fun tm' => evOpsS T E ops sz df rest tm' h) = _
        cases putT tm sz o.dst undef <;> rfl
      | true =>
        simp only
        cases isE o.op with
        | true =>
          show (bnd (opE T E (oev tm) h o.op) fun r => ob (putT tm sz o.dst r.1) fun tm' => evOpsS T E ops sz df rest tm' r.2) = _
          simp only
          congr 1
          funext r
          cases putT tm sz o.dst r.1 <;> rfl
        | false =>
          simp only
          cases pev T (oev tm) h.hp o.op with
          | none => rfl
          | some r =>
            cases r with
            | v v =>
              show (ob (putT tm sz o.dst v) fun tm' => evOpsS T E ops sz df rest tm' h) = _
              simp only
              cases putT tm sz o.dst v <;> rfl
            | new ao mk =>
              show Bool.rec (motive := fun _ => Option (List (AX × St))) none (ob (putT tm sz o.dst (mk h.nx)) fun tm' => evOpsS T E ops sz df rest tm' ⟨h.hp.set h.nx (some ao), Nat.succ h.nx⟩) (Nat.blt h.nx Tr.lim) = _
              simp only
              cases Nat.blt h.nx Tr.lim <;> cases putT tm sz o.dst (mk h.nx) <;> rfl

/-- A new object under the next number. -/
theorem alloc_ok {θ : Th} {H : AH} {w : World} (hR : RH θ H w) (hlim : H.nx < Tr.lim) {ao : AO} {x : Obj} {p : Pl} (h1 : p.cb = w.heap.size) (ho : ∀ θ', Ext θ θ' → θ' H.nx = some p → ORel θ' (w.heap.push x) p ao) :
    RH (upd θ H.nx p) ⟨H.hp.set H.nx (some ao), H.nx + 1⟩ (w.alloc x) ∧ Fr θ H w (upd θ H.nx p) ⟨H.hp.set H.nx (some ao), H.nx + 1⟩ (w.alloc x) := by
  have hn : θ H.nx = none := hR.fresh _ (Nat.le_refl _)
  refine ⟨⟨RO.alloc ⟨hR.obj, hR.inj⟩ hlim hn h1 (ho _ (Ext.upd p hn) (upd_same _ _ _)), ?_⟩, ?_⟩
  · intro b hb
    simp only at hb
    rw [upd_ne _ _ _ (by omega)]
    exact hR.fresh b (by omega)
  · refine ⟨by show w.heap.size ≤ (w.heap.push _).size; simp, rfl, rfl, rfl, ?_, ?_, ?_, Nat.le_succ _⟩
    · intro k hk _
      exact RowKit.Below.heap_alloc w _ k hk
    · intro k hk ho
      obtain ⟨b, o, q, g1, g0, g2, g3⟩ := ho
      rw [Tr.get_set _ _ _ _ hlim] at g1
      by_cases c : b = H.nx
      · subst c
        rw [upd_same] at g2; cases g2
        omega
      · rw [if_neg c] at g1
        rw [upd_ne _ _ _ c] at g2
        exact ⟨b, o, q, g1, g0, g2, g3⟩
    · intro b hb
      exact upd_ne _ _ _ (by omega)

theorem evOps_sound {P : Program} {T : Tbl} (hT : TblOK P T) {E : Ev} (hE : EvOK P E) (ops : Array Oper) (ro : Option Nat) (Q : Exit → Act → World → Prop) :
    ∀ (l : List Oper) (k : Nat) (st : St) (outs : List (AX × St)) (θ : Th) (a : Act) (w : World), (∀ j, l[j]? = ops[k + j]?) → evOps T E ops st.sz st.df l st.tm st.h = some outs → RS θ st a w →
      (∀ st' θ' a' w', (AX.normal, st') ∈ outs → RS θ' st' a' w' → Fr θ st.h w θ' st'.h w' → Q .normal a' w') →
      wpOpsIn (FR ro) 0 P ops Q (List.range' k l.length) a w
  | [], k, st, outs, θ, a, w, _, h, hS, hQ => by
    simp only [evOps_eq, evOpsS, Option.some.injEq] at h
    subst h
    exact hQ st θ a w (by simp) hS (Fr.refl _ _ _)
  | o :: rest, k, st, outs, θ, a, w, hl, h, hS, hQ => by
    have ho : ops[k]? = some o := by have := hl 0; simpa using this.symm
    have hl' : ∀ j, rest[j]? = ops[k + 1 + j]? := fun j => by have := hl (j + 1); rw [show k + 1 + j = k + (j + 1) by omega]; simpa using this
    simp only [List.length_cons, List.range'_succ, wpOpsIn, ho]
    rw [evOps_eq] at h
    simp only [evOpsS, ← evOps_eq] at h
    split at h
    · cases h
    · rename_i hw
      rw [wantA_sound hS.tm hw]
      simp only [Bool.false_eq_true, if_false]
      refine ⟨fun _ _ => trivial, ?_⟩
      split at h
      · rename_i tm' hp
        exact evOps_sound hT hE ops ro Q rest (k + 1) ⟨tm', st.sz, st.df, st.h⟩ outs θ _ w hl' h (hS.put (.tuple .nil) hp) hQ
      · cases h
    · rename_i hw
      rw [wantA_sound hS.tm hw]
      simp only [if_true]
      split at h
      · obtain ⟨outsE, hoE, hmem⟩ := bnd_mem h
        refine opE_sound hT hE (fun x _ v hv => oev_sound hS.tm hv) hS.h hoE ro _ _ ?_
        rintro v' w' ⟨v, H', θ', hin, hv, hR, hF⟩
        obtain ⟨m, hm, hsub⟩ := hmem _ hin
        simp only at hm
        split at hm
        · rename_i tm' hp
          have hS2 : RS θ' ⟨st.tm, st.sz, st.df, H'⟩ a w' := hS.later hR hF
          exact evOps_sound hT hE ops ro Q rest (k + 1) ⟨tm', st.sz, st.df, H'⟩ m θ' _ w' hl' hm (hS2.put (st := ⟨st.tm, st.sz, st.df, H'⟩) hv hp)
            (fun st' θ2 a' w2 h1 h2 h3 => hQ st' θ2 a' w2 (hsub _ h1) h2 (hF.trans h3))
        · cases hm
      · split at h
        · rename_i v hv
          obtain ⟨v', h1, h2⟩ := pev_sound (P := P) (o := o) (ρ := a.eval) hT (fun x _ v hv => oev_sound hS.tm hv) ⟨hS.h.obj, hS.h.inj⟩ hv
          refine wp_of_run (no_defer_pev hv) ?_
          rw [h1]
          split at h
          · rename_i tm' hp
            exact evOps_sound hT hE ops ro Q rest (k + 1) ⟨tm', st.sz, st.df, st.h⟩ outs θ _ w hl' h (hS.put h2 hp) hQ
          · cases h
        · rename_i ao mk hv
          obtain ⟨x, p, u, h1, h2, h3, h4⟩ := pev_sound (P := P) (o := o) (ρ := a.eval) hT (fun x _ v hv => oev_sound hS.tm hv) ⟨hS.h.obj, hS.h.inj⟩ hv
          refine wp_of_run (no_defer_pev hv) ?_
          rw [h3]
          split at h
          · rename_i tm' hlim hp
            have hlim' := blt_spec hlim
            obtain ⟨hR, hF⟩ := alloc_ok (ao := ao) hS.h hlim' h1 (fun θ' hE hb => (h4 _ θ' hE hb).2)
            have hS2 : RS (upd θ st.h.nx p) ⟨st.tm, st.sz, st.df, ⟨st.h.hp.set st.h.nx (some ao), st.h.nx + 1⟩⟩ a (w.alloc x) := hS.later hR hF
            have hvr := (h4 st.h.nx _ (hF.ext hS.h.fresh) (upd_same _ _ _)).1
            exact evOps_sound hT hE ops ro Q rest (k + 1) ⟨tm', st.sz, st.df, ⟨st.h.hp.set st.h.nx (some ao), st.h.nx + 1⟩⟩ outs _ _ _ hl' h (hS2.put (st := ⟨st.tm, st.sz, st.df, ⟨st.h.hp.set st.h.nx (some ao), st.h.nx + 1⟩⟩) hvr hp)
              (fun st' θ2 a' w2 q1 q2 q3 => hQ st' θ2 a' w2 q1 q2 (hF.trans q3))
          · cases h
        · cases h
end
end Go.Am
