/- One operation of the abstract machine, and its soundness. -/
import Derived.Test.YtckboonjjlpogaaGreatAmOps6
set_option linter.unusedVariables false
set_option linter.unusedSimpArgs false
namespace Go.Am
noncomputable section
variable [SemC]

/-! ### Operands -/
def oev (tm : Tr Value) (x : Operand) : Option Value :=
  Operand.rec (motive := fun _ => Option Value) (fun t => tm.get t) (fun v => Bool.rec (motive := fun _ => Option Value) none (some v) (cst v)) (fun _ => none) (fun f => some (.func (.func f) #[] #[])) x
omit [SemC] in
theorem oev_def (tm : Tr Value) (x : Operand) : oev tm x = match x with
  | .tmp t => tm.get t
  | .const v => match cst v with
    | true => some v
    | false => none
  | .func f => some (.func (.func f) #[] #[])
  | .global _ => none := by
  cases x with
  | const v =>
    show Bool.rec (motive := fun _ => Option Value) none (some v) (cst v) = _
    simp only
    cases cst v <;> rfl
  | _ => rfl

theorem oev_sound {θ : Th} {tm : Tr Value} {a : Act} (ha : TR θ tm a.tmps) {x : Operand} {v : Value} (h : oev tm x = some v) : VR θ v (a.eval x) := by
  rw [oev_def] at h
  split at h
  · exact ha _ _ h
  · split at h
    · rename_i hc; cases h; exact VR.of_cst θ _ hc
    · cases h
  · cases h; exact .func .nil .nil
  · cases h

def oevL (ev : Operand → Option Value) : List Operand → Option (List Value)
  | [] => some []
  | x :: xs => match ev x with
    | some v => match oevL ev xs with
      | some vs => some (v :: vs)
      | none => none
    | none => none
theorem oevL_sound {θ : Th} {ev : Operand → Option Value} {ρ : Operand → Value} : ∀ {xs : List Operand} {vs : List Value}, (∀ x ∈ xs, ∀ v, ev x = some v → VR θ v (ρ x)) → oevL ev xs = some vs → LR θ vs (xs.map ρ)
  | [], _, _, h => by simp only [oevL, Option.some.injEq] at h; subst h; exact .nil
  | x :: xs, vs, hev, h => by
    simp only [oevL] at h
    split at h
    · rename_i v hv
      split at h
      · rename_i ws hw
        cases h
        exact .cons (hev x (by simp) v hv) (oevL_sound (fun y hy => hev y (by simp [hy])) hw)
      · cases h
    · cases h
def oevP (ev : Operand → Option Value) : List (Nat × Operand) → Option (List (Nat × Value))
  | [] => some []
  | (i, x) :: xs => match ev x with
    | some v => match oevP ev xs with
      | some vs => some ((i, v) :: vs)
      | none => none
    | none => none
theorem oevP_sound {θ : Th} {ev : Operand → Option Value} {ρ : Operand → Value} : ∀ {xs : List (Nat × Operand)} {vs : List (Nat × Value)}, (∀ x ∈ xs, ∀ v, ev x.2 = some v → VR θ v (ρ x.2)) → oevP ev xs = some vs → PL θ vs (xs.map fun (i, x) => (i, ρ x))
  | [], _, _, h => by simp only [oevP, Option.some.injEq] at h; subst h; exact .nil
  | (i, x) :: xs, vs, hev, h => by
    simp only [oevP] at h
    split at h
    · rename_i v hv
      split at h
      · rename_i ws hw
        cases h
        exact .cons (hev (i, x) (by simp) v hv) (oevP_sound (fun y hy => hev y (by simp [hy])) hw)
      · cases h
    · cases h
def oevO (ev : Operand → Option Value) : Option Operand → Option (Option Value)
  | none => some none
  | some x => match ev x with
    | some v => some (some v)
    | none => none
theorem oevO_sound {θ : Th} {ev : Operand → Option Value} {ρ : Operand → Value} {x : Option Operand} {v : Option Value} (hev : ∀ y, x = some y → ∀ v, ev y = some v → VR θ v (ρ y)) (h : oevO ev x = some v) : OR' θ v (x.map ρ) := by
  unfold oevO at h
  split at h
  · cases h; trivial
  · split at h
    · rename_i hv; cases h; exact hev _ rfl _ hv
    · cases h

/-! ### Operations that do not write -/
def mapV : Option Value → Option PR
  | some v => some (.v v)
  | none => none

def sortI (hp : Tr AO) : Value → Option IntKind
  | .int k _ => some k
  | .chan (some n) => match hp.get n with
    | some (.sym _ _ (.int k)) => some k
    | _ => none
  | .func (.method _) ⟨.int k _ :: _⟩ _ => match hp with
    | .lf => none
    | .nd _ _ _ => some k
  | _ => none
theorem RO.symAt {θ : Th} {hp : Tr AO} {heap : Array Obj} (h : RO θ hp heap) {n tag : Nat} {args : List Value} {kd : SK} (hg : hp.get n = some (.sym tag args kd)) {v' : Value} (hv : VR θ (.chan (some n)) v') :
    kd.ok v' ∧ v'.oneCell' = true ∧ (tag = 9 ∨ ∃ args', LR θ args args' ∧ v' = SemC.semf tag args') := by
  obtain ⟨p, hp', hr⟩ := h.obj _ _ hg
  cases hv with
  | sym e _ => rw [hp'] at e; cases e; exact hr
theorem sortI_sound {θ : Th} {hp : Tr AO} {heap : Array Obj} (hR : RO θ hp heap) {v v' : Value} (hv : VR θ v v') {k : IntKind} (h : sortI hp v = some k) : ∃ n, v' = .int k n := by
  unfold sortI at h
  split at h
  · cases h; cases hv; exact ⟨_, rfl⟩
  · split at h
    · rename_i hg; cases h; exact (hR.symAt hg hv).1
    · cases h
  · split at h
    · cases h
    · cases h; cases hv; exact ⟨_, rfl⟩
  · cases h
def symAr (tag : Nat) (hp : Tr AO) (a b : Value) : Option Value :=
  match sortI hp a, sortI hp b with
  | some k, some j => match decide (k = j) with
    | true => some (apV k tag [a, b])
    | false => none
  | _, _ => none
def pBinS (T : Tbl) (hp : Tr AO) (op : BinOp) (t : TypeId) (a b : Value) : Option Value :=
  match pBin T op t a b with
  | some v => some v
  | none => match op with
    | .add => symAr 2 hp a b
    | .sub => symAr 3 hp a b
    | _ => none
def pConvS (T : Tbl) (hp : Tr AO) (s d : TypeId) (a : Value) : Option Value :=
  match pConv T s d a with
  | some v => some v
  | none => match sortI hp a, T.ty.get s, T.ty.get d with
    | some _, some _, some (_, .int k) => some (apV k (100 + k.ctorIdx) [a])
    | _, _, _ => none
theorem pBinS_sound {P : Program} {T : Tbl} (hT : TblOK P T) {θ : Th} {hp : Tr AO} {heap : Array Obj} (hR : RO θ hp heap) {op : BinOp} {t : TypeId} {x y x' y' v : Value} (hx : VR θ x x') (hy : VR θ y y') (ox oy : Operand) (w : World)
    (h : pBinS T hp op t x y = some v) : ∃ v', (do eqGuard op t ox oy x' y'; binOp op t x' y' : Sem Value).run P w = .ok v' w ∧ VR θ v v' := by
  unfold pBinS at h
  split at h
  · rename_i u hu; cases h; exact pBin_sound hT hx hy ox oy w hu
  · have key : ∀ tag (f : Int → Int → Int), (∀ k a b, SemC.semf tag [.int k a, .int k b] = .int k (k.wrap (f a b))) → (∀ k a b, pBin T op t (.int k a) (.int k b) = some (.int k (wrapF k (f a b)))) → symAr tag hp x y = some v →
        ∃ v', (do eqGuard op t ox oy x' y'; binOp op t x' y' : Sem Value).run P w = .ok v' w ∧ VR θ v v' := by
      intro tag f hf hb hs
      unfold symAr at hs
      split at hs
      · rename_i k j hk hj
        split at hs
        · rename_i he
          cases hs
          have := of_decide_eq_true he
          subst this
          obtain ⟨a, rfl⟩ := sortI_sound hR hx hk
          obtain ⟨b, rfl⟩ := sortI_sound hR hy hj
          obtain ⟨v', h1, h2⟩ := pBin_sound (P := P) hT (VR.int (θ := θ) k a) (VR.int (θ := θ) k b) ox oy w (hb k a b)
          cases h2
          refine ⟨_, h1, .ap (.cons hx (.cons hy .nil)) ?_⟩
          rw [hf, wrapF_eq]
        · cases hs
      · cases hs
    split at h
    · exact key 2 (· + ·) SemC.add (fun k a b => by simp [pBin, pInt]) h
    · exact key 3 (· - ·) SemC.sub (fun k a b => by simp [pBin, pInt]) h
    · cases h
theorem pConvS_sound {P : Program} {T : Tbl} (hT : TblOK P T) {θ : Th} {hp : Tr AO} {heap : Array Obj} (hR : RO θ hp heap) {src dst : TypeId} {x x' v : Value} (hx : VR θ x x') (w : World) (h : pConvS T hp src dst x = some v) :
    ∃ v', (convert src dst x').run P w = .ok v' w ∧ VR θ v v' := by
  unfold pConvS at h
  split at h
  · rename_i u hu; cases h; exact pConv_sound hT hx w hu
  · split at h
    · rename_i k0 is i2 k hk hs hd
      cases h
      obtain ⟨n, rfl⟩ := sortI_sound hR hx hk
      have hp : pConv T src dst (.int k0 n) = some (.int k (wrapF k n)) := by simp [pConv, hs, hd]
      obtain ⟨v', h1, h2⟩ := pConv_sound (P := P) hT (VR.int (θ := θ) k0 n) w hp
      cases h2
      refine ⟨_, h1, .ap (.cons hx .nil) ?_⟩
      rw [SemC.conv, wrapF_eq]
    · cases h

def pBuiltin (T : Tbl) (hp : Tr AO) (b : Builtin) (ts : List TypeId) (args : List Value) : Option PR :=
  match b with
  | .len => match ts, args with
    | t :: _, x :: _ => mapV (pLen T hp t x)
    | _, _ => none
  | .max => match args with
    | .int k a :: r => mapV (pMax r a k)
    | _ => none
  | .min => match args with
    | .int k a :: r => mapV (pMin r a k)
    | _ => none
  | _ => none

def pevS (T : Tbl) (ev : Operand → Option Value) (hp : Tr AO) (o : Op) : Option PR :=
  match o with
  | .move x | .assign x => mapV (ev x)
  | .pick c a b => match ev c with
    | some (.bool true) => mapV (ev a)
    | some (.bool false) => mapV (ev b)
    | _ => none
  | .alloc e => pAlloc T e
  | .box _ x => match ev x with
    | some v => some (pBox v)
    | none => none
  | .build t ps => match oevP ev ps.toList with
    | some vs => mapV (pBuild T t vs)
    | none => none
  | .buildSlice t len ps => match oevP ev ps.toList with
    | some vs => pBuildSlice T t len vs
    | none => none
  | .load t a => match ev a with
    | some v => mapV (pLoad T hp t v)
    | none => none
  | .nilCheck x => match ev x with
    | some v => mapV (pNil v)
    | none => none
  | .binOp op t x y _ => match ev x, ev y with
    | some a, some b => mapV (pBinS T hp op t a b)
    | _, _ => none
  | .unOp op _ x => match ev x with
    | some a => mapV (pUn op a)
    | none => none
  | .convert s d x => match ev x with
    | some a => mapV (pConvS T hp s d a)
    | none => none
  | .makeFunc (.func f) fs cs => match oevL ev fs.toList, oevL ev cs.toList with
    | some a, some b => some (.v (.func (.func f) ⟨a⟩ ⟨b⟩))
    | _, _ => none
  | .makeMap _ none => some (.new (.map [] 0) fun b => .map (some b))
  | .makeSlice t l c => match ev l, ev c with
    | some a, some b => pMakeSlice T t a b
    | _, _ => none
  | .slice t x lo hi mx => match ev x, oevO ev lo, oevO ev hi, oevO ev mx with
    | some a, some l, some h, some m => mapV (pSlice T hp t a l h m)
    | _, _, _, _ => none
  | .fieldAddr s x f => match ev x with
    | some a => mapV (pFieldAddr T s f a)
    | none => none
  | .field s x f => match ev x with
    | some a => mapV (pField T s f a)
    | none => none
  | .indexAddr t x i => match ev x, ev i with
    | some a, some b => mapV (pIndexAddr T t a b)
    | _, _ => none
  | .index t x i => match ev x, ev i with
    | some a, some b => mapV (pIndex T t a b)
    | _, _ => none
  | .lookup t x i ok => match ev x, ev i with
    | some a, some b => mapV (pLookup T hp t a b ok)
    | _, _ => none
  | .range t x => match ev x with
    | some a => pRange T hp t a
    | none => none
  | .entry x => match ev x with
    | some a => mapV (pEntry hp a)
    | none => none
  | .extract x i => match ev x with
    | some a => mapV (pExtract i a)
    | none => none
  | .call c => match c.callee with
    | .builtin b => match oevL ev c.args.toList with
      | some vs => pBuiltin T hp b c.argTypes.toList vs
      | none => none
    | _ => none
  | _ => none

def PRokN (P : Program) (θ : Th) (w : World) (s : Sem Next) : PR → Prop
  | .v v => ∃ v', s.run P w = .ok (.value v') w ∧ VR θ v v'
  | .new ao mk => ∃ (x : Obj) (p : Pl) (u : Value), p.cb = w.heap.size ∧ p.off = 0 ∧ s.run P w = .ok (.value u) (w.alloc x) ∧
      ∀ b θ', Ext θ θ' → θ' b = some p → VR θ' (mk b) u ∧ ORel θ' (w.heap.push x) p ao

theorem PRok.lift {P : Program} {θ : Th} {w : World} {s : Sem Value} {r : PR} (h : PRok P θ w s r) : PRokN P θ w (do pure (.value (← s))) r := by
  cases r with
  | v v => obtain ⟨v', h1, h2⟩ := h; exact ⟨v', by simp [h1], h2⟩
  | new ao mk => obtain ⟨x, p, u, h1, h2, h3, h4⟩ := h; exact ⟨x, p, u, h1, h2, by simp [h3], h4⟩

theorem mapV_lift {P : Program} {θ : Th} {w : World} {s : Sem Value} {x : Option Value} {r : PR} (h : mapV x = some r) (hs : ∀ v, x = some v → ∃ v', s.run P w = .ok v' w ∧ VR θ v v') : PRokN P θ w (do pure (.value (← s))) r := by
  cases x with
  | none => cases h
  | some v => cases h; exact PRok.lift (r := .v v) (hs v rfl)

omit [SemC] in
theorem exec_builtin (ρ : Operand → Value) (o : Oper) (c : Call) (b : Builtin) (hc : c.callee = .builtin b) (ho : o.op = .call c) :
    execOp ρ o = builtin b c.argTypes o.type (c.args.map fun | .const _ => true | _ => false) (c.args.map ρ) := by
  simp only [execOp, ho, resolve, hc]
  rfl

theorem pevS_sound {P : Program} {T : Tbl} (hT : TblOK P T) {θ : Th} {ev : Operand → Option Value} {hp : Tr AO} {ρ : Operand → Value} {w : World} {o : Oper} (hev : ∀ x ∈ o.op.operands, ∀ v, ev x = some v → VR θ v (ρ x)) (hR : RO θ hp w.heap) {r : PR}
    (h : pevS T ev hp o.op = some r) : PRokN P θ w (execOp ρ o) r := by
  obtain ⟨dst, op, ty, pos, after, guard⟩ := o
  simp only at h
  cases op <;> simp only [pevS, reduceCtorEq] at h
  case move x =>
    cases hx : ev x with
    | none => rw [hx] at h; cases h
    | some v => rw [hx] at h; cases h; exact ⟨_, rfl, hev _ (by simp [Op.operands]) _ hx⟩
  case assign x =>
    cases hx : ev x with
    | none => rw [hx] at h; cases h
    | some v => rw [hx] at h; cases h; exact ⟨_, rfl, hev _ (by simp [Op.operands]) _ hx⟩
  case pick c x y =>
    split at h
    · rename_i hc
      have hcr := hev _ (by simp [Op.operands]) _ hc
      cases hx : ev x with
      | none => rw [hx] at h; cases h
      | some v =>
        rw [hx] at h; cases h
        refine ⟨ρ x, ?_, hev _ (by simp [Op.operands]) _ hx⟩
        generalize hz : ρ c = z at hcr
        cases hcr
        simp [execOp, hz, asBool]
    · rename_i hc
      have hcr := hev _ (by simp [Op.operands]) _ hc
      cases hx : ev y with
      | none => rw [hx] at h; cases h
      | some v =>
        rw [hx] at h; cases h
        refine ⟨ρ y, ?_, hev _ (by simp [Op.operands]) _ hx⟩
        generalize hz : ρ c = z at hcr
        cases hcr
        simp [execOp, hz, asBool]
    · cases h
  case alloc e => exact PRok.lift (pAlloc_sound hT w h)
  case box e x =>
    split at h
    · rename_i hx; cases h; exact PRok.lift (pBox_sound (hev _ (by simp [Op.operands]) _ hx) w)
    · cases h
  case build t ps =>
    split at h
    · rename_i vs hx
      have := oevP_sound (fun x hx => hev _ (by simp only [Op.operands, List.mem_toArray, List.mem_map]; exact ⟨x, hx, rfl⟩)) hx
      refine mapV_lift h fun v hv => ?_
      obtain ⟨v', h1, h2⟩ := pBuild_sound hT this w hv
      refine ⟨v', ?_, h2⟩
      rw [← h1]
      congr 2
      apply Array.ext'; simp
    · cases h
  case buildSlice t len ps =>
    split at h
    · rename_i vs hx
      have := pBuildSlice_sound hT (oevP_sound (fun x hx => hev _ (by simp only [Op.operands, List.mem_toArray, List.mem_map]; exact ⟨x, hx, rfl⟩)) hx) w h
      have e : (ps.map fun (x : Nat × Operand) => (x.1, ρ x.2)) = ⟨ps.toList.map fun (i, x) => (i, ρ x)⟩ := by apply Array.ext'; simp
      rw [← e] at this
      exact PRok.lift this
    · cases h
  case load t x =>
    split at h
    · rename_i v hx
      exact mapV_lift h fun u hu => pLoad_sound hT hR (hev _ (by simp [Op.operands]) _ hx) hu
    · cases h
  case nilCheck x =>
    split at h
    · rename_i v hx
      cases hn : pNil v with
      | none => rw [hn] at h; cases h
      | some u => rw [hn] at h; cases h; exact pNil_sound rfl (hev _ (by simp [Op.operands]) _ hx) w hn
    · cases h
  case binOp op t x y yt =>
    split at h
    · rename_i u v hx hy
      exact mapV_lift h fun z hz => pBinS_sound hT hR (hev _ (by simp [Op.operands]) _ hx) (hev _ (by simp [Op.operands]) _ hy) x y w hz
    · cases h
  case unOp op t x =>
    split at h
    · rename_i v hx
      exact mapV_lift h fun u hu => pUn_sound (hev _ (by simp [Op.operands]) _ hx) w hu
    · cases h
  case convert s d x =>
    split at h
    · rename_i v hx
      exact mapV_lift h fun u hu => pConvS_sound hT hR (hev _ (by simp [Op.operands]) _ hx) w hu
    · cases h
  case makeFunc fn fs cs =>
    cases fn <;> simp only [reduceCtorEq] at h
    split at h
    · rename_i u v hx hy
      cases h
      refine ⟨.func (.func _) ⟨fs.toList.map ρ⟩ ⟨cs.toList.map ρ⟩, ?_, .func (oevL_sound (fun x hx => hev _ (by simp only [Op.operands, Array.mem_append]; exact .inl (Array.mem_toList_iff.1 hx))) hx) (oevL_sound (fun x hx => hev _ (by simp only [Op.operands, Array.mem_append]; exact .inr (Array.mem_toList_iff.1 hx))) hy)⟩
      have e1 : fs.map ρ = ⟨fs.toList.map ρ⟩ := by apply Array.ext'; simp
      have e2 : cs.map ρ = ⟨cs.toList.map ρ⟩ := by apply Array.ext'; simp
      simp only [execOp, Instr.makeFunc, Sem.run_bind, Sem.run_pure, Result.andThen_ok, e1, e2]
    · cases h
  case makeMap t r =>
    cases r <;> simp only [reduceCtorEq, Option.some.injEq] at h
    subst h
    exact PRok.lift (pMakeMap_sound w)
  case makeSlice t l c =>
    split at h
    · rename_i u v hx hy
      exact PRok.lift (pMakeSlice_sound hT (hev _ (by simp [Op.operands]) _ hx) (hev _ (by simp [Op.operands]) _ hy) w h)
    · cases h
  case slice t x lo hi mx =>
    split at h
    · rename_i u l m n h1 h2 h3 h4
      exact mapV_lift h fun z hz => pSlice_sound hT hR (hev _ (by simp [Op.operands]) _ h1) (oevO_sound (fun _ e => hev _ (by simp [Op.operands, e])) h2) (oevO_sound (fun _ e => hev _ (by simp [Op.operands, e])) h3) (oevO_sound (fun _ e => hev _ (by simp [Op.operands, e])) h4) hz
    · cases h
  case fieldAddr s x f =>
    split at h
    · rename_i v hx
      exact mapV_lift h fun u hu => pFieldAddr_sound hT (hev _ (by simp [Op.operands]) _ hx) w hu
    · cases h
  case field s x f =>
    split at h
    · rename_i v hx
      exact mapV_lift h fun u hu => pField_sound hT (hev _ (by simp [Op.operands]) _ hx) w hu
    · cases h
  case indexAddr t x i =>
    split at h
    · rename_i u v hx hy
      exact mapV_lift h fun z hz => pIndexAddr_sound hT (hev _ (by simp [Op.operands]) _ hx) (hev _ (by simp [Op.operands]) _ hy) w hz
    · cases h
  case index t x i =>
    split at h
    · rename_i u v hx hy
      exact mapV_lift h fun z hz => pIndex_sound hT (hev _ (by simp [Op.operands]) _ hx) (hev _ (by simp [Op.operands]) _ hy) w hz
    · cases h
  case lookup t x i ok =>
    split at h
    · rename_i u v hx hy
      exact mapV_lift h fun z hz => pLookup_sound hT hR (hev _ (by simp [Op.operands]) _ hx) (hev _ (by simp [Op.operands]) _ hy) hz
    · cases h
  case range t x =>
    split at h
    · rename_i v hx
      exact PRok.lift (pRange_sound hT hR (hev _ (by simp [Op.operands]) _ hx) h)
    · cases h
  case entry x =>
    split at h
    · rename_i v hx
      exact mapV_lift h fun u hu => pEntry_sound hR (hev _ (by simp [Op.operands]) _ hx) hu
    · cases h
  case extract x i =>
    split at h
    · rename_i v hx
      exact mapV_lift h fun u hu => pExtract_sound (hev _ (by simp [Op.operands]) _ hx) w hu
    · cases h
  case call c =>
    split at h
    · rename_i b hb
      split at h
      · rename_i vs hx
        have hl := oevL_sound (fun x hx => hev _ (by simp only [Op.operands, Call.operands, Array.mem_append]; exact .inr (Array.mem_toList_iff.1 hx))) hx
        rw [exec_builtin _ _ c b hb rfl]
        have e1 : c.args.map ρ = ⟨c.args.toList.map ρ⟩ := by apply Array.ext'; simp
        rw [e1]
        generalize c.args.toList.map ρ = vs' at hl
        generalize (c.args.map fun | .const _ => true | _ => false) = consts
        cases b <;> simp only [pBuiltin, reduceCtorEq] at h
        case len =>
          obtain ⟨⟨ts⟩, hts⟩ : ∃ ts, c.argTypes = ts := ⟨_, rfl⟩
          rw [hts] at h ⊢
          cases hl with
          | nil => cases ts <;> cases h
          | cons hv hr =>
            cases ts with
            | nil => cases h
            | cons t tr => exact mapV_lift h fun u hu => pLen_sound hT hR hv hu
        case max =>
          split at h
          · rename_i k x r
            cases hl with
            | cons hv hr =>
              cases hv
              refine mapV_lift h fun u hu => ?_
              obtain ⟨h1, h2⟩ := pMax_sound (P := P) w x k u hr hu
              exact ⟨u, by simpa [Builtin.max_] using h1, VR.of_cst θ u h2⟩
          · cases h
        case min =>
          split at h
          · rename_i k x r
            cases hl with
            | cons hv hr =>
              cases hv
              refine mapV_lift h fun u hu => ?_
              obtain ⟨h1, h2⟩ := pMin_sound (P := P) w x k u hr hu
              exact ⟨u, by simpa [Builtin.min_] using h1, VR.of_cst θ u h2⟩
          · cases h
      · cases h
    · cases h

/-! ### Operations that write -/
def one (x : Option (Value × AH)) : Option (List (Value × AH)) :=
  match x with
  | some r => some [r]
  | none => none

/-! The same, at one step for the kernel: every branch is closed. -/
def ob {α β : Type} (x : Option α) (f : α → Option β) : Option β := Option.rec (motive := fun _ => Option β) none f x
omit [SemC] in
theorem ob_some {α β : Type} (a : α) (f : α → Option β) : ob (some a) f = f a := rfl
omit [SemC] in
theorem ob_none {α β : Type} (f : α → Option β) : ob none f = none := rfl
abbrev PK := Tbl → (Operand → Option Value) → Tr AO → Option PR
def kNone : PK := fun _ _ _ => none
def kMove (x : Operand) : PK := fun _ ev _ => mapV (ev x)
def kPick (c a b : Operand) : PK := fun _ ev _ => match ev c with
  | some (.bool true) => mapV (ev a)
  | some (.bool false) => mapV (ev b)
  | _ => none
def kSlice (t : TypeId) (x : Operand) (lo hi mx : Option Operand) : PK := fun T ev hp => match ev x, oevO ev lo, oevO ev hi, oevO ev mx with
  | some a, some l, some h, some m => mapV (pSlice T hp t a l h m)
  | _, _, _, _ => none
def kFunc (f : Fn) (fs cs : Array Operand) : PK := fun _ ev _ => match f with
  | .func f => match oevL ev fs.toList, oevL ev cs.toList with
    | some a, some b => some (.v (.func (.func f) ⟨a⟩ ⟨b⟩))
    | _, _ => none
  | _ => none
def kMap (r : Option Operand) : PK := fun _ _ _ => match r with
  | none => some (.new (.map [] 0) fun b => .map (some b))
  | some _ => none
def kCall (c : Call) : PK := fun T ev hp => match c.callee with
  | .builtin b => ob (oevL ev c.args.toList) fun vs => pBuiltin T hp b c.argTypes.toList vs
  | _ => none
def pev (T : Tbl) (ev : Operand → Option Value) (hp : Tr AO) (o : Op) : Option PR :=
  Op.rec (motive := fun _ => PK) kMove kMove kPick (fun e T _ _ => pAlloc T e) (fun _ x _ ev _ => ob (ev x) fun v => some (pBox v))
    (fun t ps T ev _ => ob (oevP ev ps.toList) fun vs => mapV (pBuild T t vs)) (fun t len ps T ev _ => ob (oevP ev ps.toList) fun vs => pBuildSlice T t len vs)
    (fun _ _ _ _ => kNone) (fun t a T ev hp => ob (ev a) fun v => mapV (pLoad T hp t v)) (fun _ _ _ => kNone) (fun _ => kNone) (fun _ => kNone)
    (fun x _ ev _ => ob (ev x) fun v => mapV (pNil v))
    (fun op t x y _ T ev hp => ob (ev x) fun a => ob (ev y) fun b => mapV (pBinS T hp op t a b))
    (fun op _ x _ ev _ => ob (ev x) fun a => mapV (pUn op a)) (fun s d x T ev hp => ob (ev x) fun a => mapV (pConvS T hp s d a)) (fun _ _ => kNone) (fun _ _ => kNone)
    kFunc (fun _ r => kMap r) (fun _ _ => kNone) (fun t l c T ev _ => ob (ev l) fun a => ob (ev c) fun b => pMakeSlice T t a b) kSlice
    (fun s x f T ev _ => ob (ev x) fun a => mapV (pFieldAddr T s f a)) (fun s x f T ev _ => ob (ev x) fun a => mapV (pField T s f a))
    (fun t x i T ev _ => ob (ev x) fun a => ob (ev i) fun b => mapV (pIndexAddr T t a b)) (fun t x i T ev _ => ob (ev x) fun a => ob (ev i) fun b => mapV (pIndex T t a b))
    (fun t x i ok T ev hp => ob (ev x) fun a => ob (ev i) fun b => mapV (pLookup T hp t a b ok)) (fun _ _ _ _ => kNone) (fun _ _ _ => kNone) (fun _ _ _ _ => kNone)
    (fun t x T ev hp => ob (ev x) fun a => pRange T hp t a) (fun _ _ => kNone) (fun x _ ev hp => ob (ev x) fun a => mapV (pEntry hp a)) (fun _ _ _ _ => kNone)
    (fun x i _ ev _ => ob (ev x) fun a => mapV (pExtract i a)) kCall (fun _ => kNone) (fun _ => kNone) (fun _ => kNone) (fun _ _ => kNone) (fun _ _ _ => kNone) (fun _ _ => kNone) o T ev hp

omit [SemC] in
theorem pev_eq (T : Tbl) (ev : Operand → Option Value) (hp : Tr AO) (o : Op) : pev T ev hp o = pevS T ev hp o := by
  cases o <;> first
    | rfl
    | (simp only [pev, pevS, ob, kFunc, kMap, kCall]; split <;> (try split) <;> simp_all <;> done)
    | skip
  case binOp op t x y u =>
    show (ob (ev x) fun a => ob (ev y) fun b => mapV (pBinS T hp op t a b)) = _
    simp only [pevS]
    cases ev x <;> cases ev y <;> rfl
  case makeSlice t x y =>
    show (ob (ev x) fun a => ob (ev y) fun b => pMakeSlice T t a b) = _
    simp only [pevS]
    cases ev x <;> cases ev y <;> rfl
  case indexAddr t x y =>
    show (ob (ev x) fun a => ob (ev y) fun b => mapV (pIndexAddr T t a b)) = _
    simp only [pevS]
    cases ev x <;> cases ev y <;> rfl
  case index t x y =>
    show (ob (ev x) fun a => ob (ev y) fun b => mapV (pIndex T t a b)) = _
    simp only [pevS]
    cases ev x <;> cases ev y <;> rfl
  case lookup t x y ok =>
    show (ob (ev x) fun a => ob (ev y) fun b => mapV (pLookup T hp t a b ok)) = _
    simp only [pevS]
    cases ev x <;> cases ev y <;> rfl
theorem pev_sound {P : Program} {T : Tbl} (hT : TblOK P T) {θ : Th} {ev : Operand → Option Value} {hp : Tr AO} {ρ : Operand → Value} {w : World} {o : Oper} (hev : ∀ x ∈ o.op.operands, ∀ v, ev x = some v → VR θ v (ρ x)) (hR : RO θ hp w.heap) {r : PR}
    (h : pev T ev hp o.op = some r) : PRokN P θ w (execOp ρ o) r := pevS_sound hT hev hR (by rw [← pev_eq]; exact h)

def eev (T : Tbl) (ev : Operand → Option Value) (H : AH) (o : Op) : Option (List (Value × AH)) :=
  match o with
  | .store t x y => match ev x, ev y with
    | some a, some v => one (eStore T H t a v)
    | _, _ => none
  | .mapUpdate t m k x | .insert t m k x => match ev m, ev k, ev x with
    | some a, some b, some v => one (eMapUpdate T H t a b v)
    | _, _, _ => none
  | .next x s => match ev x with
    | some a => eNext H a s
    | none => none
  | .call c => match c.callee, c.argTypes, c.args with
    | .builtin .append, ⟨[t, u]⟩, ⟨[x, y]⟩ => match ev x, ev y with
      | some a, some b => one (eAppend T H t u a b)
      | _, _ => none
    | .builtin .copy, ⟨t :: _⟩, ⟨[x, y]⟩ => match ev x, ev y with
      | some a, some b => one (eCopy T H t a b)
      | _, _ => none
    | _, _, _ => none
  | _ => none

/-- What a writing operation comes to, as a frame takes it up. -/
def gives : Next → Value → Prop
  | .value v, v' => v = v'
  | .skip, v' => v' = undef
  | _, _ => False

theorem eev_sound {P : Program} {T : Tbl} (hT : TblOK P T) {θ : Th} {ev : Operand → Option Value} {H : AH} {ρ : Operand → Value} {w : World} {o : Oper} (hev : ∀ x ∈ o.op.operands, ∀ v, ev x = some v → VR θ v (ρ x)) (hR : RH θ H w) {outs : List (Value × AH)}
    (h : eev T ev H o.op = some outs) : ∃ v H' v' w' θ' nx, (v, H') ∈ outs ∧ (execOp ρ o).run P w = .ok nx w' ∧ gives nx v' ∧ VR θ' v v' ∧ RH θ' H' w' ∧ Fr θ H w θ' H' w' := by
  obtain ⟨dst, op, ty, pos, after, guard⟩ := o
  simp only at h
  cases op <;> simp only [eev, reduceCtorEq] at h
  case store t x y =>
    split at h
    · rename_i u v hx hy
      cases he : eStore T H t u v with
      | none => rw [he] at h; cases h
      | some r =>
        obtain ⟨z, H'⟩ := r
        rw [he] at h; cases h
        obtain ⟨w', h1, rfl, h2, h3⟩ := eStore_sound hT hR (hev _ (by simp [Op.operands]) _ hx) (hev _ (by simp [Op.operands]) _ hy) he
        exact ⟨_, _, undef, w', θ, .skip, List.mem_singleton.2 rfl, by simp [execOp, h1], rfl, .tuple .nil, h2, h3⟩
    · cases h
  case mapUpdate t m k x =>
    split at h
    · rename_i u v z hx hy hz
      cases he : eMapUpdate T H t u v z with
      | none => rw [he] at h; cases h
      | some r =>
        obtain ⟨q, H'⟩ := r
        rw [he] at h; cases h
        obtain ⟨w', h1, rfl, h2, h3⟩ := eMapUpdate_sound hT hR (hev _ (by simp [Op.operands]) _ hx) (hev _ (by simp [Op.operands]) _ hy) (hev _ (by simp [Op.operands]) _ hz) he
        exact ⟨_, _, undef, w', θ, .skip, List.mem_singleton.2 rfl, by simp [execOp, h1], rfl, .tuple .nil, h2, h3⟩
    · cases h
  case insert t m k x =>
    split at h
    · rename_i u v z hx hy hz
      cases he : eMapUpdate T H t u v z with
      | none => rw [he] at h; cases h
      | some r =>
        obtain ⟨q, H'⟩ := r
        rw [he] at h; cases h
        obtain ⟨w', h1, rfl, h2, h3⟩ := eMapUpdate_sound hT hR (hev _ (by simp [Op.operands]) _ hx) (hev _ (by simp [Op.operands]) _ hy) (hev _ (by simp [Op.operands]) _ hz) he
        exact ⟨_, _, undef, w', θ, .skip, List.mem_singleton.2 rfl, by simp [execOp, h1], rfl, .tuple .nil, h2, h3⟩
    · cases h
  case next x s =>
    split at h
    · rename_i u hx
      obtain ⟨v, H', v', w', h1, h2, h3, h4, h5⟩ := eNext_sound (P := P) (ty := ty) hR (hev _ (by simp [Op.operands]) _ hx) h
      exact ⟨v, H', v', w', θ, .value v', h1, by simp [execOp, h2], rfl, h3, h4, h5⟩
    · cases h
  case call c =>
    obtain ⟨callee, ⟨args⟩, ⟨argTypes⟩⟩ := c
    simp only at h
    split at h
    · rename_i t u x y hty har
      cases hty; cases har
      split at h
      · rename_i p q hx hy
        cases he : eAppend T H t u p q with
        | none => rw [he] at h; cases h
        | some r =>
          obtain ⟨z, H'⟩ := r
          rw [he] at h; cases h
          obtain ⟨v', w', θ', h1, h2, h3, h4⟩ := eAppend_sound hT hR (ty := ty) (hev _ (by simp [Op.operands, Call.operands]) _ hx) (hev _ (by simp [Op.operands, Call.operands]) _ hy) he
          refine ⟨_, _, v', w', θ', .value v', List.mem_singleton.2 rfl, ?_, rfl, h2, h3, h4⟩
          rw [exec_builtin _ _ _ .append rfl rfl]
          simp only [builtin, List.map_toArray, List.map_cons, List.map_nil, Sem.run_bind, h1, Result.andThen_ok, Sem.run_pure]
      · cases h
    · rename_i t tr x y hty har
      cases hty; cases har
      split at h
      · rename_i p q hx hy
        cases he : eCopy T H t p q with
        | none => rw [he] at h; cases h
        | some r =>
          obtain ⟨z, H'⟩ := r
          rw [he] at h; cases h
          obtain ⟨w', h1, h2, h3, h4⟩ := eCopy_sound hT hR (ty := ty) (ts := tr) (hev _ (by simp [Op.operands, Call.operands]) _ hx) (hev _ (by simp [Op.operands, Call.operands]) _ hy) he
          refine ⟨_, _, z, w', θ, .value z, List.mem_singleton.2 rfl, ?_, rfl, VR.of_cst θ z h2, h3, h4⟩
          rw [exec_builtin _ _ _ .copy rfl rfl]
          simp only [builtin, List.map_toArray, List.map_cons, List.map_nil, Sem.run_bind, h1, Result.andThen_ok, Sem.run_pure]
      · cases h
    · cases h
end
end Go.Am
