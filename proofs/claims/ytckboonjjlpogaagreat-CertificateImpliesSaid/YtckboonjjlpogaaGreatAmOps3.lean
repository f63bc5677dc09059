/- Operations of the abstract machine that make memory, and slices of what is there. -/
import Derived.Test.YtckboonjjlpogaaGreatAmOps2
import Derived.Laws.Tables
import Derived.Great.BuildSlice
set_option linter.unusedVariables false
set_option linter.unusedSimpArgs false
namespace Go.Am
noncomputable section
variable [SemC]

inductive PR where
  | v (v : Value)
  | new (o : AO) (mk : Nat → Value)

def PRok (P : Program) (θ : Th) (w : World) (s : Sem Value) : PR → Prop
  | .v v => ∃ v', s.run P w = .ok v' w ∧ VR θ v v'
  | .new ao mk => ∃ (x : Obj) (p : Pl) (u : Value), p.cb = w.heap.size ∧ p.off = 0 ∧ s.run P w = .ok u (w.alloc x) ∧
      ∀ b θ', Ext θ θ' → θ' b = some p → VR θ' (mk b) u ∧ ORel θ' (w.heap.push x) p ao

def mkPtr (b : Nat) : Value := .pointer (some ⟨b, 0, none⟩)

theorem ORel.new_cells {θ : Th} {w : World} {vs vs' : List Value} (h : LR θ vs vs') (esz e : Nat) :
    ORel θ (w.heap.push (.cells ⟨vs'⟩ e)) ⟨w.heap.size, 0, esz, vs'.length, undef⟩ (.cells esz vs) := by
  refine ⟨rfl, ⟨vs'⟩, e, by simp, by simp, by simp [h.length], ?_⟩
  intro i v hv
  obtain ⟨v', h1, h2⟩ := h.get i v hv
  exact ⟨v', by simpa using h1, h2⟩

/-! ### alloc, box -/
def pAlloc (T : Tbl) (t : TypeId) : Option PR :=
  match T.ty.get t with
  | some (i, _) => match i.zero with
    | some z => match cstL z.cells.toList with
      | true => some (.new (.cells 0 z.cells.toList) mkPtr)
      | false => none
    | none => none
  | none => none
theorem pAlloc_sound {P : Program} {T : Tbl} (hT : TblOK P T) {θ : Th} {t : TypeId} {r : PR} (w : World) (h : pAlloc T t = some r) : PRok P θ w (Instr.alloc t true (.tuple #[])) r := by
  unfold pAlloc at h
  split at h
  · rename_i i d ht
    split at h
    · rename_i z hz
      split at h
      · rename_i hc
        cases h
        refine ⟨.cells z.cells t, ⟨w.heap.size, 0, 0, z.cells.toList.length, undef⟩, .pointer (some ⟨w.heap.size, 0, none⟩), rfl, rfl, ?_, ?_⟩
        · simp [Instr.alloc, run_zer hT ht w hz, newVar, newRow]
        · intro b θ' hE hb
          exact ⟨by have := VR.ptr (o := 0) hb; simpa [mkPtr] using this, ORel.new_cells (LR.of_cst θ' _ hc) 0 t⟩
      · cases h
    · cases h
  · cases h

def pBox (v : Value) : PR := .new (.cells 0 v.cells.toList) mkPtr
theorem pBox_sound {P : Program} {θ : Th} {t : TypeId} {v v' : Value} (hv : VR θ v v') (w : World) : PRok P θ w (Instr.box t v') (pBox v) := by
  refine ⟨.cells v'.cells t, ⟨w.heap.size, 0, 0, v'.cells.toList.length, undef⟩, .pointer (some ⟨w.heap.size, 0, none⟩), rfl, rfl, ?_, ?_⟩
  · simp [Instr.box, newVar, newRow]
  · intro b θ' hE hb
    exact ⟨by have := VR.ptr (o := 0) hb; simpa [mkPtr] using this, ORel.new_cells (hv.cells.mono hE) 0 t⟩

/-! ### build, buildSlice -/
inductive PL (θ : Th) : List (Nat × Value) → List (Nat × Value) → Prop
  | nil : PL θ [] []
  | cons {i : Nat} {v v' : Value} {r r' : List (Nat × Value)} : VR θ v v' → PL θ r r' → PL θ ((i, v) :: r) ((i, v') :: r')

def setAll (cs : List Value) (off : Nat) : List Value → List Value
  | [] => cs
  | v :: vs => setAll (cs.set off v) (off + 1) vs
theorem setAll_LR {θ : Th} : ∀ {vs vs' : List Value} {cs cs' : List Value} (off : Nat), LR θ cs cs' → LR θ vs vs' → LR θ (setAll cs off vs) (setAll cs' off vs')
  | _, _, _, _, _, h, .nil => h
  | _, _, _, _, off, h, .cons a b => setAll_LR (off + 1) (h.set off a) b
omit [SemC] in
theorem foldl_setAll (off : Nat) : ∀ (vs : List Value) (j : Nat) (cs : Array Value),
    ((vs.zipIdx j).foldl (fun (cs : Array Value) (x : Value × Nat) => cs.setIfInBounds (off + x.2) x.1) cs).toList = setAll cs.toList (off + j) vs
  | [], _, _ => by simp [setAll]
  | v :: vs, j, cs => by
    simp only [List.zipIdx_cons, List.foldl_cons, setAll]
    rw [foldl_setAll off vs (j + 1)]
    simp [Nat.add_assoc]

def fillL (place : Nat → Option (Nat × Nat)) (cells : List Value) : List (Nat × Value) → Option (List Value)
  | [] => some cells
  | (i, v) :: rest =>
    match place i with
    | none => none
    | some (off, size) =>
      match Nat.beq v.cells.size size, Nat.ble (off + size) cells.length with
      | true, true => fillL place (setAll cells off v.cells.toList) rest
      | _, _ => none

theorem cells_size {θ : Th} {v v' : Value} (h : VR θ v v') : v'.cells.size = v.cells.size := by
  have := h.cells.length; simpa using this.symm

theorem fillL_sound {θ : Th} {place : Nat → Option (Nat × Nat)} : ∀ {ps ps' : List (Nat × Value)} {cs cs' out : List Value}, PL θ ps ps' → LR θ cs cs' → fillL place cs ps = some out →
    ∃ out', Instr.fill place ⟨cs'⟩ ps' = some ⟨out'⟩ ∧ LR θ out out'
  | _, _, cs, cs', out, .nil, hc, h => by simp only [fillL, Option.some.injEq] at h; subst h; exact ⟨cs', rfl, hc⟩
  | _, _, cs, cs', out, .cons (i := i) (v := v) (v' := v') hv hr, hc, h => by
    simp only [fillL] at h
    split at h
    · cases h
    · rename_i off size hpl
      split at h
      · rename_i h1 h2
        have h1' := Nat.eq_of_beq_eq_true h1
        have h2' := Nat.le_of_ble_eq_true h2
        obtain ⟨out', ho, hl⟩ := fillL_sound hr (setAll_LR off hc hv.cells) h
        refine ⟨out', ?_, hl⟩
        have hs := cells_size hv
        have hlen := hc.length
        simp only [Instr.fill, hpl]
        rw [if_neg (by simp [hs, h1']; omega)]
        rw [← ho]
        congr 1
        apply Array.ext'
        have := foldl_setAll off v'.cells.toList 0 ⟨cs'⟩
        rw [← Array.foldl_toList, Array.toList_zipIdx]
        simpa using this
      · cases h

def plcs (T : Tbl) : List Field → Option (List (Nat × Nat))
  | [] => some []
  | f :: fs => match T.ty.get f.type with
    | some (i, _) => match plcs T fs with
      | some r => some ((f.offset, i.size) :: r)
      | none => none
    | none => none
omit [SemC] in
theorem plcs_sound {P : Program} {T : Tbl} (hT : TblOK P T) : ∀ (fs : List Field) (r : List (Nat × Nat)), plcs T fs = some r →
    fs.mapM (fun f => (P.info? f.type).map fun i => (f.offset, i.size)) = some r
  | [], r, h => by simp only [plcs, Option.some.injEq] at h; subst h; simp
  | f :: fs, r, h => by
    simp only [plcs] at h
    split at h
    · rename_i i d ht
      split at h
      · rename_i r' hr
        cases h
        simp [(hT.ty _ _ _ ht).1, plcs_sound hT fs r' hr]
      · cases h
    · cases h

def pBuild (T : Tbl) (t : TypeId) (ps : List (Nat × Value)) : Option Value :=
  match T.ty.get t with
  | some (it, .struct fs) => match it.zero, plcs T fs.toList with
    | some z, some r => match cstL z.cells.toList with
      | true => match fillL (fun i => r[i]?) z.cells.toList ps with
        | some out => some (.agg ⟨out⟩)
        | none => none
      | false => none
    | _, _ => none
  | some (it, .array _ e) => match it.zero, T.ty.get e with
    | some z, some (ie, _) => match cstL z.cells.toList with
      | true => match fillL (fun i => some (i * ie.size, ie.size)) z.cells.toList ps with
        | some out => some (.agg ⟨out⟩)
        | none => none
      | false => none
    | _, _ => none
  | _ => none
theorem pBuild_sound {P : Program} {T : Tbl} (hT : TblOK P T) {θ : Th} {t : TypeId} {ps ps' : List (Nat × Value)} {v : Value} (hp : PL θ ps ps') (w : World)
    (h : pBuild T t ps = some v) : ∃ v', (Instr.build t ⟨ps'⟩).run P w = .ok v' w ∧ VR θ v v' := by
  unfold pBuild at h
  split at h
  · rename_i it fs ht
    split at h
    · rename_i z r hz hr
      split at h
      · rename_i hc
        split at h
        · rename_i out ho
          cases h
          obtain ⟨out', h1, h2⟩ := fillL_sound hp (LR.of_cst θ _ hc) ho
          refine ⟨_, run_build w t ⟨ps'⟩ ⟨out'⟩ ?_, .agg h2⟩
          have hpl := plcs_sound hT _ _ hr
          simp only [Program.built, (hT.ty _ _ _ ht).1, (hT.ty _ _ _ ht).2, hz, hpl]
          rw [← h1]
          congr 1
          funext i; simp
        · cases h
      · cases h
    · cases h
  · rename_i it n e ht
    split at h
    · rename_i z ie de hz he
      split at h
      · rename_i hc
        split at h
        · rename_i out ho
          cases h
          obtain ⟨out', h1, h2⟩ := fillL_sound hp (LR.of_cst θ _ hc) ho
          refine ⟨_, run_build w t ⟨ps'⟩ ⟨out'⟩ ?_, .agg h2⟩
          simp only [Program.built, (hT.ty _ _ _ ht).1, (hT.ty _ _ _ ht).2, hz, (hT.ty _ _ _ he).1]
          rw [← h1]
        · cases h
      · cases h
    · cases h
  · cases h

def repZ (z : List Value) (n : Nat) : List Value := (List.range n).map fun i => z.getD (i % z.length) default
theorem repZ_LR (θ : Th) {z : List Value} (hc : cstL z = true) (n : Nat) : LR θ (repZ z n) (repZ z n) := by
  refine LR.of_get rfl fun i x x' h1 h2 => ?_
  rw [h1] at h2; cases h2
  simp only [repZ, List.getElem?_map, Option.map_eq_some_iff] at h1
  obtain ⟨j, _, hj⟩ := h1
  subst hj
  have hz := LR.of_cst θ z hc
  cases hg : z[j % z.length]? with
  | none => simp only [List.getD, hg, Option.getD_none]; exact VR.of_cst θ _ rfl
  | some v =>
    simp only [List.getD, hg, Option.getD_some]
    obtain ⟨v', h1, h2⟩ := hz.get _ _ hg
    rw [hg] at h1; cases h1; exact h2
omit [SemC] in
theorem repZ_eq (z : Array Value) (n : Nat) : (Array.range n).map (fun i => z[i % z.size]!) = ⟨repZ z.toList n⟩ := by
  apply Array.ext'
  simp [repZ, List.getD, getElem!_def]
  intro a _
  cases z[a % z.size]? <;> rfl

def mkSl (len cap : Nat) (b : Nat) : Value := .slice (some ⟨b, 0, none⟩) len cap

def pBuildSlice (T : Tbl) (t : TypeId) (len : Nat) (ps : List (Nat × Value)) : Option PR :=
  match T.ty.get t with
  | some (_, .slice e) => match T.ty.get e with
    | some (ie, _) => match ie.zero with
      | some z => match cstL z.cells.toList, Nat.ble (len * ie.size) 65536, Nat.blt 0 (len * ie.size), Nat.blt len unk with
        | true, true, true, true => match fillL (fun i => some (i * ie.size, ie.size)) (repZ z.cells.toList (len * ie.size)) ps with
          | some out => some (.new (.cells ie.size out) (mkSl len len))
          | none => none
        | true, true, false, true => match ps with
          | [] => some (.new (.cells ie.size []) (mkSl len len))
          | _ => none
        | _, _, _, _ => none
      | none => none
    | none => none
  | _ => none
theorem pBuildSlice_sound {P : Program} {T : Tbl} (hT : TblOK P T) {θ : Th} {t : TypeId} {len : Nat} {ps ps' : List (Nat × Value)} {r : PR} (hp : PL θ ps ps') (w : World)
    (h : pBuildSlice T t len ps = some r) : PRok P θ w (Instr.buildSlice t len ⟨ps'⟩) r := by
  unfold pBuildSlice at h
  split at h
  · rename_i it e ht
    split at h
    · rename_i ie de he
      split at h
      · rename_i z hz
        split at h
        · rename_i h1 h2 h3 h4
          have h2' := Nat.le_of_ble_eq_true h2
          have h3' := blt_spec h3
          have h4' := blt_spec h4
          split at h
          · rename_i out ho
            cases h
            obtain ⟨out', hf, hl⟩ := fillL_sound hp (repZ_LR θ h1 _) ho
            refine ⟨.cells ⟨out'⟩ e, ⟨w.heap.size, 0, ie.size, out'.length, undef⟩, .slice (some ⟨w.heap.size, 0, none⟩) len len, rfl, rfl, ?_, ?_⟩
            · refine run_buildSlice w t e len ⟨ps'⟩ ⟨out'⟩ ie z (hT.ty _ _ _ ht).2 (hT.ty _ _ _ he).1 hz (by omega) (by omega) ?_
              rw [repZ_eq]; exact hf
            · intro b θ' hE hb
              exact ⟨by have := VR.sl (o := 0) (len := len) hb (Nat.ne_of_lt h4'); simpa [mkSl] using this, ORel.new_cells (hl.mono hE) _ e⟩
          · cases h
        · rename_i h1 h2 h3 h4
          have h4' := blt_spec h4
          have h0 : len * ie.size = 0 := by
            rcases Nat.eq_zero_or_pos (len * ie.size) with hz | hp
            · exact hz
            · rw [(by exact Nat.ble_eq_true_of_le hp : Nat.blt 0 (len * ie.size) = true)] at h3; cases h3
          split at h
          · cases h
            cases hp
            refine ⟨.cells ⟨[]⟩ e, ⟨w.heap.size, 0, ie.size, 0, undef⟩, .slice (some ⟨w.heap.size, 0, none⟩) len len, rfl, rfl, ?_, ?_⟩
            · simp only [Instr.buildSlice, Sem.run_bind, run_und hT ht, Result.andThen_ok, run_siz hT he, h0, newRow]
              simp [Instr.fill, Sem.run_map, Result.andThen]
              have hr0 : ∀ f : Nat → Value, Array.map f (Array.range 0) = ⟨[]⟩ := fun f => by apply Array.ext'; simp
              rw [hr0]
            · intro b θ' hE hb
              exact ⟨by have := VR.sl (o := 0) (len := len) hb (Nat.ne_of_lt h4'); simpa [mkSl] using this, ORel.new_cells (vs := []) (vs' := []) .nil _ e⟩
          · cases h
        · cases h
      · cases h
    · cases h
  · cases h

/-! ### makeSlice, makeMap -/
def pMakeSlice (T : Tbl) (t : TypeId) : Value → Value → Option PR
  | .int _ (.ofNat l), .int _ (.ofNat c) => match T.ty.get t with
    | some (_, .slice e) => match T.ty.get e with
      | some (ie, _) => match ie.zero with
        | some z => match cstL z.cells.toList, Nat.ble (c * ie.size) 65536, Nat.ble l c, Nat.ble c 1000000, Nat.ble ie.bytes 1000000 with
          | true, true, true, true, true => some (.new (.cells ie.size (repZ z.cells.toList (c * ie.size))) (mkSl l c))
          | _, _, _, _, _ => none
        | none => none
      | none => none
    | _ => none
  | _, _ => none
theorem pMakeSlice_sound {P : Program} {T : Tbl} (hT : TblOK P T) {θ : Th} {t : TypeId} {a c a' c' : Value} {r : PR} (ha : VR θ a a') (hc : VR θ c c') (w : World)
    (h : pMakeSlice T t a c = some r) : PRok P θ w (Instr.makeSlice t a' c') r := by
  unfold pMakeSlice at h
  split at h
  · rename_i k l k' c
    cases ha; cases hc
    split at h
    · rename_i it e ht
      split at h
      · rename_i ie de he
        split at h
        · rename_i z hz
          split at h
          · rename_i h1 h2 h3 h4 h5
            have h2' := Nat.le_of_ble_eq_true h2
            have h3' := Nat.le_of_ble_eq_true h3
            have h4' := Nat.le_of_ble_eq_true h4
            have h5' := Nat.le_of_ble_eq_true h5
            cases h
            have hw : ∀ n : Nat, n ≤ 1000000 → IntKind.i64.wrap (Int.ofNat n) = (n : Int) := fun n hn => by
              show IntKind.i64.wrap (n : Int) = n
              rw [wrap_i64]; split <;> omega
            have hb : ie.bytes * c ≤ 1000000000000 := by have := Nat.mul_le_mul h5' h4'; omega
            have hb' : ((ie.bytes : Int) * (c : Int)) ≤ 1000000000000 := by rw [← Int.natCast_mul]; omega
            refine ⟨.cells ⟨repZ z.cells.toList (c * ie.size)⟩ e, ⟨w.heap.size, 0, ie.size, (repZ z.cells.toList (c * ie.size)).length, undef⟩, .slice (some ⟨w.heap.size, 0, none⟩) l c, rfl, rfl, ?_, ?_⟩
            · have hc2 : ¬ ((ie.bytes : Int) * (c : Int) > 2 ^ 48) := by omega
              unfold Instr.makeSlice
              simp only [run_und hT ht, asInt, asIntOf, Sem.run_bind, Sem.run_pure, Result.andThen_ok, run_inf hT he, hw l (by omega), hw c h4']
              rw [if_neg]
              · simp only [run_askRoom, Sem.run_bind, Result.andThen_ok, Int.toNat_natCast, run_siz hT he]
                by_cases hn : c * ie.size = 0
                · simp only [hn, if_true, Sem.run_bind, Sem.run_pure, Result.andThen_ok, newRow, run_newObj, Array.range_zero']
                  simp [repZ]
                · simp only [hn, if_false, Sem.run_bind, run_zer hT he w hz, Result.andThen_ok, Sem.run_pure]
                  rw [repZ_eq]; simp [newRow]
              · simp only [gt_iff_lt, Bool.or_eq_true, decide_eq_true_eq, not_or]
                refine ⟨⟨⟨by omega, by omega⟩, by omega⟩, by omega⟩
            · intro b θ' hE hb
              exact ⟨by have := VR.sl (o := 0) (len := l) hb (show c ≠ unk by unfold unk; omega); simpa [mkSl] using this, ORel.new_cells (repZ_LR θ' h1 _) _ e⟩
          · cases h
        · cases h
      · cases h
    · cases h
  · cases h

theorem pMakeMap_sound {P : Program} {θ : Th} {t : TypeId} (w : World) : PRok P θ w (Instr.makeMap t none) (.new (.map [] 0) fun b => .map (some b)) := by
  refine ⟨.map #[] 0, ⟨w.heap.size, 0, 0, 0, undef⟩, .map (some w.heap.size), rfl, rfl, ?_, ?_⟩
  · simp [Instr.makeMap]
  · intro b θ' _ hb
    exact ⟨.map hb, #[], by simp, .nil⟩

/-! ### Slices of strings and slices -/
/-- The bound that an operand gives, if it is one from 0 to y. -/
def pBound (y : Nat) : Value → Option Nat
  | .int _ (.ofNat n) => match Nat.ble n y with
    | true => some n
    | false => none
  | _ => none
theorem pBound_sound {P : Program} {θ : Th} {y y' n : Nat} {v v' : Value} (hv : VR θ v v') (hy : y ≤ y') (code : BoundsCode) (w : World) (h : pBound y v = some n) :
    (Instr.sliceBound v' y' code).run P w = .ok n w ∧ n ≤ y := by
  unfold pBound at h
  split at h
  · rename_i k m
    split at h
    · rename_i hm
      cases h
      have hm' := Nat.le_of_ble_eq_true hm
      cases hv
      refine ⟨?_, hm'⟩
      simp only [Instr.sliceBound, asIntOf, Sem.run_bind, Sem.run_pure, Result.andThen_ok]
      rw [if_pos ⟨by simp, by simp; omega⟩]
      rfl
    · cases h
  · cases h

def capK : Bool → Nat → Option Nat
  | true, y => some y
  | false, _ => none
/-- The three bounds of a slice expression: len, the least capacity that is sure (y), whether the capacity is known. -/
def pBounds (len y : Nat) (known : Bool) (lo hi mx : Option Value) : Option (Nat × Nat × Option Nat) :=
  match mx with
  | none =>
    match (match hi with | none => some len | some v => pBound y v) with
    | some h => match (match lo with | none => some 0 | some v => pBound h v) with
      | some l => some (l, h, capK known y)
      | none => none
    | none => none
  | some m => match pBound y m with
    | none => none
    | some m => match hi with
      | none => none
      | some v => match pBound m v with
        | none => none
        | some h => match (match lo with | none => some 0 | some v => pBound h v) with
          | some l => some (l, h, some m)
          | none => none

def OR' (θ : Th) : Option Value → Option Value → Prop
  | none, none => True
  | some v, some v' => VR θ v v'
  | _, _ => False

theorem pBounds_sound {P : Program} {θ : Th} {len y y' : Nat} {known : Bool} {lo hi mx lo' hi' mx' : Option Value} (hlo : OR' θ lo lo') (hhi : OR' θ hi hi') (hmx : OR' θ mx mx')
    (hy : y ≤ y') (hk : known = true → y' = y) (hlen : len ≤ y) (w : World) (s : Bool) {l h : Nat} {m : Option Nat} (hb : pBounds len y known lo hi mx = some (l, h, m)) :
    ∃ m', (Instr.sliceBounds s len y' lo' hi' mx').run P w = .ok (l, h, m') w ∧ l ≤ h ∧ h ≤ m' ∧ m' ≤ y' ∧ (∀ k, m = some k → m' = k) ∧ (m = none → h ≤ y ∧ m' = y') := by
  have fin : ∀ k : Nat, capK known y = some k → y' = k := fun k hk' => by
    cases known with
    | true => cases hk'; exact hk rfl
    | false => cases hk'
  cases mx with
  | none =>
    cases mx' with
    | some _ => exact hmx.elim
    | none =>
      cases hi with
      | none =>
        cases hi' with
        | some _ => exact hhi.elim
        | none =>
          cases lo with
          | none =>
            cases lo' with
            | some _ => exact hlo.elim
            | none =>
              simp only [pBounds, Option.some.injEq, Prod.mk.injEq] at hb
              obtain ⟨rfl, rfl, rfl⟩ := hb
              exact ⟨y', by simp [Instr.sliceBounds], Nat.zero_le _, by omega, Nat.le_refl _, fin, fun _ => ⟨hlen, rfl⟩⟩
          | some v =>
            cases lo' with
            | none => exact hlo.elim
            | some v' =>
              simp only [pBounds] at hb
              split at hb
              · rename_i l0 hl
                obtain ⟨l1, l2⟩ := pBound_sound (P := P) hlo (Nat.le_refl len) .sliceB w hl
                simp only [Option.some.injEq, Prod.mk.injEq] at hb
                obtain ⟨rfl, rfl, rfl⟩ := hb
                exact ⟨y', by simp [Instr.sliceBounds, l1], l2, by omega, Nat.le_refl _, fin, fun _ => ⟨hlen, rfl⟩⟩
              · cases hb
      | some u =>
        cases hi' with
        | none => exact hhi.elim
        | some u' =>
          simp only [pBounds] at hb
          split at hb
          · rename_i h0 hh
            obtain ⟨h1, h2⟩ := pBound_sound (P := P) hhi hy (if s then .sliceAcap else .sliceAlen) w hh
            cases lo with
            | none =>
              cases lo' with
              | some _ => exact hlo.elim
              | none =>
                simp only [Option.some.injEq, Prod.mk.injEq] at hb
                obtain ⟨rfl, rfl, rfl⟩ := hb
                exact ⟨y', by simp [Instr.sliceBounds, h1], Nat.zero_le _, by omega, Nat.le_refl _, fin, fun _ => ⟨h2, rfl⟩⟩
            | some v =>
              cases lo' with
              | none => exact hlo.elim
              | some v' =>
                simp only at hb
                split at hb
                · rename_i l0 hl
                  obtain ⟨l1, l2⟩ := pBound_sound (P := P) hlo (Nat.le_refl h0) .sliceB w hl
                  simp only [Option.some.injEq, Prod.mk.injEq] at hb
                  obtain ⟨rfl, rfl, rfl⟩ := hb
                  exact ⟨y', by simp [Instr.sliceBounds, h1, l1], l2, by omega, Nat.le_refl _, fin, fun _ => ⟨h2, rfl⟩⟩
                · cases hb
          · cases hb
  | some mv =>
    cases mx' with
    | none => exact hmx.elim
    | some mv' =>
      simp only [pBounds] at hb
      split at hb
      · cases hb
      · rename_i m0 hm
        obtain ⟨m1, m2⟩ := pBound_sound (P := P) hmx hy (if s then .slice3Acap else .slice3Alen) w hm
        cases hi with
        | none => cases hb
        | some u =>
          cases hi' with
          | none => exact hhi.elim
          | some u' =>
            simp only at hb
            split at hb
            · cases hb
            · rename_i h0 hh
              obtain ⟨h1, h2⟩ := pBound_sound (P := P) hhi (Nat.le_refl m0) .slice3B w hh
              cases lo with
              | none =>
                cases lo' with
                | some _ => exact hlo.elim
                | none =>
                  simp only [Option.some.injEq, Prod.mk.injEq] at hb
                  obtain ⟨rfl, rfl, rfl⟩ := hb
                  exact ⟨m0, by simp [Instr.sliceBounds, m1, h1], Nat.zero_le _, h2, by omega, fun k e => by cases e; rfl, fun e => by cases e⟩
              | some v =>
                cases lo' with
                | none => exact hlo.elim
                | some v' =>
                  simp only at hb
                  split at hb
                  · rename_i l0 hl
                    obtain ⟨l1, l2⟩ := pBound_sound (P := P) hlo (Nat.le_refl h0) .slice3C w hl
                    simp only [Option.some.injEq, Prod.mk.injEq] at hb
                    obtain ⟨rfl, rfl, rfl⟩ := hb
                    exact ⟨m0, by simp [Instr.sliceBounds, m1, h1, l1], l2, h2, by omega, fun k e => by cases e; rfl, fun e => by cases e⟩
                  · cases hb
end
end Go.Am
