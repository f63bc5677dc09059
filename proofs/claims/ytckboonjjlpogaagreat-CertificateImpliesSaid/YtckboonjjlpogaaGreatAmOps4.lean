/- Operations of the abstract machine: slices, lengths, maps and iterators that are read. -/
import Derived.Test.YtckboonjjlpogaaGreatAmOps3
set_option linter.unusedVariables false
set_option linter.unusedSimpArgs false
namespace Go.Am
noncomputable section
variable [SemC]

def adv (k l o size : Nat) : Nat := match Nat.beq k l with | true => o | false => o + l * size

def pSlice (T : Tbl) (hp : Tr AO) (t : TypeId) (x : Value) (lo hi mx : Option Value) : Option Value :=
  match T.ty.get t with
  | some (_, .string) => match x, mx with
    | .string ⟨⟨bs⟩⟩, none => match pBounds bs.length bs.length true lo hi none with
      | some (l, h, _) => some (.string ⟨⟨(bs.drop l).take (h - l)⟩⟩)
      | none => none
    | _, _ => none
  | some (_, .slice e) => match T.ty.get e with
    | none => none
    | some (ie, _) => match x with
      | .slice none 0 0 => match pBounds 0 0 true lo hi mx with
        | some _ => some (.slice none 0 0)
        | none => none
      | .slice (some ⟨b, o, none⟩) len cap => match Nat.beq cap unk with
        | false => match Nat.ble len cap, Nat.blt cap unk, pBounds len cap true lo hi mx with
          | true, true, some (l, h, some k) => some (.slice (some ⟨b, adv k l o ie.size, none⟩) (h - l) (k - l))
          | _, _, _ => none
        | true => match pBounds len len false lo hi mx with
          | some (l, h, some k) => match Nat.blt k unk with
            | true => some (.slice (some ⟨b, adv k l o ie.size, none⟩) (h - l) (k - l))
            | false => none
          | some (l, h, none) => match hp.get b with
            | some (.cells esz _) => match Nat.beq esz ie.size with
              | true => some (.slice (some ⟨b, o + l * ie.size, none⟩) (h - l) unk)
              | false => none
            | _ => none
          | none => none
      | _ => none
  | some (_, .array n e) => match T.ty.get e with
    | none => none
    | some (ie, _) => match x with
      | .pointer (some ⟨b, o, none⟩) => match Nat.blt n unk, pBounds n n true lo hi mx with
        | true, some (l, h, some k) => some (.slice (some ⟨b, adv k l o ie.size, none⟩) (h - l) (k - l))
        | _, _ => none
      | _ => none
  | _ => none

omit [SemC] in
theorem extract_bytes (bs : List UInt8) (l h : Nat) : (⟨⟨bs⟩⟩ : ByteArray).extract l h = ⟨⟨(bs.drop l).take (h - l)⟩⟩ := by
  apply ByteArray.ext
  apply Array.ext'
  simp [ByteArray.data_extract]

theorem pSlice_sound {P : Program} {T : Tbl} (hT : TblOK P T) {θ : Th} {hp : Tr AO} {w : World} (hR : RO θ hp w.heap) {t : TypeId} {x x' v : Value} {lo hi mx lo' hi' mx' : Option Value}
    (hx : VR θ x x') (hlo : OR' θ lo lo') (hhi : OR' θ hi hi') (hmx : OR' θ mx mx') (h : pSlice T hp t x lo hi mx = some v) :
    ∃ v', (Instr.sliceAt t x' lo' hi' mx').run P w = .ok v' w ∧ VR θ v v' := by
  unfold pSlice at h
  split at h
  · rename_i it ht
    split at h
    · rename_i bs
      split at h
      · rename_i l h0 m hb
        cases h
        cases hx
        cases mx' with
        | some _ => exact hmx.elim
        | none =>
          obtain ⟨m', h1, _⟩ := pBounds_sound (P := P) hlo hhi hmx (Nat.le_refl bs.length) (fun _ => rfl) (Nat.le_refl _) w false hb
          refine ⟨_, ?_, .str _⟩
          simp only [Instr.sliceAt, Instr.slice, Sem.run_bind, run_und hT ht, Result.andThen_ok, Option.isSome_none, Bool.false_eq_true, if_false]
          rw [show (⟨⟨bs⟩⟩ : ByteArray).size = bs.length from rfl, h1]
          simp [extract_bytes]
      · cases h
    · cases h
  · rename_i it e ht
    split at h
    · cases h
    · rename_i ie de he
      have hs := run_siz hT he w
      split at h
      · split at h
        · rename_i r hb
          cases h
          cases hx
          obtain ⟨l, h0, m⟩ := r
          obtain ⟨m', h1, h2, h3, h4, _⟩ := pBounds_sound (P := P) hlo hhi hmx (Nat.le_refl 0) (fun _ => rfl) (Nat.le_refl _) w true hb
          refine ⟨_, ?_, .slN⟩
          have : m' = 0 ∧ l = 0 ∧ h0 = 0 := by omega
          obtain ⟨rfl, rfl, rfl⟩ := this
          simp [Instr.sliceAt, Instr.slice, run_und hT ht, h1, hs]
        · cases h
      · rename_i b o len cap
        split at h
        · rename_i hcap
          have hcap' := Nat.ne_of_beq_eq_false hcap
          split at h
          · rename_i l h0 k c1 c2 hb
            have c1' := Nat.le_of_ble_eq_true c1
            have c2' := blt_spec c2
            cases h
            obtain ⟨m', h1, h2, h3, h4, h5, _⟩ := pBounds_sound (P := P) hlo hhi hmx (Nat.le_refl cap) (fun _ => rfl) c1' w true hb
            have h5' := h5 k rfl
            subst h5'
            have key : ∀ a : Addr, (Instr.sliceAt t (.slice (some a) len cap) lo' hi' mx').run P w = .ok (.slice (some (if m' = l then a else a.add (l * ie.size))) (h0 - l) (m' - l)) w := fun a => by
              simp only [Instr.sliceAt, Instr.slice, Sem.run_bind, run_und hT ht, Result.andThen_ok, h1, hs, Sem.run_pure]
              split <;> rfl
            cases hx with
            | sl hp' _ =>
              rename_i p
              refine ⟨_, key _, ?_⟩
              have hk : m' - l ≠ unk := by omega
              unfold adv
              cases hkl : Nat.beq m' l with
              | true => rw [if_pos (Nat.eq_of_beq_eq_true hkl)]; exact .sl hp' hk
              | false =>
                rw [if_neg (Nat.ne_of_beq_eq_false hkl), Addr.add_lit, Nat.add_assoc]
                exact .sl hp' hk
            | slU => exact absurd rfl hcap'
            | slZ hc =>
              have : cap = 0 := hc.resolve_left hcap'
              subst this
              refine ⟨_, key _, ?_⟩
              have : m' = 0 ∧ l = 0 ∧ h0 = 0 := by omega
              obtain ⟨rfl, rfl, rfl⟩ := this
              exact .slZ (.inr rfl)
          · cases h
        · rename_i hcap
          have hcap' := Nat.eq_of_beq_eq_true hcap
          subst hcap'
          have key : ∀ (a : Addr) (cap' l h0 m' : Nat), (Instr.sliceBounds true len cap' lo' hi' mx').run P w = .ok (l, h0, m') w →
              (Instr.sliceAt t (.slice (some a) len cap') lo' hi' mx').run P w = .ok (.slice (some (if m' = l then a else a.add (l * ie.size))) (h0 - l) (m' - l)) w := fun a cap' l h0 m' h1 => by
            simp only [Instr.sliceAt, Instr.slice, Sem.run_bind, run_und hT ht, Result.andThen_ok, h1, hs, Sem.run_pure]
            split <;> rfl
          split at h
          · rename_i l h0 k hb
            split at h
            · rename_i hk
              have hk' := blt_spec hk
              cases h
              have hk2 : k - l ≠ unk := by omega
              cases hx with
              | sl _ hc => exact absurd rfl hc
              | slU hp' hle hroom =>
                rename_i p cap'
                obtain ⟨m', h1, h2, h3, h4, h5, _⟩ := pBounds_sound (P := P) hlo hhi hmx hle (fun e => by cases e) (Nat.le_refl _) w true hb
                have h5' := h5 k rfl
                subst h5'
                refine ⟨_, key _ _ _ _ _ h1, ?_⟩
                unfold adv
                cases hkl : Nat.beq m' l with
                | true => rw [if_pos (Nat.eq_of_beq_eq_true hkl)]; exact .sl hp' hk2
                | false =>
                  rw [if_neg (Nat.ne_of_beq_eq_false hkl), Addr.add_lit, Nat.add_assoc]
                  exact .sl hp' hk2
              | slZ _ =>
                obtain ⟨m', h1, h2, h3, h4, h5, _⟩ := pBounds_sound (P := P) hlo hhi hmx (Nat.le_refl 0) (fun e => by cases e) (Nat.le_refl _) w true hb
                have h5' := h5 k rfl
                subst h5'
                refine ⟨_, key _ _ _ _ _ h1, ?_⟩
                have : m' = 0 ∧ l = 0 ∧ h0 = 0 := by omega
                obtain ⟨rfl, rfl, rfl⟩ := this
                exact .slZ (.inr rfl)
            · cases h
          · rename_i l h0 hb
            split at h
            · rename_i esz vs hg
              split at h
              · rename_i hez
                have hez' := Nat.eq_of_beq_eq_true hez
                cases h
                cases hx with
                | sl _ hc => exact absurd rfl hc
                | slU hp' hle hroom =>
                  rename_i p cap'
                  obtain ⟨m', h1, h2, h3, h4, _, h6⟩ := pBounds_sound (P := P) hlo hhi hmx hle (fun e => by cases e) (Nat.le_refl _) w true hb
                  obtain ⟨h7, h8⟩ := h6 rfl
                  subst h8
                  refine ⟨_, key _ _ _ _ _ h1, ?_⟩
                  obtain ⟨q, hq, hee, _⟩ := hR.obj _ _ hg
                  rw [hp'] at hq; cases hq
                  by_cases hml : m' = l
                  · rw [if_pos hml]
                    have : h0 = l := by omega
                    subst this; subst hml
                    rw [Nat.sub_self]
                    exact .slZ (.inl rfl)
                  · rw [if_neg hml, Addr.add_lit, Nat.add_assoc]
                    refine .slU hp' (by omega) ?_
                    have e1 : (m' - l) * p.esz + l * p.esz = m' * p.esz := by rw [← Nat.add_mul, Nat.sub_add_cancel (by omega)]
                    rw [← hez', ← hee]
                    omega
                | slZ _ =>
                  obtain ⟨m', h1, h2, h3, h4, _, h6⟩ := pBounds_sound (P := P) hlo hhi hmx (Nat.le_refl 0) (fun e => by cases e) (Nat.le_refl _) w true hb
                  refine ⟨_, key _ _ _ _ _ h1, ?_⟩
                  have : m' = 0 ∧ l = 0 ∧ h0 = 0 := by omega
                  obtain ⟨rfl, rfl, rfl⟩ := this
                  exact .slZ (.inl rfl)
              · cases h
            · cases h
          · cases h
      · cases h
  · rename_i it n e ht
    split at h
    · cases h
    · rename_i ie de he
      have hs := run_siz hT he w
      split at h
      · rename_i b o
        split at h
        · rename_i l h0 k c2 hb
          have c2' := blt_spec c2
          cases h
          cases hx with
          | ptr hp' =>
            rename_i p
            obtain ⟨m', h1, h2, h3, h4, h5, _⟩ := pBounds_sound (P := P) (len := n) (y := n) (y' := n) (known := true) hlo hhi hmx (Nat.le_refl n) (fun _ => rfl) (Nat.le_refl n) w false hb
            have h5' := h5 k rfl
            subst h5'
            refine ⟨.slice (some (if m' = l then ⟨p.cb, p.off + o, none⟩ else (⟨p.cb, p.off + o, none⟩ : Addr).add (l * ie.size))) (h0 - l) (m' - l), ?_, ?_⟩
            · simp only [Instr.sliceAt, Sem.run_bind, run_und hT ht, Result.andThen_ok, Instr.sureAddr, Sem.run_pure, h1, hs]
            · have hk : m' - l ≠ unk := by omega
              unfold adv
              cases hkl : Nat.beq m' l with
              | true => rw [if_pos (Nat.eq_of_beq_eq_true hkl)]; exact .sl hp' hk
              | false =>
                rw [if_neg (Nat.ne_of_beq_eq_false hkl), Addr.add_lit, Nat.add_assoc]
                exact .sl hp' hk
        · cases h
      · cases h
  · cases h

/-! ### Lengths, least and greatest -/
def pLen (T : Tbl) (hp : Tr AO) (t : TypeId) (x : Value) : Option Value :=
  match T.ty.get t with
  | none => none
  | some (_, d) => match d, x with
    | .string, .string ⟨⟨bs⟩⟩ => some (.int .i64 (.ofNat bs.length))
    | .slice _, .slice _ n _ => some (.int .i64 (.ofNat n))
    | .array n _, _ => some (.int .i64 (.ofNat n))
    | .map _ _, .map none => some (.int .i64 0)
    | .map _ _, .map (some b) => match hp.get b with
      | some (.map es _) => some (.int .i64 (.ofNat es.length))
      | _ => none
    | _, _ => none

theorem ER.length {θ : Th} : ∀ {es : List (Value × Value × Nat)} {es' : List MapEntry}, ER θ es es' → es.length = es'.length
  | _, _, .nil => rfl
  | _, _, .cons _ _ c => by simp [ER.length c]

theorem map_at {θ : Th} {hp : Tr AO} {w : World} (hR : RO θ hp w.heap) {b : Nat} {es : List (Value × Value × Nat)} {clock : Nat} (hg : hp.get b = some (.map es clock)) {p : Pl} (hp' : θ b = some p) :
    ∃ es' : Array MapEntry, w.heap[p.cb]? = some (.map es' clock) ∧ ER θ es es'.toList := by
  obtain ⟨q, hq, es', h1, h2⟩ := hR.obj b _ hg
  rw [hp'] at hq; cases hq
  exact ⟨es', h1, h2⟩

omit [SemC] in
theorem run_getMap {P : Program} {w : World} {r : Nat} {es : Array MapEntry} {c : Nat} (h : w.heap[r]? = some (.map es c)) : (getObj r).run P w = .ok (.map es c) w := by
  simp [getObj, Sem.run, h]

theorem pLen_sound {P : Program} {T : Tbl} (hT : TblOK P T) {θ : Th} {hp : Tr AO} {w : World} (hR : RO θ hp w.heap) {t ty : TypeId} {ts : List TypeId} {x x' v : Value} {rest : List Value} (hx : VR θ x x')
    (h : pLen T hp t x = some v) : ∃ v', (Builtin.len_ ⟨t :: ts⟩ ty ⟨x' :: rest⟩).run P w = .ok v' w ∧ VR θ v v' := by
  unfold pLen at h
  split at h
  · cases h
  · rename_i it d ht
    have hu := run_und hT ht w
    split at h
    · rename_i bs
      cases h; cases hx
      exact ⟨.int .i64 (Int.ofNat bs.length), by simp only [Builtin.len_, List.getElem?_toArray, List.getElem?_cons_zero, Sem.run_bind, hu, Result.andThen_ok]; rfl, .int _ _⟩
    · cases h
      cases hx <;> exact ⟨_, by simp [Builtin.len_, hu, goInt], .int _ _⟩
    · cases h
      exact ⟨_, by simp [Builtin.len_, hu, goInt], .int _ _⟩
    · cases h; cases hx
      exact ⟨_, by simp [Builtin.len_, hu, goInt], .int _ _⟩
    · split at h
      · rename_i es clock hg
        cases h
        cases hx with
        | map hp' =>
          obtain ⟨es', h1, h2⟩ := map_at hR hg hp'
          refine ⟨_, ?_, .int _ _⟩
          have hl := h2.length
          simp [Builtin.len_, hu, run_getMap h1, goInt, hl]
      · cases h
    · cases h

def pMax : List Value → Int → IntKind → Option Value
  | [], a, k => some (.int k a)
  | .int _ b :: r, a, k => pMax r (match decide (a < b) with | true => b | false => a) k
  | _ :: _, _, _ => none
def pMin : List Value → Int → IntKind → Option Value
  | [], a, k => some (.int k a)
  | .int _ b :: r, a, k => pMin r (match decide (b < a) with | true => b | false => a) k
  | _ :: _, _, _ => none
omit [SemC] in
theorem dmatch (p : Prop) [Decidable p] (a b : Int) : (match decide p with | true => a | false => b) = if p then a else b := by
  by_cases h : p <;> simp [h]
theorem pMax_sound {P : Program} {θ : Th} (w : World) : ∀ {l l' : List Value} (a : Int) (k : IntKind) (v : Value), LR θ l l' → pMax l a k = some v →
    (l'.foldlM Builtin.max2 (.int k a)).run P w = .ok v w ∧ cst v = true
  | _, _, a, k, v, .nil, h => by simp only [pMax, Option.some.injEq] at h; subst h; exact ⟨by simp, rfl⟩
  | _, _, a, k, v, .cons hv hr, h => by
    unfold pMax at h
    split at h
    · rename_i he; cases he
    · rename_i he
      cases he
      cases hv
      obtain ⟨h1, h2⟩ := pMax_sound w _ _ v hr h
      refine ⟨?_, h2⟩
      simp only [List.foldlM_cons, Builtin.max2, Sem.run_bind, Sem.run_pure, Result.andThen_ok]
      rw [← h1, dmatch]
    · cases h
theorem pMin_sound {P : Program} {θ : Th} (w : World) : ∀ {l l' : List Value} (a : Int) (k : IntKind) (v : Value), LR θ l l' → pMin l a k = some v →
    (l'.foldlM Builtin.min2 (.int k a)).run P w = .ok v w ∧ cst v = true
  | _, _, a, k, v, .nil, h => by simp only [pMin, Option.some.injEq] at h; subst h; exact ⟨by simp, rfl⟩
  | _, _, a, k, v, .cons hv hr, h => by
    unfold pMin at h
    split at h
    · rename_i he; cases he
    · rename_i he
      cases he
      cases hv
      obtain ⟨h1, h2⟩ := pMin_sound w _ _ v hr h
      refine ⟨?_, h2⟩
      simp only [List.foldlM_cons, Builtin.min2, Sem.run_bind, Sem.run_pure, Result.andThen_ok]
      rw [← h1, dmatch]
    · cases h

def pExtract (ix : Nat) : Value → Option Value
  | .tuple ⟨vs⟩ => vs[ix]?
  | _ => none
theorem pExtract_sound {P : Program} {θ : Th} {ix : Nat} {x x' v : Value} (hx : VR θ x x') (w : World) (h : pExtract ix x = some v) : ∃ v', (Instr.extract x' ix).run P w = .ok v' w ∧ VR θ v v' := by
  unfold pExtract at h
  split at h
  · cases hx with
    | tuple hl =>
      obtain ⟨v', h1, h2⟩ := hl.get _ _ h
      exact ⟨v', by simp [Instr.extract, h1], h2⟩
  · cases h

def pNil : Value → Option Value
  | .pointer (some a) => some (.pointer (some a))
  | .func (.func f) fs cs => some (.func (.func f) fs cs)
  | .func (.yield l) fs cs => some (.func (.yield l) fs cs)
  | _ => none
theorem pNil_sound {P : Program} {θ : Th} {ρ : Operand → Value} {o : Oper} {y : Operand} {x v : Value} (ho : o.op = .nilCheck y) (hx : VR θ x (ρ y)) (w : World) (h : pNil x = some v) :
    ∃ v', (execOp ρ o).run P w = .ok (.value v') w ∧ VR θ v v' := by
  unfold pNil at h
  split at h
  all_goals first | (cases h; done) | skip
  all_goals
    cases h
    refine ⟨ρ y, ?_, hx⟩
    generalize hz : ρ y = z at hx ⊢
    cases hx
    all_goals simp [execOp, ho, hz]

/-! ### Maps: keys, finding, reading -/
def keyOkF (T : Tbl) (rec : TypeId → Value → Bool) : List Field → List Value → Bool
  | [], _ => true
  | f :: fs, cs => match decide (f.name = "_") with
    | true => keyOkF T rec fs cs
    | false => match pPart T f.type cs f.offset with
      | some v => match rec f.type v with
        | true => keyOkF T rec fs cs
        | false => false
      | none => false
def keyOk (T : Tbl) : Nat → TypeId → Value → Bool
  | 0, _, _ => false
  | n + 1, t, v => match T.ty.get t with
    | none => false
    | some (_, d) => match d, v with
      | .struct fs, .agg ⟨cs⟩ => keyOkF T (keyOk T n) fs.toList cs
      | .int _, _ => true
      | .string, _ => true
      | .bool, _ => true
      | .pointer _, _ => true
      | _, _ => false

theorem keyOk_sound {P : Program} {T : Tbl} (hT : TblOK P T) {θ : Th} (w : World) (empty : Bool) : ∀ (n m : Nat) (t : TypeId) (v v' : Value), n ≤ m → keyOk T n t v = true → VR θ v v' →
    (Instr.checkKey empty m t v').run P w = .ok () w
  | 0, _, _, _, _, _, h, _ => by simp [keyOk] at h
  | n + 1, 0, _, _, _, hle, _, _ => by omega
  | n + 1, m + 1, t, v, v', hle, h, hv => by
    simp only [keyOk] at h
    split at h
    · cases h
    · rename_i it d ht
      have hu := run_und hT ht w
      split at h
      · rename_i fs cs
        cases hv with
        | agg hl =>
          rename_i cs'
          simp only [Instr.checkKey, Sem.run_bind, hu, Result.andThen_ok]
          rw [← Array.forIn_toList]
          generalize fs.toList = l at h
          induction l with
          | nil => simp
          | cons f fs ih =>
            simp only [keyOkF] at h
            split at h
            · rename_i hn
              have hn' : f.name = "_" := by simpa using hn
              simp only [List.forIn_cons, hn', ne_eq, not_true_eq_false, if_false, Sem.run_bind, Sem.run_pure, Result.andThen_ok]
              exact ih h
            · rename_i hn
              have hn' : f.name ≠ "_" := by simpa using hn
              split at h
              · rename_i x hx
                split at h
                · rename_i hk
                  obtain ⟨x', h1, h2⟩ := pPart_sound hT hl w hx
                  have := keyOk_sound hT w empty n m f.type x x' (by omega) hk h2
                  simp only [List.forIn_cons, hn', ne_eq, not_false_eq_true, if_true, Sem.run_bind, h1, this, Sem.run_pure, Result.andThen_ok]
                  exact ih h
                · cases h
              · cases h
      all_goals first
        | (simp only [Instr.checkKey, Sem.run_bind, hu, Result.andThen_ok]; rfl)
        | cases h

def findK (T : Tbl) (kt : TypeId) (k : Value) : List (Value × Value × Nat) → Nat → Option (Option (Nat × Value))
  | [], _ => some none
  | (k', v, _) :: es, i => match veq T 50 kt k k' with
    | some true => some (some (i, v))
    | some false => findK T kt k es (i + 1)
    | none => none

theorem veq_sameNow {T : Tbl} {θ : Th} {n : Nat} {t : TypeId} {i : TypeInfo} {d : TypeDesc} {x y x' y' : Value} {r b : Bool} (ht : T.ty.get t = some (i, d)) (h : veq T (n + 1) t x y = some r) (hx : VR θ x x') (hy : VR θ y y')
    (hb : Instr.sameNow d x' y' = some b) : b = r := by
  simp only [veq, ht] at h
  split at h
  · cases h; cases hx; cases hy; simpa [Instr.sameNow] using hb.symm
  · split at h
    · rename_i hk
      have hk' := of_decide_eq_true hk
      cases h; cases hx; cases hy
      subst hk'
      simp only [Instr.sameNow, if_true, Option.some.injEq] at hb
      rw [← hb]; rfl
    · cases h
  · cases h; cases hx; cases hy
    simp only [Instr.sameNow, Option.some.injEq] at hb
    rw [← hb, beq_toListBytes, toList_beq]
  all_goals first
    | (cases hx <;> simp [Instr.sameNow] at hb; done)
    | (cases h; done)
    | (split at h <;> first | (cases hx; simp [Instr.sameNow] at hb; done) | cases h)

def KR (θ : Th) : Option (Nat × Value) → Option (Nat × Value) → Prop
  | none, none => True
  | some (j, v), some (j', v') => j = j' ∧ VR θ v v'
  | _, _ => False
theorem findK_sound {P : Program} {T : Tbl} (hT : TblOK P T) {θ : Th} (w : World) {kt : TypeId} {it : TypeInfo} {d : TypeDesc} (ht : T.ty.get kt = some (it, d)) {k k' : Value} (hk : VR θ k k') :
    ∀ {es : List (Value × Value × Nat)} {es' : List MapEntry} (i : Nat) (r : Option (Nat × Value)), ER θ es es' → findK T kt k es i = some r →
    ∃ r', (Instr.findAsking kt k' es' i).run P w = .ok r' w ∧ (∀ x, Instr.findNow d k' es' i = some x → x = r') ∧ KR θ r r'
  | _, _, i, r, .nil, h => by
    simp only [findK, Option.some.injEq] at h; subst h
    exact ⟨none, by simp [Instr.findAsking], fun x hx => by simpa [Instr.findNow] using hx.symm, trivial⟩
  | _, _, i, r, .cons (k := q) (k' := q') (v := v) (v' := v') hq hv hr, h => by
    simp only [findK] at h
    split at h
    · rename_i he
      cases h
      have h1 : (Op.equal kt k' q').run P w = .ok true w := veq_sound hT w 50 10000 kt k q k' q' true (by omega) he hk hq
      refine ⟨some (i, v'), by simp [Instr.findAsking, h1], ?_, rfl, hv⟩
      intro x hx
      simp only [Instr.findNow] at hx
      cases hs : Instr.sameNow d k' q' with
      | none => simp [hs] at hx
      | some b =>
        have := veq_sameNow (n := 49) ht he hk hq hs
        subst this
        simpa [hs] using hx.symm
    · rename_i he
      have h1 : (Op.equal kt k' q').run P w = .ok false w := veq_sound hT w 50 10000 kt k q k' q' false (by omega) he hk hq
      obtain ⟨r', h2, h3, h4⟩ := findK_sound hT w ht hk (i + 1) r hr h
      refine ⟨r', by simp [Instr.findAsking, h1, h2], ?_, h4⟩
      intro x hx
      simp only [Instr.findNow] at hx
      cases hs : Instr.sameNow d k' q' with
      | none => simp [hs] at hx
      | some b =>
        have := veq_sameNow (n := 49) ht he hk hq hs
        subst this
        exact h3 x (by simpa [hs] using hx)
    · cases h

theorem findKey_sound {P : Program} {T : Tbl} (hT : TblOK P T) {θ : Th} (w : World) {kt : TypeId} {it : TypeInfo} {d : TypeDesc} (ht : T.ty.get kt = some (it, d)) {k k' : Value} (hk : VR θ k k')
    {es : List (Value × Value × Nat)} {es' : List MapEntry} {r : Option (Nat × Value)} (he : ER θ es es') (h : findK T kt k es 0 = some r) :
    ∃ r', (Instr.findKey kt k' es').run P w = .ok r' w ∧ KR θ r r' := by
  obtain ⟨r', h1, h2, h3⟩ := findK_sound hT w ht hk 0 r he h
  refine ⟨r', ?_, h3⟩
  simp only [Instr.findKey, Sem.run_bind, run_und hT ht, Result.andThen_ok]
  cases hn : Instr.findNow d k' es' 0 with
  | none => simpa using h1
  | some x => have := h2 x hn; subst this; rfl

def pLookup (T : Tbl) (hp : Tr AO) (t : TypeId) (m k : Value) (ok : Bool) : Option Value :=
  match T.ty.get t with
  | some (_, .map kt et) => match T.ty.get kt, T.ty.get et with
    | some _, some (ie, _) => match ie.zero with
      | none => none
      | some z => match cst z, keyOk T 50 kt k, (match m with
          | .map none => some []
          | .map (some b) => match hp.get b with
            | some (.map es _) => some es
            | _ => none
          | _ => none) with
        | true, true, some es => match findK T kt k es 0 with
          | some (some (_, v)) => some (match ok with | true => .tuple ⟨[v, .bool true]⟩ | false => v)
          | some none => some (match ok with | true => .tuple ⟨[z, .bool false]⟩ | false => z)
          | none => none
        | _, _, _ => none
    | _, _ => none
  | _ => none

theorem pLookup_sound {P : Program} {T : Tbl} (hT : TblOK P T) {θ : Th} {hp : Tr AO} {w : World} (hR : RO θ hp w.heap) {t : TypeId} {m k m' k' v : Value} {ok : Bool} (hm : VR θ m m') (hk : VR θ k k')
    (h : pLookup T hp t m k ok = some v) : ∃ v', (Instr.lookup t m' k' ok).run P w = .ok v' w ∧ VR θ v v' := by
  unfold pLookup at h
  split at h
  · rename_i it kt et ht
    split at h
    · rename_i ik ie de hkt het
      obtain ⟨ik, dk⟩ := ik
      split at h
      · cases h
      · rename_i z hz
        split at h
        · rename_i es hc hko hes
          have hes' : ∃ es' : Array MapEntry, ER θ es es'.toList ∧ ((m' = .map none ∧ es' = #[]) ∨ ∃ r c, m' = .map (some r) ∧ w.heap[r]? = some (.map es' c)) := by
            split at hes
            · cases hes; cases hm; exact ⟨#[], .nil, .inl ⟨rfl, rfl⟩⟩
            · split at hes
              · rename_i es0 c hg
                cases hes
                cases hm with
                | map hp' =>
                  obtain ⟨es', h1, h2⟩ := map_at hR hg hp'
                  exact ⟨es', h2, .inr ⟨_, _, rfl, h1⟩⟩
              · cases hes
            · cases hes
          obtain ⟨es', he2, he1⟩ := hes'
          have hck := fun e => keyOk_sound hT w e 50 10000 kt k k' (by omega) hko hk
          have hzr := run_zer hT het w hz
          have hzv := VR.of_cst θ z hc
          clear hes hm
          split at h
          · rename_i j x hf
            obtain ⟨r', h1, h2⟩ := findKey_sound hT w hkt hk he2 hf
            cases r' with
            | none => exact h2.elim
            | some y =>
              obtain ⟨j', x'⟩ := y
              obtain ⟨rfl, hx⟩ := h2
              cases h
              refine ⟨match ok with | true => .tuple ⟨[x', .bool true]⟩ | false => x', ?_, ?_⟩
              · rcases he1 with ⟨rfl, rfl⟩ | ⟨r, c, rfl, he1⟩
                · cases ok <;> simp [Instr.lookup, run_und hT ht, hck, h1]
                · cases ok <;> simp [Instr.lookup, run_und hT ht, run_getMap he1, hck, h1]
              · cases ok
                · exact hx
                · exact .tuple (.cons hx (.cons (.bool _) .nil))
          · rename_i hf
            obtain ⟨r', h1, h2⟩ := findKey_sound hT w hkt hk he2 hf
            cases r' with
            | some y => exact h2.elim
            | none =>
              cases h
              refine ⟨match ok with | true => .tuple ⟨[z, .bool false]⟩ | false => z, ?_, ?_⟩
              · rcases he1 with ⟨rfl, rfl⟩ | ⟨r, c, rfl, he1⟩
                · cases ok <;> simp [Instr.lookup, run_und hT ht, hck, h1, hzr]
                · cases ok <;> simp [Instr.lookup, run_und hT ht, run_getMap he1, hck, h1, hzr]
              · cases ok
                · exact hzv
                · exact .tuple (.cons hzv (.cons (.bool _) .nil))
          · cases h
        · cases h
    · cases h
  · cases h

/-! ### Iterators -/
def pEntry (hp : Tr AO) : Value → Option Value
  | .pointer (some ⟨r, 0, none⟩) => match hp.get r with
    | some (.miter (some m) _ seen stepped) => match hp.get m, seen.getLast? with
      | some (.map es clock), some stamp => match Nat.beq clock stepped with
        | true => match es.find? (fun e => Nat.beq e.2.2 stamp) with
          | some e => some (.tuple ⟨[e.1, e.2.1]⟩)
          | none => none
        | false => none
      | _, _ => none
    | _ => none
  | _ => none

theorem ER.find {θ : Th} {stamp : Nat} : ∀ {es : List (Value × Value × Nat)} {es' : List MapEntry} {e : Value × Value × Nat}, ER θ es es' → es.find? (fun e => Nat.beq e.2.2 stamp) = some e →
    ∃ e', es'.find? (fun e => e.born == stamp) = some e' ∧ VR θ e.1 e'.key ∧ VR θ e.2.1 e'.val
  | _, _, _, .nil, h => by simp at h
  | _, _, e, .cons (k' := k') (v' := v') (b := b) hk hv hr, h => by
    simp only [List.find?_cons] at h ⊢
    cases hb : Nat.beq b stamp with
    | true =>
      rw [hb] at h; cases h
      have := Nat.eq_of_beq_eq_true hb
      subst this
      exact ⟨⟨k', v', b⟩, by simp, hk, hv⟩
    | false =>
      rw [hb] at h
      have := Nat.ne_of_beq_eq_false hb
      obtain ⟨e', h1, h2⟩ := ER.find hr h
      have hbe : (b == stamp) = false := by simpa using this
      exact ⟨e', by simp [hbe, h1], h2⟩

theorem pEntry_sound {P : Program} {θ : Th} {hp : Tr AO} {w : World} (hR : RO θ hp w.heap) {x x' v : Value} (hx : VR θ x x') (h : pEntry hp x = some v) :
    ∃ v', (Instr.entry x').run P w = .ok v' w ∧ VR θ v v' := by
  unfold pEntry at h
  split at h
  · rename_i r
    split at h
    · rename_i m since seen stepped hg
      split at h
      · rename_i es clock stamp hm hs
        split at h
        · rename_i hc
          have hc' := Nat.eq_of_beq_eq_true hc
          subst hc'
          split at h
          · rename_i e hf
            cases h
            cases hx with
            | ptr hp' =>
              rename_i p
              obtain ⟨q, hq, ho, mq, h1, h2⟩ := hR.obj _ _ hg
              rw [hp'] at hq; cases hq
              obtain ⟨es', h3, h4⟩ := map_at hR hm h1
              obtain ⟨e', h5, h6, h7⟩ := h4.find hf
              refine ⟨.tuple #[e'.key, e'.val], ?_, .tuple (.cons h6 (.cons h7 .nil))⟩
              have hb : (⟨seen⟩ : Array Nat).back? = some stamp := by simpa [Array.back?_eq_getElem?, List.getLast?_eq_getElem?] using hs
              have hgo : (getObj p.cb).run P w = .ok (.mapIter (some mq.cb) since ⟨seen⟩ clock) w := by simp [getObj, Sem.run, h2]
              have hfe : es'.find? (fun e => e.born == stamp) = some e' := by rw [← Array.find?_toList]; exact h5
              simp [Instr.entry, ho, hgo, hb, run_getMap h3, hfe]
          · cases h
        · cases h
      · cases h
    · cases h
  · cases h

def pRange (T : Tbl) (hp : Tr AO) (t : TypeId) (x : Value) : Option PR :=
  match T.ty.get t, x with
  | some (_, .string), .string s => some (.new (.siter s 0) mkPtr)
  | some (_, .map _ _), .map none => some (.new (.miter none 0 [] 0) mkPtr)
  | some (_, .map _ _), .map (some b) => match hp.get b with
    | some (.map _ clock) => some (.new (.miter (some b) clock [] clock) mkPtr)
    | _ => none
  | _, _ => none
theorem pRange_sound {P : Program} {T : Tbl} (hT : TblOK P T) {θ : Th} {hp : Tr AO} {w : World} (hR : RO θ hp w.heap) {t : TypeId} {x x' : Value} {r : PR} (hx : VR θ x x') (h : pRange T hp t x = some r) :
    PRok P θ w (Instr.range t x') r := by
  unfold pRange at h
  split at h
  · rename_i it s ht
    cases h; cases hx
    refine ⟨.stringIter s 0, ⟨w.heap.size, 0, 0, 0, undef⟩, .pointer (some ⟨w.heap.size, 0, none⟩), rfl, rfl, by simp [Instr.range, run_und hT ht], ?_⟩
    intro b θ' _ hb
    exact ⟨by have := VR.ptr (o := 0) hb; simpa [mkPtr] using this, rfl, by simp⟩
  · rename_i it kt et ht
    cases h; cases hx
    refine ⟨.mapIter none 0 #[] 0, ⟨w.heap.size, 0, 0, 0, undef⟩, .pointer (some ⟨w.heap.size, 0, none⟩), rfl, rfl, by simp [Instr.range, run_und hT ht], ?_⟩
    intro b θ' _ hb
    exact ⟨by have := VR.ptr (o := 0) hb; simpa [mkPtr] using this, rfl, by simp⟩
  · rename_i it kt et ht
    split at h
    · rename_i es clock hg
      cases h
      cases hx with
      | map hp' =>
        rename_i p
        obtain ⟨es', h1, h2⟩ := map_at hR hg hp'
        refine ⟨.mapIter (some p.cb) clock #[] clock, ⟨w.heap.size, 0, 0, 0, undef⟩, .pointer (some ⟨w.heap.size, 0, none⟩), rfl, rfl, by simp [Instr.range, run_und hT ht, run_getMap h1], ?_⟩
        intro b θ' hE hb
        exact ⟨by have := VR.ptr (o := 0) hb; simpa [mkPtr] using this, rfl, p, hE _ _ hp', by simp⟩
    · cases h
  · cases h
end
end Go.Am
