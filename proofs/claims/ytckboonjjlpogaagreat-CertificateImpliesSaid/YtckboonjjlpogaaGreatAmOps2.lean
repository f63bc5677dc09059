/- Operations of the abstract machine: comparisons, arithmetic, conversions. -/
import Derived.Test.YtckboonjjlpogaaGreatAmOps
import Derived.Laws.ShiftsVar
set_option linter.unusedVariables false
set_option linter.unusedSimpArgs false
namespace Go.Am
noncomputable section
variable [SemC]

/-! ### Equality -/
def veqF (T : Tbl) (rec : TypeId → Value → Value → Option Bool) : List Field → List Value → List Value → Option Bool
  | [], _, _ => some true
  | f :: fs, xs, ys =>
    match decide (f.name = "_") with
    | true => veqF T rec fs xs ys
    | false => match pPart T f.type xs f.offset, pPart T f.type ys f.offset with
      | some a, some b => match rec f.type a b with
        | some true => veqF T rec fs xs ys
        | some false => some false
        | none => none
      | _, _ => none

def ptrEq (hp : Tr AO) (a b : Addr) : Option Bool :=
  match Nat.beq a.block b.block with
  | true => match a.spot, b.spot with
    | none, none => some (Nat.beq a.off b.off)
    | _, _ => none
  | false => match hp.get a.block, hp.get b.block with
    | some (.cells _ (_ :: _)), some (.cells _ (_ :: _)) => some false
    | _, _ => none

def veq (T : Tbl) : Nat → TypeId → Value → Value → Option Bool
  | 0, _, _, _ => none
  | n + 1, t, x, y =>
    match T.ty.get t with
    | none => none
    | some (_, d) => match d, x, y with
      | .bool, .bool a, .bool b => some (a == b)
      | .int _, .int k a, .int k' b => match decide (k = k') with
        | true => some (decide (a = b))
        | false => none
      | .string, .string a, .string b => some (a.data.toList == b.data.toList)
      | .pointer _, .pointer none, .pointer b => some b.isNone
      | .pointer _, .pointer (some _), .pointer none => some false
      | .slice _, .slice none _ _, .slice b _ _ => some b.isNone
      | .slice _, .slice (some _) _ _, .slice none _ _ => some false
      | .map _ _, .map none, .map b => some b.isNone
      | .map _ _, .map (some _), .map none => some false
      | .func _ _ _, .nilFunc, .nilFunc => some true
      | .func _ _ _, .nilFunc, .func (.func _) _ _ => some false
      | .func _ _ _, .func (.func _) _ _, .nilFunc => some false
      | .struct fs, .agg ⟨xs⟩, .agg ⟨ys⟩ => match T.eqs.get t with
        | some () => veqF T (veq T n) fs.toList xs ys
        | none => none
      | _, _, _ => none

omit [SemC] in
theorem toList_beq (a b : ByteArray) : (a.toList == b.toList) = (a.data.toList == b.data.toList) := by
  rw [← beq_toListBytes]
  cases a with
  | mk x => cases b with
    | mk y => 
      obtain ⟨x⟩ := x
      obtain ⟨y⟩ := y
      show ((⟨x⟩ : Array UInt8) == ⟨y⟩) = (x == y)
      simp

theorem veqF_sound {P : Program} {T : Tbl} (hT : TblOK P T) {θ : Th} (w : World) {n m : Nat} (hrec : ∀ t x y x' y' r, veq T n t x y = some r → VR θ x x' → VR θ y y' → (Op.equalIn m t x' y').run P w = .ok r w)
    {xs ys xs' ys' : List Value} (hx : LR θ xs xs') (hy : LR θ ys ys') : ∀ (fs : List Field) (r : Bool), veqF T (veq T n) fs xs ys = some r → (Op.eqFields m ⟨xs'⟩ ⟨ys'⟩ fs).run P w = .ok r w
  | [], r, h => by simp only [veqF, Option.some.injEq] at h; subst h; simp [Op.eqFields]
  | f :: fs, r, h => by
    simp only [veqF] at h
    split at h
    · rename_i hn
      have hn' : f.name = "_" := by simpa using hn
      simp only [Op.eqFields, hn', ne_eq, not_true_eq_false, if_false]
      exact veqF_sound hT w hrec hx hy fs r h
    · rename_i hn
      have hn' : f.name ≠ "_" := by simpa using hn
      split at h
      · rename_i a b ha hb
        obtain ⟨a', ra, va⟩ := pPart_sound hT hx w ha
        obtain ⟨b', rb, vb⟩ := pPart_sound hT hy w hb
        split at h
        · rename_i hr
          simp only [Op.eqFields, hn', ne_eq, not_false_eq_true, if_true, Sem.run_bind, ra, rb, Result.andThen_ok, hrec _ _ _ _ _ _ hr va vb]
          simpa using veqF_sound hT w hrec hx hy fs r h
        · rename_i hr
          cases h
          simp [Op.eqFields, hn', ra, rb, hrec _ _ _ _ _ _ hr va vb]
        · cases h
      · cases h

set_option maxHeartbeats 1000000 in
theorem veq_sound {P : Program} {T : Tbl} (hT : TblOK P T) {θ : Th} (w : World) : ∀ (n m : Nat) (t : TypeId) (x y x' y' : Value) (r : Bool), n ≤ m → veq T n t x y = some r → VR θ x x' → VR θ y y' →
    (Op.equalIn m t x' y').run P w = .ok r w
  | 0, _, _, _, _, _, _, _, _, h, _, _ => by simp [veq] at h
  | n + 1, 0, _, _, _, _, _, _, hle, _, _, _ => by omega
  | n + 1, m + 1, t, x, y, x', y', r, hle, h, hx, hy => by
    simp only [veq] at h
    split at h
    · cases h
    · rename_i i d ht
      have hu := run_und hT ht w
      split at h
      · cases h; cases hx; cases hy; simp [Op.equalIn, hu]
      · split at h
        · rename_i hk
          cases h; cases hx; cases hy
          have hk' := of_decide_eq_true hk
          subst hk'
          simp only [Op.equalIn, Sem.run_bind, hu, Result.andThen_ok, if_true]
          rfl
        · cases h
      · cases h; cases hx; cases hy
        rename_i a b
        have := toList_beq a b
        simp only [Op.equalIn, Sem.run_bind, hu, Result.andThen_ok, Sem.run_pure]
        rw [beq_toListBytes, this]
      · cases h; cases hx; cases hy <;> simp [Op.equalIn, hu]
      · cases h; cases hx; cases hy; simp [Op.equalIn, hu]
      · cases h; cases hx; cases hy <;> simp [Op.equalIn, hu]
      · cases h; cases hx <;> (cases hy; simp [Op.equalIn, hu])
      · cases h; cases hx; cases hy <;> simp [Op.equalIn, hu]
      · cases h; cases hx; cases hy; simp [Op.equalIn, hu]
      · cases h; cases hx; cases hy; simp [Op.equalIn, hu]
      · cases h; cases hx; cases hy <;> simp [Op.equalIn, hu]
      · cases h; cases hy; cases hx <;> simp [Op.equalIn, hu]
      · split at h
        · rename_i he
          cases hx with
          | agg lx => cases hy with
            | agg ly =>
              have hst := (hT.eqs t he).1
              have hun := (hT.ty t _ _ ht).2
              have hfo : ∀ fs, P.underlying t = some (.struct fs) → P.fieldsOf t = fs := fun fs e => by simp [Program.fieldsOf, e]
              rw [run_equalIn_struct w m t _ _ (by rw [hfo _ hun]; exact hun) hst, hfo _ hun]
              exact veqF_sound hT w (fun t x y x' y' r h1 h2 h3 => veq_sound hT w n m t x y x' y' r (by omega) h1 h2 h3) lx ly _ r h
        · cases h
      · cases h

/-! ### Arithmetic -/
def wrapF (k : IntKind) (n : Int) : Int :=
  match k with
  | .i64 => match decide (-4611686018427387904 ≤ n), decide (n ≤ 4611686018427387904) with
    | true, true => n
    | _, _ => IntKind.wrap .i64 n
  | k => k.wrap n
omit [SemC] in
theorem wrap_i64 (n : Int) : IntKind.wrap .i64 n = if 9223372036854775808 ≤ n % 18446744073709551616 then n % 18446744073709551616 - 18446744073709551616 else n % 18446744073709551616 := by
  simp [IntKind.wrap, IntKind.bits, IntKind.signed]
omit [SemC] in
theorem wrapF_eq (k : IntKind) (n : Int) : wrapF k n = k.wrap n := by
  unfold wrapF
  split
  · split
    · rename_i h1 h2
      have h1' := of_decide_eq_true h1
      have h2' := of_decide_eq_true h2
      rw [wrap_i64]
      split <;> omega
    · rfl
  · rfl

def pInt (op : BinOp) (k : IntKind) (a b : Int) : Option Value :=
  match op with
  | .add => some (.int k (wrapF k (a + b)))
  | .sub => some (.int k (wrapF k (a - b)))
  | .mul => some (.int k (wrapF k (a * b)))
  | .quo => match decide (b = 0) with | true => none | false => some (.int k (wrapF k (a.tdiv b)))
  | .rem => match decide (b = 0) with | true => none | false => some (.int k (a.tmod b))
  | .eql => some (.bool (decide (a = b)))
  | .neq => some (.bool (!decide (a = b)))
  | .lss => some (.bool (decide (a < b)))
  | .leq => some (.bool (decide (a ≤ b)))
  | .gtr => some (.bool (decide (b < a)))
  | .geq => some (.bool (decide (b ≤ a)))
  | .and => some (.int k (k.wrap ((BitVec.ofInt k.bits a &&& BitVec.ofInt k.bits b).toNat)))
  | .or => some (.int k (k.wrap ((BitVec.ofInt k.bits a ||| BitVec.ofInt k.bits b).toNat)))
  | .xor => some (.int k (k.wrap ((BitVec.ofInt k.bits a ^^^ BitVec.ofInt k.bits b).toNat)))
  | .andNot => some (.int k (k.wrap ((BitVec.ofInt k.bits a &&& ~~~ BitVec.ofInt k.bits b).toNat)))
  | .shl | .shr => none

def pStr (op : BinOp) (x y : List UInt8) : Option Value :=
  match op with
  | .add => match Nat.ble (x.length + y.length) 1000000 with
    | true => some (.string ⟨⟨x ++ y⟩⟩)
    | false => none
  | .eql => some (.bool (x == y))
  | .neq => some (.bool (!(x == y)))
  | .lss => some (.bool (Op.bytesLess x y))
  | .leq => some (.bool (Op.bytesLess x y || (x == y)))
  | .gtr => some (.bool (!(Op.bytesLess x y || (x == y))))
  | .geq => some (.bool (!Op.bytesLess x y))
  | _ => none

/-- Shifts by a count from 0 to below the width. -/
def pShift (op : BinOp) (k : IntKind) (a : Int) (b : Int) : Option Value :=
  match b with
  | .ofNat n => match op with
    | .shr => match Nat.blt n k.bits with
      | true => some (.int k (a / 2 ^ n))
      | false => none
    | .shl => match Nat.blt n k.bits with
      | true => some (.int k (k.wrap (a * 2 ^ n)))
      | false => none
    | _ => none
  | _ => none

def simpleV : Value → Bool
  | .bool _ | .string _ | .pointer _ | .slice _ _ _ | .map _ | .func (.func _) _ _ | .nilFunc => true
  | _ => false
def pBin (T : Tbl) (op : BinOp) (t : TypeId) (x y : Value) : Option Value :=
  match x, y with
  | .int k a, .int k' b => match op with
    | .shl | .shr => pShift op k a b
    | op => match decide (k = k') with
      | true => pInt op k a b
      | false => none
  | .string ⟨⟨a⟩⟩, .string ⟨⟨b⟩⟩ => pStr op a b
  | x, y => match op with
    | .eql => match veq T 50 t x y with
      | some r => some (.bool r)
      | none => none
    | .neq => match veq T 50 t x y with
      | some r => some (.bool (!r))
      | none => none
    | _ => none

omit [SemC] in
theorem pInt_sound {P : Program} {op : BinOp} {k : IntKind} {a b : Int} {v : Value} (t : TypeId) (w : World) (h : pInt op k a b = some v) :
    (binOp op t (.int k a) (.int k b)).run P w = .ok v w := by
  unfold pInt at h
  cases op <;> simp only [wrapF_eq, Option.some.injEq, reduceCtorEq] at h
  case quo =>
    split at h
    · cases h
    · rename_i hb
      have hb' : b ≠ 0 := by simpa using hb
      cases h
      simp [binOp, Op.intDiv, hb']
  case rem =>
    split at h
    · cases h
    · rename_i hb
      have hb' : b ≠ 0 := by simpa using hb
      cases h
      simp [binOp, Op.intDiv, hb']
  all_goals
    subst h
    first
      | (simp [binOp, Op.intArith]; done)
      | (simp [binOp, Op.intBits]; done)
      | (simp [binOp, Op.intCmp]; done)
      | (simp only [binOp, Op.intCmp, ne_eq, not_true_eq_false, if_false, Sem.run_pure]; rfl)

omit [SemC] in
theorem pShift_sound {P : Program} {op : BinOp} {k k' : IntKind} {a b : Int} {v : Value} (t : TypeId) (w : World) (ho : op = .shl ∨ op = .shr) (h : pShift op k a b = some v) :
    (binOp op t (.int k a) (.int k' b)).run P w = .ok v w := by
  unfold pShift at h
  split at h
  · rename_i n
    split at h
    · split at h
      · rename_i hn
        have hn' := blt_spec hn
        cases h
        rw [show binOp .shr t (.int k a) (.int k' (Int.ofNat n)) = Op.shift .shr k a k' (Int.ofNat n) from rfl, shift_shr k k' a _ (by simp) (by simp; omega)]
        simp
      · cases h
    · split at h
      · rename_i hn
        have hn' := blt_spec hn
        cases h
        rw [show binOp .shl t (.int k a) (.int k' (Int.ofNat n)) = Op.shift .shl k a k' (Int.ofNat n) from rfl, shift_shl k k' a _ (by simp) (by simp; omega)]
        simp
      · cases h
    · rcases ho with rfl | rfl <;> contradiction
  · cases h

omit [SemC] in
theorem pStr_sound {P : Program} {op : BinOp} {a b : List UInt8} {v : Value} (t : TypeId) (w : World) (h : pStr op a b = some v) :
    (binOp op t (.string ⟨⟨a⟩⟩) (.string ⟨⟨b⟩⟩)).run P w = .ok v w := by
  unfold pStr at h
  have e : ∀ op, binOp op t (.string ⟨⟨a⟩⟩) (.string ⟨⟨b⟩⟩) = Op.stringOp op ⟨⟨a⟩⟩ ⟨⟨b⟩⟩ := fun op => by cases op <;> rfl
  rw [e]
  split at h <;> first | cases h | skip
  · split at h
    · rename_i hl
      have hl' := Nat.le_of_ble_eq_true hl
      cases h
      have : ¬ ((((⟨⟨a⟩⟩ : ByteArray).size + (⟨⟨b⟩⟩ : ByteArray).size : Nat) : Int) > IntKind.i64.max) := by
        simp [ByteArray.size]; omega
      simp only [Op.stringOp, this, if_false, Sem.run_pure]
      congr 2
    · cases h
  all_goals simp [Op.stringOp, ByteArray.toList_eq]

omit [SemC] in
theorem eqGuard_simple {P : Program} (op : BinOp) (t : TypeId) (x y : Operand) {u : Value} (v : Value) (w : World) (h : simpleV u = true) : (eqGuard op t x y u v).run P w = .ok () w := by
  cases u with
  | func fn a b => cases fn <;> first
    | (simp [simpleV] at h; done)
    | (cases op <;> rfl)
  | _ => first
    | (simp [simpleV] at h; done)
    | (cases op <;> rfl)

theorem simpleV_rel {θ : Th} {u u' : Value} (h : VR θ u u') (hs : simpleV u = true) : simpleV u' = true := by
  cases h <;> first | rfl | (simp [simpleV, apV] at hs)

omit [SemC] in
theorem veq_guard {T : Tbl} {n : Nat} {t : TypeId} {x y : Value} {r : Bool} (h : veq T (n + 1) t x y = some r) :
    simpleV x = true ∨ (∃ k a, x = .int k a) ∨ (∃ xs ys, x = .agg xs ∧ y = .agg ys ∧ T.eqs.get t = some ()) := by
  simp only [veq] at h
  split at h
  · cases h
  · split at h
    all_goals first
      | (left; rfl)
      | skip
    · exact .inr (.inl ⟨_, _, rfl⟩)
    · split at h
      · rename_i he; exact .inr (.inr ⟨_, _, rfl, rfl, he⟩)
      · cases h
    · cases h

omit [SemC] in
theorem pInt_cst {op : BinOp} {k : IntKind} {a b : Int} {v : Value} (h : pInt op k a b = some v) : cst v = true := by
  unfold pInt at h
  cases op <;> simp only [Option.some.injEq, reduceCtorEq] at h
  case quo => split at h <;> cases h; rfl
  case rem => split at h <;> cases h; rfl
  all_goals (subst h; rfl)
omit [SemC] in
theorem pShift_cst {op : BinOp} {k : IntKind} {a b : Int} {v : Value} (h : pShift op k a b = some v) : cst v = true := by
  unfold pShift at h
  split at h
  · split at h
    · split at h <;> cases h; rfl
    · split at h <;> cases h; rfl
    · cases h
  · cases h
omit [SemC] in
theorem pStr_cst {op : BinOp} {a b : List UInt8} {v : Value} (h : pStr op a b = some v) : cst v = true := by
  unfold pStr at h
  cases op <;> simp only [Option.some.injEq, reduceCtorEq] at h
  case add => split at h <;> cases h; rfl
  all_goals (subst h; rfl)

omit [SemC] in
theorem veq_nochan {T : Tbl} {n : Nat} {t : TypeId} {x y : Value} {r : Bool} (h : veq T (n + 1) t x y = some r) : (∀ m, x ≠ .chan m) ∧ (∀ m, y ≠ .chan m) := by
  simp only [veq] at h
  split at h
  · cases h
  · split at h <;> first
      | (cases h; done)
      | exact ⟨fun m e => (by cases e), fun m e => (by cases e)⟩
omit [SemC] in
theorem veq_noap {T : Tbl} {n : Nat} {t : TypeId} {x y : Value} {r : Bool} (h : veq T (n + 1) t x y = some r) : (∀ m a b, x ≠ .func (.method m) a b) ∧ (∀ m a b, y ≠ .func (.method m) a b) := by
  simp only [veq] at h
  split at h
  · cases h
  · split at h <;> first
      | (cases h; done)
      | exact ⟨fun m a b e => (by cases e), fun m a b e => (by cases e)⟩
theorem pBin_sound {P : Program} {T : Tbl} (hT : TblOK P T) {θ : Th} {op : BinOp} {t : TypeId} {x y x' y' v : Value} (hx : VR θ x x') (hy : VR θ y y') (ox oy : Operand) (w : World)
    (h : pBin T op t x y = some v) : ∃ v', (do eqGuard op t ox oy x' y'; binOp op t x' y' : Sem Value).run P w = .ok v' w ∧ VR θ v v' := by
  unfold pBin at h
  split at h
  · rename_i k a k' b
    cases hx; cases hy
    have hg : (eqGuard op t ox oy (.int k a) (.int k' b)).run P w = .ok () w := by rw [eqGuard_at_int]; rfl
    split at h
    · refine ⟨v, ?_, ?_⟩
      · rw [Sem.run_bind, hg, Result.andThen_ok]; exact pShift_sound t w (.inl rfl) h
      · exact VR.of_cst θ v (pShift_cst h)
    · refine ⟨v, ?_, ?_⟩
      · rw [Sem.run_bind, hg, Result.andThen_ok]; exact pShift_sound t w (.inr rfl) h
      · exact VR.of_cst θ v (pShift_cst h)
    · split at h
      · rename_i hk
        have hk' := of_decide_eq_true hk
        subst hk'
        refine ⟨v, ?_, ?_⟩
        · rw [Sem.run_bind, hg, Result.andThen_ok]; exact pInt_sound t w h
        · exact VR.of_cst θ v (pInt_cst h)
      · cases h
  · rename_i a b
    cases hx; cases hy
    refine ⟨v, ?_, ?_⟩
    · rw [Sem.run_bind, eqGuard_simple op t ox oy _ w rfl, Result.andThen_ok]; exact pStr_sound t w h
    · exact VR.of_cst θ v (pStr_cst h)
  · rename_i hni hns
    have key : ∀ r, veq T 50 t x y = some r → (eqGuard op t ox oy x' y').run P w = .ok () w ∧
        ((binOp .eql t x' y').run P w = .ok (.bool r) w) ∧ ((binOp .neq t x' y').run P w = .ok (.bool (!r)) w) := by
      intro r hr
      have hs := veq_sound hT w 50 10000 t x y x' y' r (by omega) hr hx hy
      have hq : (Op.equal t x' y').run P w = .ok r w := hs
      have hv := veq_guard (n := 49) hr
      have hnc := veq_nochan (n := 49) hr
      have hna := veq_noap (n := 49) hr
      clear hr hs
      refine ⟨?_, ?_, ?_⟩
      · rcases hv with hv | ⟨k, a, rfl⟩ | ⟨xs, ys, rfl, rfl, he⟩
        · exact eqGuard_simple op t ox oy _ w (simpleV_rel hx hv)
        · cases hx; rw [eqGuard_at_int]; rfl
        · cases hx; cases hy; exact run_eqGuard_agg w op t ox oy _ _ (hT.eqs t he).2
      all_goals
        cases hx <;> cases hy <;> first
          | exact (hni _ _ _ _ rfl rfl).elim
          | exact (hns _ _ rfl rfl).elim
          | exact (hnc.1 _ rfl).elim
          | exact (hnc.2 _ rfl).elim
          | exact (hna.1 _ _ _ rfl).elim
          | exact (hna.2 _ _ _ rfl).elim
          | (simp only [binOp, Sem.run_bind, hq, Result.andThen_ok]; rfl)
    split at h
    · split at h
      · rename_i r hr
        cases h
        obtain ⟨h1, h2, _⟩ := key r hr
        exact ⟨_, by rw [Sem.run_bind, h1, Result.andThen_ok]; exact h2, .bool _⟩
      · cases h
    · split at h
      · rename_i r hr
        cases h
        obtain ⟨h1, _, h2⟩ := key r hr
        exact ⟨_, by rw [Sem.run_bind, h1, Result.andThen_ok]; exact h2, .bool _⟩
      · cases h
    · cases h

def pUn (op : UnOp) : Value → Option Value
  | .int k n => match op with
    | .neg => some (.int k (wrapF k (0 - n)))
    | _ => none
  | .bool b => match op with
    | .not => some (.bool (!b))
    | _ => none
  | _ => none
theorem pUn_sound {P : Program} {θ : Th} {op : UnOp} {x x' v : Value} (hx : VR θ x x') (w : World) (h : pUn op x = some v) : ∃ v', (Op.unary op x').run P w = .ok v' w ∧ VR θ v v' := by
  unfold pUn at h
  split at h
  · split at h
    · cases h; cases hx; exact ⟨_, by simp [Op.unary, Op.intArith, wrapF_eq], .int _ _⟩
    · cases h
  · split at h
    · cases h; cases hx; exact ⟨_, by simp [Op.unary], .bool _⟩
    · cases h
  · cases h

def pConv (T : Tbl) (src dst : TypeId) : Value → Option Value
  | .int _ n => match T.ty.get src, T.ty.get dst with
    | some _, some (_, .int k) => some (.int k (wrapF k n))
    | _, _ => none
  | .string s => match T.ty.get src, T.ty.get dst with
    | some (_, .string), some (_, .string) => some (.string s)
    | _, _ => none
  | _ => none
theorem pConv_sound {P : Program} {T : Tbl} (hT : TblOK P T) {θ : Th} {src dst : TypeId} {x x' v : Value} (hx : VR θ x x') (w : World) (h : pConv T src dst x = some v) :
    ∃ v', (convert src dst x').run P w = .ok v' w ∧ VR θ v v' := by
  unfold pConv at h
  split at h
  · split at h
    · rename_i _ h1 h2
      cases h; cases hx
      refine ⟨_, ?_, .int _ _⟩
      rename_i a _ _ _ _ _
      simp [convert, run_und hT h1, run_und hT h2, Conv.intToInt, wrapF_eq]
    · cases h
  · split at h
    · rename_i h1 h2
      cases h; cases hx
      refine ⟨_, ?_, .str _⟩
      simp [convert, run_und hT h1, run_und hT h2]
    · cases h
  · cases h
end
end Go.Am
