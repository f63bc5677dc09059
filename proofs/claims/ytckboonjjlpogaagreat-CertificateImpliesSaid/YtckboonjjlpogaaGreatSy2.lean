/- Operations on symbols: comparisons, sums, conversions, lengths, elements. -/
import Derived.Test.YtckboonjjlpogaaGreatSy1
set_option linter.unusedVariables false
set_option linter.unusedSimpArgs false
namespace Go.Am
noncomputable section
variable [SemC]

/-- Real values as their own abstract ones. -/
def th1 : Th := fun b => some ⟨b, 0, 0, 0, undef⟩

/-! ### Values that '==' takes -/
def scal (hp : Tr AO) (v : Value) : Bool :=
  match sortI hp v with
  | some _ => true
  | none => match sortB hp v with
    | true => true
    | false => sortS hp v
def allV (f : Value → Bool) : List Value → Bool
  | [] => true
  | v :: r => match f v with
    | true => allV f r
    | false => false
def plainF (T : Tbl) (rec : TypeId → Value → Bool) (xs : List Value) : List Field → Bool
  | [] => true
  | f :: fs => match decide (f.name = "_"), pPart T f.type xs f.offset with
    | false, some a => match rec f.type a with
      | true => plainF T rec xs fs
      | false => false
    | _, _ => false
def plain (T : Tbl) (hp : Tr AO) : Nat → TypeId → Value → Bool
  | 0, _, _ => false
  | n + 1, t, v => match T.ty.get t with
    | none => false
    | some (_, d) => match d with
      | .bool => sortB hp v
      | .int k => match sortI hp v with
        | some k' => decide (k = k')
        | none => false
      | .string => sortS hp v
      | .struct fs => match v, T.eqs.get t with
        | .agg ⟨xs⟩, some () => match allV (scal hp) xs with
          | true => plainF T (plain T hp n) xs fs.toList
          | false => false
        | _, _ => false
      | _ => false

theorem pPart_rel {T : Tbl} {θ : Th} {t : TypeId} {cs cs' : List Value} {off : Nat} {v : Value} (hc : LR θ cs cs') (h : pPart T t cs off = some v) : ∃ v', pPart T t cs' off = some v' ∧ VR θ v v' := by
  unfold pPart at h ⊢
  split at h
  · rename_i i d ht
    split at h
    · cases h; exact ⟨_, rfl, .agg ((hc.drop off).take i.size)⟩
    · exact hc.get off v h
  · cases h

omit [SemC] in
theorem sort_real {v : Value} : (∀ k n, v = .int k n → sortI .lf v = some k) ∧ (∀ b, v = .bool b → sortB .lf v = true) ∧ (∀ s, v = .string s → sortS .lf v = true) :=
  ⟨fun k n e => by subst e; rfl, fun b e => by subst e; rfl, fun s e => by subst e; rfl⟩
omit [SemC] in
theorem sortI_lf {v : Value} {k : IntKind} (h : sortI .lf v = some k) : ∃ n, v = .int k n := by
  unfold sortI at h
  split at h
  · cases h; exact ⟨_, rfl⟩
  · simp [Tr.get_lf] at h
  · cases h
  · cases h
omit [SemC] in
theorem sortB_lf {v : Value} (h : sortB .lf v = true) : ∃ b, v = .bool b := by
  unfold sortB at h
  split at h
  · exact ⟨_, rfl⟩
  · simp [Tr.get_lf] at h
  · cases h
omit [SemC] in
theorem sortS_lf {v : Value} (h : sortS .lf v = true) : ∃ s, v = .string s := by
  unfold sortS at h
  split at h
  · exact ⟨_, rfl⟩
  · simp [Tr.get_lf] at h
  · cases h
omit [SemC] in
theorem scal_lf {v : Value} (h : scal .lf v = true) : cst v = true := by
  unfold scal at h
  split at h
  · rename_i hk; obtain ⟨n, rfl⟩ := sortI_lf hk; rfl
  · split at h
    · rename_i hb; obtain ⟨b, rfl⟩ := sortB_lf hb; rfl
    · obtain ⟨s, rfl⟩ := sortS_lf h; rfl
omit [SemC] in
theorem allV_cst : ∀ {xs : List Value}, allV (scal .lf) xs = true → cstL xs = true
  | [], _ => rfl
  | v :: r, h => by
    simp only [allV] at h
    split at h
    · rename_i h1; simp [cstL, scal_lf h1, allV_cst h]
    · cases h
omit [SemC] in
theorem plain_cst {T : Tbl} {n : Nat} {t : TypeId} {v : Value} (h : plain T .lf n t v = true) : cst v = true := by
  cases n with
  | zero => simp [plain] at h
  | succ n =>
    simp only [plain] at h
    split at h
    · cases h
    · split at h
      · obtain ⟨b, rfl⟩ := sortB_lf h; rfl
      · split at h
        · rename_i hk; obtain ⟨m, rfl⟩ := sortI_lf hk; rfl
        · cases h
      · obtain ⟨b, rfl⟩ := sortS_lf h; rfl
      · split at h
        · split at h
          · rename_i ha; simpa [cst] using allV_cst ha
          · cases h
        · cases h
      · cases h

section
theorem scal_rel {θ : Th} {hp : Tr AO} {heap : Array Obj} (hR : RO θ hp heap) {v v' : Value} (hv : VR θ v v') (h : scal hp v = true) : scal .lf v' = true := by
  unfold scal at h
  split at h
  · rename_i hk; obtain ⟨n, rfl⟩ := sortI_sound hR hv hk; rfl
  · split at h
    · rename_i hb; obtain ⟨b, rfl⟩ := sortB_sound hR hv hb; rfl
    · obtain ⟨b, rfl⟩ := sortS_sound hR hv h; rfl
theorem allV_rel {θ : Th} {hp : Tr AO} {heap : Array Obj} (hR : RO θ hp heap) : ∀ {xs xs' : List Value}, LR θ xs xs' → allV (scal hp) xs = true → allV (scal .lf) xs' = true
  | _, _, .nil, _ => rfl
  | _, _, .cons hv hr, h => by
    simp only [allV] at h ⊢
    split at h
    · rename_i h1; rw [scal_rel hR hv h1]; exact allV_rel hR hr h
    · cases h
theorem plainF_rel {T : Tbl} {θ : Th} {r r' : TypeId → Value → Bool} (hr : ∀ t v v', r t v = true → VR θ v v' → r' t v' = true) {xs xs' : List Value} (hx : LR θ xs xs') : ∀ (fs : List Field), plainF T r xs fs = true → plainF T r' xs' fs = true
  | [], _ => rfl
  | f :: fs, h => by
    simp only [plainF] at h ⊢
    split at h
    · rename_i a hn hp
      split at h
      · rename_i ha
        obtain ⟨a', h1, h2⟩ := pPart_rel hx hp
        rw [hn, h1]
        simp only
        rw [hr _ _ _ ha h2]
        exact plainF_rel hr hx fs h
      · cases h
    · cases h
theorem plain_rel {T : Tbl} {θ : Th} {hp : Tr AO} {heap : Array Obj} (hR : RO θ hp heap) : ∀ (n : Nat) (t : TypeId) (v v' : Value), plain T hp n t v = true → VR θ v v' → plain T .lf n t v' = true
  | 0, _, _, _, h, _ => by simp [plain] at h
  | n + 1, t, v, v', h, hv => by
    simp only [plain] at h ⊢
    split at h
    · cases h
    · split at h
      · obtain ⟨b, rfl⟩ := sortB_sound hR hv h; rfl
      · split at h
        · rename_i hk; obtain ⟨m, rfl⟩ := sortI_sound hR hv hk; exact h
        · cases h
      · obtain ⟨b, rfl⟩ := sortS_sound hR hv h; rfl
      · split at h
        · rename_i xs he
          split at h
          · rename_i ha
            cases hv with
            | agg hx =>
              simp only [he]
              rw [allV_rel hR hx ha]
              exact plainF_rel (fun t v v' h1 h2 => plain_rel hR n t v v' h1 h2) hx _ h
          · cases h
        · cases h
      · cases h
end

omit [SemC] in
theorem veqF_total {T : Tbl} {r : TypeId → Value → Bool} {e : TypeId → Value → Value → Option Bool} (hr : ∀ t x y, r t x = true → r t y = true → ∃ b, e t x y = some b) {xs ys : List Value} :
    ∀ (fs : List Field), plainF T r xs fs = true → plainF T r ys fs = true → ∃ b, veqF T e fs xs ys = some b
  | [], _, _ => ⟨true, rfl⟩
  | f :: fs, h, k => by
    simp only [plainF] at h k
    split at h
    · rename_i a hn hp
      split at h
      · rename_i ha
        rw [hn] at k
        split at k
        · rename_i b _ hq
          split at k
          · rename_i hb
            obtain ⟨c, hc⟩ := hr _ _ _ ha hb
            simp only [veqF, hn, hp, hq, hc]
            cases c with
            | true => exact veqF_total hr fs h k
            | false => exact ⟨false, rfl⟩
          · cases k
        · cases k
      · cases h
    · cases h
omit [SemC] in
theorem veq_total {T : Tbl} : ∀ (n : Nat) (t : TypeId) (x y : Value), plain T .lf n t x = true → plain T .lf n t y = true → ∃ b, veq T n t x y = some b
  | 0, _, _, _, h, _ => by simp [plain] at h
  | n + 1, t, x, y, h, k => by
    simp only [plain] at h k
    split at h
    · cases h
    · rename_i i d ht
      rw [ht] at k
      simp only at k
      simp only [veq, ht]
      split at h
      · obtain ⟨a, rfl⟩ := sortB_lf h
        obtain ⟨b, rfl⟩ := sortB_lf k
        exact ⟨_, rfl⟩
      · split at h
        · rename_i hk
          obtain ⟨a, rfl⟩ := sortI_lf hk
          simp only at k
          split at k
          · rename_i hk2
            obtain ⟨b, rfl⟩ := sortI_lf hk2
            have e1 := of_decide_eq_true h
            have e2 := of_decide_eq_true k
            subst e1; subst e2
            exact ⟨decide (a = b), by simp⟩
          · cases k
        · cases h
      · obtain ⟨a, rfl⟩ := sortS_lf h
        obtain ⟨b, rfl⟩ := sortS_lf k
        exact ⟨_, rfl⟩
      · rename_i fs
        split at h
        · rename_i xs he
          split at h
          · rename_i ha
            simp only at k
            split at k
            · rename_i ys _
              split at k
              · simp only [he]
                exact veqF_total (fun t x y h1 h2 => veq_total n t x y h1 h2) fs.toList h k
              · cases k
            · cases k
          · cases h
        · cases h
      · cases h
omit [SemC] in
theorem veqF_refl {T : Tbl} {r : TypeId → Value → Bool} {e : TypeId → Value → Value → Option Bool} (hr : ∀ t x, r t x = true → e t x x = some true) {xs : List Value} :
    ∀ (fs : List Field), plainF T r xs fs = true → veqF T e fs xs xs = some true
  | [], _ => rfl
  | f :: fs, h => by
    simp only [plainF] at h
    split at h
    · rename_i a hn hp
      split at h
      · rename_i ha
        simp only [veqF, hn, hp, hr _ _ ha]
        exact veqF_refl hr fs h
      · cases h
    · cases h
omit [SemC] in
theorem veq_refl {T : Tbl} : ∀ (n : Nat) (t : TypeId) (x : Value), plain T .lf n t x = true → veq T n t x x = some true
  | 0, _, _, h => by simp [plain] at h
  | n + 1, t, x, h => by
    simp only [plain] at h
    split at h
    · cases h
    · rename_i i d ht
      simp only [veq, ht]
      split at h
      · obtain ⟨a, rfl⟩ := sortB_lf h; simp
      · split at h
        · rename_i hk; obtain ⟨a, rfl⟩ := sortI_lf hk; simp
        · cases h
      · obtain ⟨a, rfl⟩ := sortS_lf h; simp
      · rename_i fs
        split at h
        · rename_i xs he
          split at h
          · simp only [he]
            exact veqF_refl (fun t x h => veq_refl n t x h) fs.toList h
          · cases h
        · cases h
      · cases h

omit [SemC] in
theorem plain_form {T : Tbl} {n : Nat} {t : TypeId} {x y : Value} (hx : plain T .lf (n + 1) t x = true) (hy : plain T .lf (n + 1) t y = true) :
    (∃ a c, x = .bool a ∧ y = .bool c) ∨ (∃ k a c, x = .int k a ∧ y = .int k c) ∨ (∃ a c, x = .string a ∧ y = .string c) ∨ (∃ a c, x = .agg a ∧ y = .agg c) := by
  simp only [plain] at hx hy
  split at hx
  · cases hx
  · rename_i i d ht
    rw [ht] at hy
    simp only at hy
    split at hx
    · obtain ⟨a, rfl⟩ := sortB_lf hx
      obtain ⟨c, rfl⟩ := sortB_lf hy
      exact .inl ⟨_, _, rfl, rfl⟩
    · split at hx
      · rename_i hk
        obtain ⟨a, rfl⟩ := sortI_lf hk
        simp only at hy
        split at hy
        · rename_i hk2
          obtain ⟨c, rfl⟩ := sortI_lf hk2
          have e1 := of_decide_eq_true hx
          have e2 := of_decide_eq_true hy
          subst e1; subst e2
          exact .inr (.inl ⟨_, _, _, rfl, rfl⟩)
        · cases hy
      · cases hx
    · obtain ⟨a, rfl⟩ := sortS_lf hx
      obtain ⟨c, rfl⟩ := sortS_lf hy
      exact .inr (.inr (.inl ⟨_, _, rfl, rfl⟩))
    · split at hx
      · split at hx
        · simp only at hy
          split at hy
          · exact .inr (.inr (.inr ⟨_, _, rfl, rfl⟩))
          · cases hy
        · cases hx
      · cases hx
    · cases hx
omit [SemC] in
/-- What '==' gives at real values that it takes. -/
theorem eq_real {T : Tbl} {t : TypeId} {x y : Value} (hx : plain T .lf 50 t x = true) (hy : plain T .lf 50 t y = true) : ∃ b, pBin T .eql t x y = some (.bool b) ∧ pBin T .neq t x y = some (.bool (!b)) ∧ (x = y → b = true) := by
  obtain ⟨b, hb⟩ := veq_total 50 t x y hx hy
  have hr : x = y → b = true := fun e => by
    have := veq_refl 50 t x hx
    rw [← e, this] at hb
    exact (Option.some.inj hb).symm
  rcases plain_form (n := 49) hx hy with ⟨a, c, rfl, rfl⟩ | ⟨k, a, c, rfl, rfl⟩ | ⟨⟨⟨a⟩⟩, ⟨⟨c⟩⟩, rfl, rfl⟩ | ⟨a, c, rfl, rfl⟩
  · exact ⟨b, by simp only [pBin, hb], by simp only [pBin, hb], hr⟩
  · exact ⟨decide (a = c), by simp [pBin, pInt], by simp [pBin, pInt], fun e => by injection e with _ e; simp [e]⟩
  · exact ⟨a == c, by simp [pBin, pStr], by simp [pBin, pStr], fun e => by injection e with e; injection e with e; injection e with e; simp [e]⟩
  · exact ⟨b, by simp only [pBin, hb], by simp only [pBin, hb], hr⟩

/-! ### What the fixed tags stand for -/
def nv (n : Nat) : Value := .int .i64 (.ofNat n)
structure SemOK (T : Tbl) (kn : TypeId → List SK) (w0 : World) : Prop where
  eq : ∀ t x y b, pBin T .eql t x y = some (.bool b) → SemC.semf 0 [nv t, x, y] = .bool b
  eqi : ∀ t k a b, SemC.semf 0 [nv t, .int k a, .int k b] = .bool (decide (a = b))
  lss : ∀ k a b, SemC.semf 1 [.int k a, .int k b] = .bool (decide (a < b))
  len : ∀ a n c, SemC.semf 5 [.slice a n c] = nv n
  cell : ∀ b o n c (i : Int) e off j d, T.ty.get e = some (j, d) → SemC.semf 6 [.slice (some ⟨b, o, none⟩) n c, .int .i64 i, nv e, nv off] = (w0.cell? ⟨b, o + i.toNat * j.size + off, none⟩).getD undef
  ptr : ∀ b o n c (i : Int) e j d, T.ty.get e = some (j, d) → SemC.semf 7 [.slice (some ⟨b, o, none⟩) n c, .int .i64 i, nv e, nv 0] = .pointer (some ⟨b, o + i.toNat * j.size, none⟩)
  ptrAdd : ∀ s i e off k b o, SemC.semf 7 [s, i, nv e, nv off] = .pointer (some ⟨b, o, none⟩) → SemC.semf 7 [s, i, nv e, nv (off + k)] = .pointer (some ⟨b, o + k, none⟩)
  small : ∀ e a n c, SemC.rd e (.slice a n c) → n < 9223372036854775808
  form : ∀ e v, SemC.rd e v → v = .slice none 0 0 ∨ (∃ a, v = .slice (some a) 0 0) ∨ ∃ b o n c, v = .slice (some ⟨b, o, none⟩) n c ∧ n ≤ c
  read : ∀ e b o n c, SemC.rd e (.slice (some ⟨b, o, none⟩) n c) → ∃ j d, T.ty.get e = some (j, d) ∧ (kn e).length = j.size ∧ ∀ i, i < n → ∀ f k, (kn e)[f]? = some k →
    ∃ v, w0.cell? ⟨b, o + i * j.size + f, none⟩ = some v ∧ k.ok v ∧ v.oneCell' = true

/-! ### Comparisons and sums -/
def negL (l : List (Bool × AH)) : List (Value × AH) := l.map fun r => (.bool (!r.1), r.2)
def symF (tag : Nat) (args : List Value) (H : AH) : Option (List (Value × AH)) :=
  match symR tag args .bool H with
  | some (v, H1) => match forkB H1 v with
    | some l => some (negL l)
    | none => none
  | none => none
def binY (T : Tbl) (H : AH) (op : BinOp) (t : TypeId) (a b : Value) : Option (List (Value × AH)) :=
  match op with
  | .eql => match plain T H.hp 50 t a, plain T H.hp 50 t b with
    | true, true => match sid a b with
      | true => some [(.bool true, H)]
      | false => one (symR 0 [nv t, a, b] .bool H)
    | _, _ => none
  | .neq => match plain T H.hp 50 t a, plain T H.hp 50 t b with
    | true, true => match sid a b with
      | true => some [(.bool false, H)]
      | false => symF 0 [nv t, a, b] H
    | _, _ => none
  | op => match sortI H.hp a, sortI H.hp b with
    | some k, some j => match decide (k = j) with
      | true => match op with
        | .lss => one (symR 1 [a, b] .bool H)
        | .gtr => one (symR 1 [b, a] .bool H)
        | .leq => symF 1 [b, a] H
        | .geq => symF 1 [a, b] H
        | .add => one (symR 2 [a, b] (.int k) H)
        | .sub => one (symR 3 [a, b] (.int k) H)
        | _ => none
      | false => none
    | _, _ => none

section
theorem FQ.one {θ : Th} {H : AH} {w : World} {tag : Nat} {args args' : List Value} {kd : SK} {outs : List (Value × AH)} (hR : RH θ H w) (ha : LR θ args args') {r : Value} (hr : SemC.semf tag args' = r) (hk : kd.ok r) (h1 : r.oneCell' = true)
    (h : Go.Am.one (symR tag args kd H) = some outs) : FQ θ H outs r := by
  cases hs : symR tag args kd H with
  | none => rw [hs] at h; cases h
  | some z =>
    obtain ⟨v, H'⟩ := z
    rw [hs] at h; cases h
    subst hr
    obtain ⟨θ', h2, h3⟩ := symR_sound hR ha hk h1 hs
    exact ⟨v, H', θ', List.mem_singleton.2 rfl, h2, h3⟩
theorem FQ.neg {θ : Th} {H : AH} {w : World} {tag : Nat} {args args' : List Value} {outs : List (Value × AH)} (hR : RH θ H w) (ha : LR θ args args') {b : Bool} (hr : SemC.semf tag args' = .bool b)
    (h : symF tag args H = some outs) : FQ θ H outs (.bool (!b)) := by
  unfold symF at h
  split at h
  · rename_i v H1 hs
    obtain ⟨θ', h2, h3⟩ := symR_sound hR ha (kd := .bool) (by rw [hr]; exact ⟨_, rfl⟩) (by rw [hr]; rfl) hs
    rw [hr] at h2
    split at h
    · rename_i l hl
      cases h
      obtain ⟨c, H2, hm, he, h5⟩ := forkB_sound (h3 w hR).1 h2 hl
      injection he with he
      subst he
      exact ⟨_, H2, θ', List.mem_map_of_mem (f := fun r : Bool × AH => (Value.bool (!r.1), r.2)) hm, .bool _, h3.trans h5⟩
    · cases h
  · cases h
theorem binY_sound {P : Program} {T : Tbl} (hT : TblOK P T) {kn : TypeId → List SK} {w0 : World} (hS : SemOK T kn w0) {θ : Th} {H : AH} {w : World} (hR : RH θ H w) {op : BinOp} {t : TypeId} {a b a' b' : Value} (ha : VR θ a a') (hb : VR θ b b') (ox oy : Operand) {outs : List (Value × AH)}
    (h : binY T H op t a b = some outs) : ∃ v', (∀ w, (do eqGuard op t ox oy a' b'; binOp op t a' b' : Sem Value).run P w = .ok v' w) ∧ FQ θ H outs v' := by
  have hRO : RO θ H.hp w.heap := ⟨hR.obj, hR.inj⟩
  have eqs : plain T H.hp 50 t a = true → plain T H.hp 50 t b = true → ∃ c, SemC.semf 0 [nv t, a', b'] = .bool c ∧ (a' = b' → c = true) ∧
      (∀ w, (do eqGuard .eql t ox oy a' b'; binOp .eql t a' b' : Sem Value).run P w = .ok (.bool c) w) ∧ (∀ w, (do eqGuard .neq t ox oy a' b'; binOp .neq t a' b' : Sem Value).run P w = .ok (.bool (!c)) w) := by
    intro h1 h2
    have p1 := plain_rel hRO _ _ _ _ h1 ha
    have p2 := plain_rel hRO _ _ _ _ h2 hb
    obtain ⟨c, q1, q2, q3⟩ := eq_real p1 p2
    have v1 := VR.of_cst th1 _ (plain_cst p1)
    have v2 := VR.of_cst th1 _ (plain_cst p2)
    refine ⟨c, hS.eq _ _ _ _ q1, q3, fun w => ?_, fun w => ?_⟩
    · obtain ⟨u, r1, r2⟩ := pBin_sound (P := P) hT v1 v2 ox oy w q1
      cases r2; exact r1
    · obtain ⟨u', r3, r4⟩ := pBin_sound (P := P) hT v1 v2 ox oy w q2
      cases r4; exact r3
  have ints : ∀ {k j : IntKind} {v : Value} {x y : Int}, a' = .int k x → b' = .int k y → pBin T op t (.int k x) (.int k y) = some v → cst v = true → ∀ w, (do eqGuard op t ox oy a' b'; binOp op t a' b' : Sem Value).run P w = .ok v w := by
    intro k j v x y e1 e2 hv hc w
    obtain ⟨u, r1, r2⟩ := pBin_sound (P := P) hT (VR.int (θ := th1) k x) (VR.int (θ := th1) k y) ox oy w hv
    rw [e1, e2, r1]
    congr 1
    exact (VR.cst_eq r2 hc).symm ▸ rfl
  unfold binY at h
  split at h
  · split at h
    · rename_i h1 h2
      obtain ⟨c, s1, s2, s3, s4⟩ := eqs h1 h2
      split at h
      · rename_i hs
        cases h
        have e := s2 (sid_det hs ha hb)
        subst e
        exact ⟨_, s3, _, H, θ, List.mem_singleton.2 rfl, .bool _, Up.refl _ _⟩
      · exact ⟨_, s3, FQ.one (kd := .bool) hR (.cons (.int _ _) (.cons ha (.cons hb .nil))) s1 ⟨_, rfl⟩ rfl h⟩
    · cases h
  · split at h
    · rename_i h1 h2
      obtain ⟨c, s1, s2, s3, s4⟩ := eqs h1 h2
      split at h
      · rename_i hs
        cases h
        have e := s2 (sid_det hs ha hb)
        subst e
        exact ⟨_, s4, _, H, θ, List.mem_singleton.2 rfl, .bool _, Up.refl _ _⟩
      · exact ⟨_, s4, FQ.neg hR (.cons (.int _ _) (.cons ha (.cons hb .nil))) s1 h⟩
    · cases h
  · split at h
    · rename_i k j hk hj
      split at h
      · rename_i he
        have he' := of_decide_eq_true he
        subst he'
        obtain ⟨x, rfl⟩ := sortI_sound hRO ha hk
        obtain ⟨y, rfl⟩ := sortI_sound hRO hb hj
        split at h
        · exact ⟨_, ints (j := k) rfl rfl (show pBin T .lss t (.int k x) (.int k y) = some (.bool (decide (x < y))) by simp [pBin, pInt]) rfl, FQ.one (kd := .bool) hR (.cons ha (.cons hb .nil)) (hS.lss _ _ _) ⟨_, rfl⟩ rfl h⟩
        · exact ⟨_, ints (j := k) rfl rfl (show pBin T .gtr t (.int k x) (.int k y) = some (.bool (decide (y < x))) by simp [pBin, pInt]) rfl, FQ.one (kd := .bool) hR (.cons hb (.cons ha .nil)) (hS.lss _ _ _) ⟨_, rfl⟩ rfl h⟩
        · refine ⟨_, ints (j := k) rfl rfl (show pBin T .leq t (.int k x) (.int k y) = some (.bool (decide (x ≤ y))) by simp [pBin, pInt]) rfl, ?_⟩
          have := FQ.neg hR (.cons hb (.cons ha .nil)) (hS.lss k y x) h
          rwa [show (!decide (y < x)) = decide (x ≤ y) by simp [← decide_not, Int.not_lt]] at this
        · refine ⟨_, ints (j := k) rfl rfl (show pBin T .geq t (.int k x) (.int k y) = some (.bool (decide (y ≤ x))) by simp [pBin, pInt]) rfl, ?_⟩
          have := FQ.neg hR (.cons ha (.cons hb .nil)) (hS.lss k x y) h
          rwa [show (!decide (x < y)) = decide (y ≤ x) by simp [← decide_not, Int.not_lt]] at this
        · exact ⟨_, ints (j := k) rfl rfl (show pBin T .add t (.int k x) (.int k y) = some (.int k (wrapF k (x + y))) by simp [pBin, pInt]) rfl, FQ.one (kd := .int k) hR (.cons ha (.cons hb .nil)) (by rw [SemC.add, wrapF_eq]) ⟨_, rfl⟩ rfl h⟩
        · exact ⟨_, ints (j := k) rfl rfl (show pBin T .sub t (.int k x) (.int k y) = some (.int k (wrapF k (x - y))) by simp [pBin, pInt]) rfl, FQ.one (kd := .int k) hR (.cons ha (.cons hb .nil)) (by rw [SemC.sub, wrapF_eq]) ⟨_, rfl⟩ rfl h⟩
        · cases h
      · cases h
    · cases h
end
end
end Go.Am
