/- The checks that make the text's order serve for every order of a region. -/
import Derived.Test.YtckboonjjlpogaaGreatAmDraw2
set_option linter.unusedVariables false
set_option linter.unusedSimpArgs false
namespace Go.Am
noncomputable section
variable [SemC]

omit [SemC] in
theorem alls_mem : ∀ (l : List It) (i k : Nat) (ao : AO), (k, ao) ∈ alls i l ↔ ∃ (j : Nat) (it : It), l[j]? = some it ∧ it.rk = .pn ao ∧ k = i + j
  | [], i, k, ao => by simp [alls]
  | x :: l, i, k, ao => by
    have ih := alls_mem l (i + 1) k ao
    have shift : (∃ (j : Nat) (it : It), (x :: l)[j]? = some it ∧ it.rk = .pn ao ∧ k = i + j) ↔ (x.rk = .pn ao ∧ k = i) ∨ ∃ (j : Nat) (it : It), l[j]? = some it ∧ it.rk = .pn ao ∧ k = i + 1 + j := by
      constructor
      · rintro ⟨j, it, h1, h2, h3⟩
        cases j with
        | zero => simp at h1; subst h1; exact .inl ⟨h2, by simpa using h3⟩
        | succ j => exact .inr ⟨j, it, by simpa using h1, h2, by omega⟩
      · rintro (⟨h1, h2⟩ | ⟨j, it, h1, h2, h3⟩)
        · exact ⟨0, x, by simp, h1, by omega⟩
        · exact ⟨j + 1, it, by simpa using h1, h2, by omega⟩
    have e : alls i (x :: l) = match x.rk with | .pn ao => (i, ao) :: alls (i + 1) l | _ => alls (i + 1) l := rfl
    rw [shift, ← ih, e]
    split
    · rename_i bo hb
      rw [List.mem_cons]
      constructor
      · rintro (h | h)
        · cases h; exact .inl ⟨hb, rfl⟩
        · exact .inr h
      · rintro (⟨h1, rfl⟩ | h)
        · rw [hb] at h1; cases h1; exact .inl rfl
        · exact .inr h
    · rename_i hb
      constructor
      · intro h; exact .inr h
      · rintro (⟨h1, _⟩ | h)
        · exact absurd h1 (hb ao)
        · exact h

omit [SemC] in
theorem alls_nodup : ∀ (l : List It) (i : Nat), ((alls i l).map (·.1)).Nodup
  | [], _ => by simp [alls]
  | x :: l, i => by
    unfold alls
    split
    · simp only [List.map_cons, List.nodup_cons]
      refine ⟨fun h => ?_, alls_nodup l (i + 1)⟩
      obtain ⟨⟨k, ao⟩, h1, h2⟩ := List.mem_map.1 h
      obtain ⟨j, it, _, _, h3⟩ := (alls_mem _ _ _ _).1 h1
      simp only at h2
      omega
    · exact alls_nodup l (i + 1)

omit [SemC] in
theorem stH_app (H0 : AH) : ∀ (l m : List It), stH H0 (l ++ m) = stH (stH H0 l) m
  | [], _ => rfl
  | x :: l, m => by simp only [List.cons_append, stH]; exact stH_app _ l m
omit [SemC] in
theorem needM_app : ∀ (l m : List It), needM (l ++ m) = needM l ||| needM m
  | [], _ => by simp [needM]
  | x :: l, m => by simp only [List.cons_append, needM]; rw [needM_app l m, Nat.or_assoc]
omit [SemC] in
theorem noE : ∀ (m : List It), (∀ it ∈ m, it.rk.isEf = false) → (∀ H0, stH H0 m = H0) ∧ needM m = 0
  | [], _ => ⟨fun _ => rfl, rfl⟩
  | x :: m, h => by
    obtain ⟨h1, h2⟩ := noE m (fun it hi => h it (by simp [hi]))
    have hx := h x (by simp)
    cases hk : x.rk <;> simp [hk, Rk.isEf] at hx <;> exact ⟨fun H0 => by simp [stH, hk, h1], by simp [needM, hk, h2]⟩

omit [SemC] in
theorem stage_le {H0 : AH} {its : List It} {q i : Nat} (hqi : q ≤ i) (h : ∀ (k : Nat) (it : It), its[k]? = some it → it.rk.isEf = true → k < i → k < q) :
    stH H0 (its.take i) = stH H0 (its.take q) ∧ needM (its.take i) = needM (its.take q) := by
  have e : its.take i = its.take q ++ (its.take i).drop q := by
    have := List.take_append_drop q (its.take i)
    rw [List.take_take, Nat.min_eq_left hqi] at this
    exact this.symm
  have hn : ∀ it ∈ (its.take i).drop q, it.rk.isEf = false := by
    intro it hi
    obtain ⟨j, hj⟩ := List.getElem?_of_mem hi
    rw [List.getElem?_drop] at hj
    have hlt : q + j < i := by
      have := (List.getElem?_eq_some_iff.1 hj).1
      simp at this; omega
    rw [List.getElem?_take_of_lt hlt] at hj
    cases hc : it.rk.isEf with
    | false => rfl
    | true => have := h _ _ hj hc hlt; omega
  obtain ⟨h1, h2⟩ := noE _ hn
  rw [e, stH_app, needM_app, h1, h2]
  simp

omit [SemC] in
theorem stage_same {H0 : AH} {its : List It} {q i : Nat} (h : ∀ (k : Nat) (it : It), its[k]? = some it → it.rk.isEf = true → (k < q ↔ k < i)) :
    stH H0 (its.take i) = stH H0 (its.take q) ∧ needM (its.take i) = needM (its.take q) := by
  rcases Nat.le_total q i with hc | hc
  · exact stage_le hc fun k it h1 h2 h3 => (h k it h1 h2).2 h3
  · have := stage_le (H0 := H0) hc fun k it h1 h2 h3 => (h k it h1 h2).1 h3
    exact ⟨this.1.symm, this.2.symm⟩

omit [SemC] in
theorem needM_bit : ∀ (l : List It) (j : Nat), (needM l).testBit j = true → ∃ (k : Nat) (it : It), l[k]? = some it ∧ it.rk.isEf = true ∧ it.bef.testBit j = true
  | [], j, h => by simp [needM] at h
  | x :: l, j, h => by
    simp only [needM, Nat.testBit_or, Bool.or_eq_true] at h
    rcases h with h | h
    · cases hk : x.rk <;> simp [hk] at h
      exact ⟨0, x, by simp, by simp [hk, Rk.isEf], h⟩
    · obtain ⟨k, it, h1, h2, h3⟩ := needM_bit l j h
      exact ⟨k + 1, it, by simpa using h1, h2, h3⟩

omit [SemC] in
theorem efM_bit : ∀ (l : List It) (i j : Nat), (efM i l).testBit j = true ↔ ∃ (k : Nat) (it : It), l[k]? = some it ∧ it.rk.isEf = true ∧ j = i + k
  | [], i, j => by simp [efM]
  | x :: l, i, j => by
    have ih := efM_bit l (i + 1) j
    simp only [efM, Nat.testBit_or, Bool.or_eq_true]
    rw [ih]
    constructor
    · rintro (h | ⟨k, it, h1, h2, h3⟩)
      · cases hk : x.rk <;> simp [hk, Nat.testBit_two_pow] at h
        exact ⟨0, x, by simp, by simp [hk, Rk.isEf], by omega⟩
      · exact ⟨k + 1, it, by simpa using h1, h2, by omega⟩
    · rintro ⟨k, it, h1, h2, h3⟩
      cases k with
      | zero =>
        simp at h1; subst h1
        left
        cases hk : x.rk <;> simp [hk, Rk.isEf] at h2
        simp [Nat.testBit_two_pow]; omega
      | succ k => exact .inr ⟨k, it, by simpa using h1, h2, by omega⟩

/-! ### The checks -/
def opMask : List Operand → Nat
  | [] => 0
  | .tmp t :: r => 2 ^ t ||| opMask r
  | _ :: r => opMask r
def dstM : List It → Nat
  | [] => 0
  | it :: r => (match it.o.dst with | some d => 2 ^ d | none => 0) ||| dstM r
def tb (m n : Nat) : Bool := Nat.beq (Nat.land (nat_lit 1) (Nat.shiftRight m n)) (nat_lit 1)
omit [SemC] in
theorem tb_eq (m n : Nat) : tb m n = m.testBit n := by
  have h : Nat.land 1 (Nat.shiftRight m n) = (m >>> n) % 2 := by
    show 1 &&& (m >>> n) = _
    rw [Nat.and_comm, Nat.and_one_is_mod]
  show Nat.beq (Nat.land 1 (Nat.shiftRight m n)) 1 = (1 &&& (m >>> n) != 0)
  rw [Nat.and_comm, Nat.and_one_is_mod, h]
  rcases Nat.mod_two_eq_zero_or_one (m >>> n) with e | e <;> rw [e] <;> rfl
def k2OneS (m i b : Nat) : Nat → List It → Bool
  | _, [] => true
  | k, it :: r => match it.o.dst with
    | none => k2OneS m i b (Nat.succ k) r
    | some d => match tb m d with
      | false => k2OneS m i b (Nat.succ k) r
      | true => match Nat.beq k i, tb b k, tb it.bef i with
        | false, false, false => false
        | _, _, _ => k2OneS m i b (Nat.succ k) r
def k2One (m i b k : Nat) (l : List It) : Bool :=
  List.rec (motive := fun _ => Nat → Bool) (fun _ => true)
    (fun it _ ih k => Option.rec (motive := fun _ => Bool) (ih (Nat.succ k))
      (fun d => Bool.rec (motive := fun _ => Bool) (ih (Nat.succ k))
        (Bool.rec (motive := fun _ => Bool) (Bool.rec (motive := fun _ => Bool) (Bool.rec (motive := fun _ => Bool) false (ih (Nat.succ k)) (tb it.bef i)) (ih (Nat.succ k)) (tb b k)) (ih (Nat.succ k)) (Nat.beq k i)) (tb m d)) it.o.dst) l k
omit [SemC] in
theorem k2One_eq (m i b : Nat) : ∀ (l : List It) (k : Nat), k2One m i b k l = k2OneS m i b k l
  | [], _ => rfl
  | it :: r, k => by
    have ih := k2One_eq m i b r (Nat.succ k)
    show Option.rec (motive := fun _ => Bool) (k2One m i b (Nat.succ k) r)
      (fun d => Bool.rec (motive := fun _ => Bool) (k2One m i b (Nat.succ k) r)
        (Bool.rec (motive := fun _ => Bool) (Bool.rec (motive := fun _ => Bool) (Bool.rec (motive := fun _ => Bool) false (k2One m i b (Nat.succ k) r) (tb it.bef i)) (k2One m i b (Nat.succ k) r) (tb b k)) (k2One m i b (Nat.succ k) r) (Nat.beq k i)) (tb m d)) it.o.dst = _
    rw [ih, k2OneS]
    cases it.o.dst with
    | none => rfl
    | some d =>
      simp only
      cases tb m d <;> cases Nat.beq k i <;> cases tb b k <;> cases tb it.bef i <;> rfl
def k2All (all : List It) (D : Nat) : Nat → List It → Bool
  | _, [] => true
  | i, it :: r => match Nat.beq (opMask it.o.op.operands.toList &&& D) 0 with
    | true => k2All all D (i + 1) r
    | false => match k2One (opMask it.o.op.operands.toList) i it.bef 0 all with
      | true => k2All all D (i + 1) r
      | false => false
/-- The reading operations, against the heap of another moment. -/
def k3All (T : Tbl) (nx0 : Nat) (al : List (Nat × AO)) (hp : Tr AO) (nd em efa : Nat) : Nat → Nat → List It → Bool
  | _, _, [] => true
  | i, ei, it :: r => match it.rk with
    | .pr => match Nat.beq ei em, Nat.beq ((it.bef &&& efa) ||| em) em, nd.testBit i with
      | false, true, false => match pev T (oev it.tm) (addA nx0 (fun k => it.bef.testBit k && !nd.testBit k) al hp) it.o.op with
        | some (.v v) => match vid 40 v it.val with
          | true => k3All T nx0 al hp nd em efa (i + 1) ei r
          | false => false
        | _ => false
      | _, _, _ => k3All T nx0 al hp nd em efa (i + 1) ei r
    | .ef _ => k3All T nx0 al hp nd em efa (i + 1) (ei ||| 2 ^ i) r
    | _ => k3All T nx0 al hp nd em efa (i + 1) ei r
def k4All (nx0 : Nat) (hp : Tr AO) (nd : Nat) : List (Nat × AO) → Bool
  | [] => true
  | (k, _) :: r => match nd.testBit k with
    | true => k4All nx0 hp nd r
    | false => match hp.get (nx0 + k) with
      | none => k4All nx0 hp nd r
      | some _ => false
def stages : Nat → List It → List Nat
  | _, [] => []
  | i, it :: r => match it.rk with
    | .ef _ => (i + 1) :: stages (i + 1) r
    | _ => stages (i + 1) r
def chkSt (T : Tbl) (nx0 : Nat) (H0 : AH) (its : List It) (al : List (Nat × AO)) (efa : Nat) : List Nat → Bool
  | [] => true
  | q :: r => match k3All T nx0 al (stH H0 (its.take q)).hp (needM (its.take q)) (efM 0 (its.take q)) efa 0 0 its, k4All nx0 (stH H0 (its.take q)).hp (needM (its.take q)) al with
    | true, true => chkSt T nx0 H0 its al efa r
    | _, _ => false
def chkD (T : Tbl) (nx0 : Nat) (H0 : AH) (its : List It) : Bool :=
  match k2All its (dstM its) 0 its with
  | true => chkSt T nx0 H0 its (alls 0 its) (efM 0 its) (0 :: stages 0 its)
  | false => false

/-! ### What the checks say -/
omit [SemC] in
theorem opMask_bit : ∀ (l : List Operand) (t : Nat), .tmp t ∈ l → (opMask l).testBit t = true
  | [], _, h => by simp at h
  | x :: l, t, h => by
    rcases List.mem_cons.1 h with e | h'
    · subst e; simp [opMask, Nat.testBit_or, Nat.testBit_two_pow]
    · have := opMask_bit l t h'
      cases x <;> simp [opMask, Nat.testBit_or, this]
omit [SemC] in
theorem dstM_bit : ∀ (l : List It) (k : Nat) (it : It) (d : Nat), l[k]? = some it → it.o.dst = some d → (dstM l).testBit d = true
  | [], _, _, _, h, _ => by simp at h
  | x :: l, 0, it, d, h, hd => by simp at h; subst h; simp [dstM, hd, Nat.testBit_or, Nat.testBit_two_pow]
  | x :: l, k + 1, it, d, h, hd => by
    have := dstM_bit l k it d (by simpa using h) hd
    simp [dstM, Nat.testBit_or, this]
omit [SemC] in
theorem k2One_spec (m i b : Nat) : ∀ (l : List It) (k0 : Nat), k2One m i b k0 l = true → ∀ (k : Nat) (it : It) (d : Nat), l[k]? = some it → it.o.dst = some d → m.testBit d = true → k0 + k = i ∨ b.testBit (k0 + k) = true ∨ it.bef.testBit i = true
  | [], _, _, k, it, d, h, _, _ => by simp at h
  | x :: l, k0, h, k, it, d, hk, hd, hm => by
    have rest : k2One m i b (k0 + 1) l = true → ∀ k', k = k' + 1 → k0 + k = i ∨ b.testBit (k0 + k) = true ∨ it.bef.testBit i = true := by
      rintro hr k' rfl
      have := k2One_spec m i b l (k0 + 1) hr k' it d (by simpa using hk) hd hm
      rwa [show k0 + (k' + 1) = k0 + 1 + k' by omega]
    rw [k2One_eq] at h
    simp only [k2OneS, ← k2One_eq, tb_eq] at h
    cases k with
    | zero =>
      simp at hk; subst hk
      rw [hd] at h
      simp only [hm] at h
      split at h
      · cases h
      · rename_i e1 e2
        simp only [Nat.add_zero]
        by_cases c1 : Nat.beq k0 i = true
        · exact .inl (Nat.eq_of_beq_eq_true c1)
        · by_cases c2 : b.testBit k0 = true
          · exact .inr (.inl c2)
          · by_cases c3 : x.bef.testBit i = true
            · exact .inr (.inr c3)
            · exact absurd (by simpa using c3) (e2 (by cases hb : Nat.beq k0 i with | false => rfl | true => exact absurd hb c1) (by simpa using c2))
    | succ k =>
      split at h
      · exact rest h k rfl
      · split at h
        · exact rest h k rfl
        · split at h
          · cases h
          · exact rest h k rfl
omit [SemC] in
theorem k2All_spec (all : List It) (D : Nat) (hD : ∀ (k : Nat) (it : It) (d : Nat), all[k]? = some it → it.o.dst = some d → D.testBit d = true) : ∀ (l : List It) (i0 : Nat), k2All all D i0 l = true →
    ∀ (i : Nat) (it : It), l[i]? = some it → ∀ t, .tmp t ∈ it.o.op.operands → ∀ (k : Nat) (itk : It), all[k]? = some itk → itk.o.dst = some t → k = i0 + i ∨ it.bef.testBit k = true ∨ itk.bef.testBit (i0 + i) = true
  | [], _, _, i, it, h, _, _, _, _, _, _ => by simp at h
  | x :: l, i0, h, i, it, hi, t, ht, k, itk, hk, hd => by
    have rest : k2All all D (i0 + 1) l = true → ∀ i', i = i' + 1 → k = i0 + i ∨ it.bef.testBit k = true ∨ itk.bef.testBit (i0 + i) = true := by
      rintro hr i' rfl
      have := k2All_spec all D hD l (i0 + 1) hr i' it (by simpa using hi) t ht k itk hk hd
      rwa [show i0 + (i' + 1) = i0 + 1 + i' by omega]
    simp only [k2All] at h
    cases i with
    | succ i =>
      split at h
      · exact rest h i rfl
      · split at h
        · exact rest h i rfl
        · cases h
    | zero =>
      simp at hi; subst hi
      have hm := opMask_bit x.o.op.operands.toList t (by simpa using ht)
      split at h
      · rename_i hb
        have h0 := Nat.eq_of_beq_eq_true hb
        have : (opMask x.o.op.operands.toList &&& D).testBit t = true := by rw [Nat.testBit_and, hm, hD k itk t hk hd]; rfl
        rw [h0] at this; simp at this
      · split at h
        · rename_i hone
          have := k2One_spec _ _ _ all 0 hone k itk t hk hd hm
          simp only [Nat.zero_add, Nat.add_zero] at this ⊢
          exact this
        · cases h
omit [SemC] in
theorem k3All_spec (T : Tbl) (nx0 : Nat) (al : List (Nat × AO)) (hp : Tr AO) (nd em efa : Nat) : ∀ (l : List It) (i0 ei : Nat), k3All T nx0 al hp nd em efa i0 ei l = true →
    ∀ (i : Nat) (it : It), l[i]? = some it → it.rk = .pr → (ei ||| efM i0 (l.take i)) ≠ em → (∀ j, it.bef.testBit j = true → efa.testBit j = true → em.testBit j = true) → nd.testBit (i0 + i) = false →
      pev T (oev it.tm) (addA nx0 (fun k => it.bef.testBit k && !nd.testBit k) al hp) it.o.op = some (.v it.val)
  | [], _, _, _, i, it, h, _, _, _, _ => by simp at h
  | x :: l, i0, ei, h, i, it, hi, hr, hne, hsub, hnd => by
    have rest : ∀ ei', k3All T nx0 al hp nd em efa (i0 + 1) ei' l = true → ei' = (ei ||| match x.rk with | .ef _ => 2 ^ i0 | _ => 0) → ∀ i', i = i' + 1 →
        pev T (oev it.tm) (addA nx0 (fun k => it.bef.testBit k && !nd.testBit k) al hp) it.o.op = some (.v it.val) := by
      rintro ei' hr' he i' rfl
      refine k3All_spec T nx0 al hp nd em efa l (i0 + 1) ei' hr' i' it (by simpa using hi) hr ?_ hsub (by rwa [show i0 + 1 + i' = i0 + (i' + 1) by omega])
      rw [he]
      simp only [List.take_succ_cons, efM] at hne
      rw [Nat.or_assoc]; exact hne
    simp only [k3All] at h
    cases i with
    | succ i =>
      split at h
      · rename_i hx
        rw [hx] at rest
        split at h
        · split at h
          · split at h
            · exact rest _ h (by simp) i rfl
            · cases h
          · cases h
        · exact rest _ h (by simp) i rfl
      · rename_i hx
        rw [hx] at rest
        exact rest _ h rfl i rfl
      · rename_i h1 h2
        exact rest _ h (by cases hx : x.rk <;> simp [hx] at h2 ⊢) i rfl
    | zero =>
      simp at hi; subst hi
      rw [hr] at h
      simp only at h
      split at h
      · split at h
        · rename_i v hv
          split at h
          · rename_i hvid
            rw [hv, vid_spec 40 _ _ hvid]
          · cases h
        · cases h
      · rename_i hno
        exfalso
        have c1 : Nat.beq ei em = false := by
          cases hc : Nat.beq ei em with
          | false => rfl
          | true => exact absurd (Nat.eq_of_beq_eq_true hc) (by simpa [efM] using hne)
        have c2 : Nat.beq ((x.bef &&& efa) ||| em) em = true := by
          have e : (x.bef &&& efa) ||| em = em := by
            apply Nat.eq_of_testBit_eq
            intro j
            rw [Nat.testBit_or, Nat.testBit_and]
            cases h1 : x.bef.testBit j
            · simp
            · cases h2 : efa.testBit j
              · simp
              · simp [hsub j h1 h2]
          rw [e]; exact Nat.beq_refl em
        exact hno c1 c2 (by simpa using hnd)
omit [SemC] in
theorem k4All_spec (nx0 : Nat) (hp : Tr AO) (nd : Nat) : ∀ (l : List (Nat × AO)), k4All nx0 hp nd l = true → ∀ k ao, (k, ao) ∈ l → nd.testBit k = false → hp.get (nx0 + k) = none
  | [], _, k, ao, h, _ => by simp at h
  | (j, bo) :: l, h, k, ao, hm, hn => by
    simp only [k4All] at h
    rcases List.mem_cons.1 hm with e | hm'
    · cases e
      rw [hn] at h
      simp only at h
      split at h
      · assumption
      · cases h
    · split at h
      · exact k4All_spec nx0 hp nd l h k ao hm' hn
      · split at h
        · exact k4All_spec nx0 hp nd l h k ao hm' hn
        · cases h
def isStage (its : List It) (q : Nat) : Prop := q = 0 ∨ ∃ (k : Nat) (it : It), q = k + 1 ∧ its[k]? = some it ∧ it.rk.isEf = true
omit [SemC] in
theorem stages_mem : ∀ (l : List It) (i k : Nat) (it : It), l[k]? = some it → it.rk.isEf = true → i + k + 1 ∈ stages i l
  | [], _, _, _, h, _ => by simp at h
  | x :: l, i, 0, it, h, he => by
    simp at h; subst h
    cases hx : x.rk <;> simp [hx, Rk.isEf] at he
    simp [stages, hx]
  | x :: l, i, k + 1, it, h, he => by
    have := stages_mem l (i + 1) k it (by simpa using h) he
    rw [show i + (k + 1) + 1 = i + 1 + k + 1 by omega]
    cases hx : x.rk <;> simp [stages, hx, this]
omit [SemC] in
theorem chkSt_spec {T : Tbl} {nx0 : Nat} {H0 : AH} {its : List It} {al : List (Nat × AO)} {efa : Nat} : ∀ {l : List Nat}, chkSt T nx0 H0 its al efa l = true → ∀ q ∈ l,
    k3All T nx0 al (stH H0 (its.take q)).hp (needM (its.take q)) (efM 0 (its.take q)) efa 0 0 its = true ∧ k4All nx0 (stH H0 (its.take q)).hp (needM (its.take q)) al = true
  | [], _, q, h => by simp at h
  | p :: l, h, q, hq => by
    simp only [chkSt] at h
    split at h
    · rename_i h1 h2
      rcases List.mem_cons.1 hq with rfl | hq
      · exact ⟨h1, h2⟩
      · exact chkSt_spec h q hq
    · cases h

/-- What is asked of a region's run. -/
structure RC (T : Tbl) (E : Ev) (ops : Array Oper) (nx0 sz : Nat) (H0 : AH) (tm0 : Tr Value) (its : List It) : Prop where
  len : its.length = ops.size
  lim : nx0 + ops.size < Tr.lim
  nx : H0.nx = nx0 + ops.size
  inf : ∀ (j : Nat) (it : It), its[j]? = some it → IF T E ops nx0 sz H0 tm0 (its.take j) it
  k2 : ∀ (i : Nat) (it : It), its[i]? = some it → ∀ t, .tmp t ∈ it.o.op.operands → ∀ (k : Nat) (itk : It), its[k]? = some itk → itk.o.dst = some t → k = i ∨ it.bef.testBit k = true ∨ itk.bef.testBit i = true
  k3 : ∀ (i : Nat) (it : It), its[i]? = some it → it.rk = .pr → ∀ q, isStage its q → (∀ (k : Nat) (itk : It), its[k]? = some itk → itk.rk.isEf = true → it.bef.testBit k = true → k < q) → (needM (its.take q)).testBit i = false →
    ∃ (al : List (Nat × AO)), (∀ x ∈ al, x ∈ alls 0 its) ∧ (al.map (·.1)).Nodup ∧ pev T (oev it.tm) (addA nx0 (fun k => it.bef.testBit k && !(needM (its.take q)).testBit k) al (stH H0 (its.take q)).hp) it.o.op = some (.v it.val)
  k4 : ∀ q, isStage its q → ∀ k ao, (k, ao) ∈ alls 0 its → (needM (its.take q)).testBit k = false → (stH H0 (its.take q)).hp.get (nx0 + k) = none

omit [SemC] in
theorem alls_take {its : List It} {i k : Nat} {ao : AO} (h : (k, ao) ∈ alls 0 (its.take i)) : (k, ao) ∈ alls 0 its ∧ k < i := by
  obtain ⟨j, it, h1, h2, h3⟩ := (alls_mem _ _ _ _).1 h
  have hlt : j < i := by
    have := (List.getElem?_eq_some_iff.1 h1).1
    simp at this; omega
  rw [List.getElem?_take_of_lt hlt] at h1
  exact ⟨(alls_mem _ _ _ _).2 ⟨j, it, h1, h2, h3⟩, by omega⟩

omit [SemC] in
theorem RC.of_chk {T : Tbl} {E : Ev} {ops : Array Oper} {nx0 sz : Nat} {H0 : AH} {tm0 : Tr Value} {its : List It} (hl : its.length = ops.size) (hlim : nx0 + ops.size < Tr.lim) (hnx : H0.nx = nx0 + ops.size)
    (hinf : ∀ (j : Nat) (it : It), its[j]? = some it → IF T E ops nx0 sz H0 tm0 (its.take j) it) (h : chkD T nx0 H0 its = true) : RC T E ops nx0 sz H0 tm0 its := by
  unfold chkD at h
  split at h
  · rename_i h2
    have hst : ∀ q, isStage its q → q ∈ 0 :: stages 0 its := by
      rintro q (rfl | ⟨k, it, rfl, h3, h4⟩)
      · simp
      · have := stages_mem its 0 k it h3 h4
        rw [Nat.zero_add] at this
        exact List.mem_cons_of_mem _ this
    have exact1 : ∀ q j, (efM 0 (its.take q)).testBit j = true ↔ j < q ∧ ∃ it : It, its[j]? = some it ∧ it.rk.isEf = true := by
      intro q j
      rw [efM_bit]
      constructor
      · rintro ⟨k, it, h3, h4, h5⟩
        rw [Nat.zero_add] at h5; subst h5
        have hlt : j < q := by
          have := (List.getElem?_eq_some_iff.1 h3).1
          simp at this; omega
        rw [List.getElem?_take_of_lt hlt] at h3
        exact ⟨hlt, it, h3, h4⟩
      · rintro ⟨hlt, it, h3, h4⟩
        exact ⟨j, it, by rw [List.getElem?_take_of_lt hlt]; exact h3, h4, by simp⟩
    refine ⟨hl, hlim, hnx, hinf, ?_, ?_, ?_⟩
    · intro i it hi t ht k itk hk hd
      have := k2All_spec its (dstM its) (fun k it d => dstM_bit its k it d) its 0 h2 i it hi t ht k itk hk hd
      simpa using this
    · intro i it hi hr q hq hbe hnd
      by_cases c : efM 0 (its.take i) = efM 0 (its.take q)
      · have hs := stage_same (H0 := H0) (its := its) (q := q) (i := i) (by
          intro k itk hk he
          have a := exact1 i k
          have b := exact1 q k
          rw [c] at a
          constructor
          · intro hlt; exact (a.1 (b.2 ⟨hlt, itk, hk, he⟩)).1
          · intro hlt; exact (b.1 (a.2 ⟨hlt, itk, hk, he⟩)).1)
        have hk := (hinf i it hi).kind
        rw [hr] at hk
        simp only at hk
        rw [hs.1, hs.2] at hk
        exact ⟨alls 0 (its.take i), fun x hx => (alls_take hx).1, alls_nodup _ _, hk.2⟩
      · have := k3All_spec T nx0 _ _ _ _ _ its 0 0 (chkSt_spec h q (hst q hq)).1 i it hi hr (by rw [Nat.zero_or]; exact c) (by
          intro j h3 h4
          obtain ⟨k, itk, g1, g2, g3⟩ := (efM_bit its 0 j).1 h4
          rw [Nat.zero_add] at g3; subst g3
          exact (exact1 q j).2 ⟨hbe j itk g1 g2 h3, itk, g1, g2⟩) (by simpa using hnd)
        exact ⟨_, fun _ h => h, alls_nodup _ _, this⟩
    · intro q hq
      exact k4All_spec _ _ _ _ (chkSt_spec h q (hst q hq)).2
  · cases h
end
end Go.Am
