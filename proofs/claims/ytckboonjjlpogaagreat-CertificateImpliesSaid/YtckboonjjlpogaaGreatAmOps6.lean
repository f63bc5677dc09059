/- Operations of the abstract machine: copy, maps that are written, iterators that step. -/
import Derived.Test.YtckboonjjlpogaaGreatAmOps5
set_option linter.unusedVariables false
set_option linter.unusedSimpArgs false
namespace Go.Am
noncomputable section
variable [SemC]

/-! ### copy -/
def eCopy (T : Tbl) (H : AH) (t : TypeId) (d s : Value) : Option (Value × AH) :=
  match T.ty.get t with
  | some (_, .slice e) => match T.ty.get e with
    | some (ie, _) => match rdCells H.hp ie.size s with
      | some (n, cs) => match d with
        | .slice none 0 0 => some (.int .i64 0, H)
        | .slice (some ⟨b, o, none⟩) dl _ => match Nat.beq (Nat.min n dl) 0 with
          | true => some (.int .i64 0, H)
          | false => match H.hp.get b with
            | some (.cells esz vs) => match Nat.ble (o + Nat.min n dl * ie.size) vs.length, oneL cs, Nat.blt b Tr.lim with
              | true, true, true => some (.int .i64 (.ofNat (Nat.min n dl)), ⟨H.hp.set b (some (.cells esz (setAll vs o (cs.take (Nat.min n dl * ie.size))))), H.nx⟩)
              | _, _, _ => none
            | _ => none
        | _ => none
      | none => none
    | none => none
  | _ => none

omit [SemC] in
theorem oneL_take : ∀ (n : Nat) (l : List Value), oneL l = true → oneL (l.take n) = true
  | 0, _, _ => rfl
  | _ + 1, [], _ => rfl
  | n + 1, v :: l, h => by
    unfold oneL at h
    split at h
    · rename_i h1
      simp only [List.take_succ_cons, oneL, h1]
      exact oneL_take n l h
    · cases h

theorem eCopy_sound {P : Program} {T : Tbl} (hT : TblOK P T) {θ : Th} {H H' : AH} {w : World} (hR : RH θ H w) {t ty : TypeId} {ts : List TypeId} {d s d' s' v : Value} (hd : VR θ d d') (hs : VR θ s s')
    (h : eCopy T H t d s = some (v, H')) : ∃ w', (Builtin.copy_ ⟨t :: ts⟩ ty #[d', s']).run P w = .ok v w' ∧ cst v = true ∧ RH θ H' w' ∧ Fr θ H w θ H' w' := by
  unfold eCopy at h
  split at h
  · rename_i it e ht
    split at h
    · rename_i ie de he
      split at h
      · rename_i n cs hrd
        obtain ⟨news', n1, n2, n3, n4⟩ := rdCells_sound (P := P) ⟨hR.obj, hR.inj⟩ hs hrd
        have key : ∀ (base : Option Addr) (dl cap : Nat), (Builtin.copy_ ⟨t :: ts⟩ ty #[.slice base dl cap, s']).run P w =
            ((match base with | some a => storeCells a (news'.take (Nat.min n dl * ie.size)) | none => pure () : Sem Unit).run P w).andThen fun _ w' => .ok (goInt (Nat.min n dl)) w' := by
          intro base dl cap
          have := n4 (Nat.min n dl) w (Nat.min_le_left _ _) rfl
          cases base with
          | none => simp [Builtin.copy_, run_und hT ht, n3, run_siz hT he, this]
          | some a => simp [Builtin.copy_, run_und hT ht, n3, run_siz hT he, this]
        split at h
        · cases h; cases hd
          refine ⟨w, ?_, rfl, hR, Fr.refl _ _ _⟩
          rw [key]; simp [goInt]
        · rename_i b o dl cap
          split at h
          · rename_i hz
            have hz' := Nat.eq_of_beq_eq_true hz
            cases h
            have fin : ∀ a c, (Builtin.copy_ ⟨t :: ts⟩ ty #[.slice (some a) dl c, s']).run P w = .ok (.int .i64 0) w := fun a c => by
              rw [key, hz']; simp [storeCells, goInt]
            cases hd with
            | sl => exact ⟨w, fin _ _, rfl, hR, Fr.refl _ _ _⟩
            | slU => exact ⟨w, fin _ _, rfl, hR, Fr.refl _ _ _⟩
            | slZ => exact ⟨w, fin _ _, rfl, hR, Fr.refl _ _ _⟩
          · rename_i hz
            have hz' := Nat.ne_of_beq_eq_false hz
            split at h
            · rename_i esz vs hg
              split at h
              · rename_i h1 h2 h3
                have h1' := Nat.le_of_ble_eq_true h1
                have h3' := blt_spec h3
                cases h
                have hx := n1.take (Nat.min n dl * ie.size)
                have hlen : (cs.take (Nat.min n dl * ie.size)).length ≤ Nat.min n dl * ie.size := List.length_take_le _ _
                have fin : ∀ (p : Pl) (c : Nat), θ b = some p → ∃ w', (Builtin.copy_ ⟨t :: ts⟩ ty #[.slice (some ⟨p.cb, p.off + o, none⟩) dl c, s']).run P w = .ok (.int .i64 (.ofNat (Nat.min n dl))) w' ∧
                    RH θ ⟨H.hp.set b (some (.cells esz (setAll vs o (cs.take (Nat.min n dl * ie.size))))), H.nx⟩ w' ∧
                    Fr θ H w θ ⟨H.hp.set b (some (.cells esz (setAll vs o (cs.take (Nat.min n dl * ie.size))))), H.nx⟩ w' := by
                  intro p c hp
                  obtain ⟨w', s1, s2, s3⟩ := write_cells (P := P) hR hg h3' hp (o := o) hx (oneL_take _ _ h2) (by omega)
                  refine ⟨w', ?_, s2, s3⟩
                  rw [key]; simp only [s1, Result.andThen_ok]; rfl
                cases hd with
                | sl hp _ => obtain ⟨w', s1, s2, s3⟩ := fin _ cap hp; exact ⟨w', s1, rfl, s2, s3⟩
                | slU hp _ _ => rename_i c' ; obtain ⟨w', s1, s2, s3⟩ := fin _ _ hp; exact ⟨w', s1, rfl, s2, s3⟩
                | slZ => exact absurd (Nat.min_zero n) hz'
              · cases h
            · cases h
        · cases h
      · cases h
    · cases h
  · cases h

/-! ### Maps that are written -/
/-- Equality of simple values without places. -/
def ceqB : Value → Value → Bool
  | .bool a, .bool b => a == b
  | .int k a, .int j b => match decide (k = j) with | true => decide (a = b) | false => false
  | .string ⟨⟨a⟩⟩, .string ⟨⟨b⟩⟩ => a == b
  | _, _ => false
def ceqL (rec : Value → Value → Bool) : List Value → List Value → Bool
  | [], [] => true
  | x :: xs, y :: ys => match rec x y with
    | true => ceqL rec xs ys
    | false => false
  | _, _ => false
def ceq : Nat → Value → Value → Bool
  | 0, a, b => ceqB a b
  | n + 1, a, b => match a, b with
    | .agg ⟨xs⟩, .agg ⟨ys⟩ => ceqL (ceq n) xs ys
    | a, b => ceqB a b

mutual
theorem VR.cst_eq {θ : Th} : ∀ {v v' : Value}, VR θ v v' → cst v = true → v' = v
  | _, _, .bool _, _ => rfl
  | _, _, .int _ _, _ => rfl
  | _, _, .str _, _ => rfl
  | _, _, .ptrN, _ => rfl
  | _, _, .ptr _, h => by simp [cst] at h
  | _, _, .slN, _ => rfl
  | _, _, .sl _ _, h => by simp [cst] at h
  | _, _, .slU _ _ _, h => by simp [cst] at h
  | _, _, .slZ _, h => by simp [cst] at h
  | _, _, .mapN, _ => rfl
  | _, _, .map _, h => by simp [cst] at h
  | _, _, .nilFunc, _ => rfl
  | _, _, .func a b, h => by
    simp only [cst, Bool.and_eq_true] at h
    rw [LR.cst_eq a h.1, LR.cst_eq b h.2]
  | _, _, .yield _, h => by simp [cst] at h
  | _, _, .nilIface, _ => rfl
  | _, _, .iface a, h => by simp only [cst] at h; rw [VR.cst_eq a h]
  | _, _, .agg a, h => by simp only [cst] at h; rw [LR.cst_eq a h]
  | _, _, .tuple a, h => by simp only [cst] at h; rw [LR.cst_eq a h]
theorem LR.cst_eq {θ : Th} : ∀ {v v' : List Value}, LR θ v v' → cstL v = true → v' = v
  | _, _, .nil, _ => rfl
  | _, _, .cons a b, h => by
    simp only [cstL, Bool.and_eq_true] at h
    rw [VR.cst_eq a h.1, LR.cst_eq b h.2]
end

omit [SemC] in
theorem ceqB_spec (m : Nat) (a b : Value) (h : ceqB a b = true) : a = b ∧ cst a = true ∧ Instr.sameBits m a a = true := by
  unfold ceqB at h
  split at h
  · rename_i a b
    have : a = b := by simpa using h
    subst this
    exact ⟨rfl, rfl, by simp [Instr.sameBits]⟩
  · split at h
    · rename_i hk
      have := of_decide_eq_true hk
      have hx := of_decide_eq_true h
      subst this; subst hx
      exact ⟨rfl, rfl, by simp [Instr.sameBits]⟩
    · cases h
  · rename_i a b
    have : a = b := by simpa using h
    subst this
    refine ⟨rfl, rfl, ?_⟩
    simp only [Instr.sameBits]
    rw [beq_toListBytes]
    simp
  · cases h

omit [SemC] in
theorem ceqL_spec (m : Nat) (rec : Value → Value → Bool) (hr : ∀ a b, rec a b = true → a = b ∧ cst a = true ∧ Instr.sameBits m a a = true) : ∀ (a b : List Value), ceqL rec a b = true →
    a = b ∧ cstL a = true ∧ ((a.zip a).all fun (x, y) => Instr.sameBits m x y) = true
  | [], [], _ => ⟨rfl, rfl, rfl⟩
  | [], _ :: _, h => by simp [ceqL] at h
  | _ :: _, [], h => by simp [ceqL] at h
  | x :: xs, y :: ys, h => by
    simp only [ceqL] at h
    split at h
    · rename_i h1
      obtain ⟨e1, e2, e3⟩ := hr x y h1
      obtain ⟨f1, f2, f3⟩ := ceqL_spec m rec hr xs ys h
      subst e1; subst f1
      exact ⟨rfl, by simp [cstL, e2, f2], by simp only [List.zip_cons_cons, List.all_cons, e3, f3]; rfl⟩
    · cases h

omit [SemC] in
theorem ceq_spec : ∀ (n m : Nat) (a b : Value), n ≤ m → ceq n a b = true → a = b ∧ cst a = true ∧ Instr.sameBits m a a = true
  | 0, m, a, b, _, h => ceqB_spec m a b h
  | n + 1, 0, _, _, hm, _ => by omega
  | n + 1, m + 1, a, b, hm, h => by
    unfold ceq at h
    split at h
    · obtain ⟨h1, h2, h3⟩ := ceqL_spec m (ceq n) (fun a b hab => ceq_spec n m a b (by omega) hab) _ _ h
      subst h1
      refine ⟨rfl, by simpa [cst] using h2, ?_⟩
      simp only [Instr.sameBits, beq_self_eq_true, Bool.true_and]
      simpa using h3
    · exact ceqB_spec _ a b h

theorem ER.get {θ : Th} : ∀ {es : List (Value × Value × Nat)} {es' : List MapEntry}, ER θ es es' → ∀ (i : Nat) (k v : Value) (b : Nat), es[i]? = some (k, v, b) →
    ∃ k' v', es'[i]? = some ⟨k', v', b⟩ ∧ VR θ k k' ∧ VR θ v v'
  | _, _, .nil, i, _, _, _, h => by simp at h
  | _, _, .cons hk hv _, 0, _, _, _, h => by simp at h; obtain ⟨rfl, rfl, rfl⟩ := h; exact ⟨_, _, by simp, hk, hv⟩
  | _, _, .cons _ _ hr, i + 1, k, v, b, h => by
    obtain ⟨k', v', h1, h2⟩ := ER.get hr i k v b (by simpa using h)
    exact ⟨k', v', by simpa using h1, h2⟩
theorem ER.modify {θ : Th} {k k' v v' : Value} (hk : VR θ k k') (hv : VR θ v v') : ∀ {es : List (Value × Value × Nat)} {es' : List MapEntry}, ER θ es es' → ∀ (i : Nat) (k0 v0 : Value) (b : Nat), es[i]? = some (k0, v0, b) →
    ER θ (es.set i (k, v, b)) (es'.modify i fun e => { e with key := k', val := v' })
  | _, _, .nil, i, _, _, _, h => by simp at h
  | _, _, .cons _ _ hr, 0, _, _, _, h => by
    simp at h; obtain ⟨_, _, rfl⟩ := h
    simp only [List.set_cons_zero, List.modify_zero_cons]
    exact .cons hk hv hr
  | _, _, .cons a b hr, i + 1, k0, v0, c, h => by
    simp only [List.set_cons_succ, List.modify_succ_cons]
    exact .cons a b (ER.modify hk hv hr i k0 v0 c (by simpa using h))
theorem ER.snoc {θ : Th} {k k' v v' : Value} {b : Nat} (hk : VR θ k k') (hv : VR θ v v') : ∀ {es : List (Value × Value × Nat)} {es' : List MapEntry}, ER θ es es' → ER θ (es ++ [(k, v, b)]) (es' ++ [⟨k', v', b⟩])
  | _, _, .nil => .cons hk hv .nil
  | _, _, .cons a b hr => .cons a b (ER.snoc hk hv hr)

/-- An object that is no cells is put in the place of one. -/
theorem write_obj {P : Program} {θ : Th} {H : AH} {w : World} (hR : RH θ H w) {b : Nat} {o o' : AO} (hg : H.hp.get b = some o) (hb : b < Tr.lim) {p : Pl} (hp : θ b = some p) {x x' : Obj} (hx : w.heap[p.cb]? = some x)
    (hn : ∀ c e f, x ≠ .cells c e f) (ho : ORel θ (w.heap.setIfInBounds p.cb x') p o') (hw : o.wr = true := by rfl) :
    (setObj p.cb x').run P w = .ok () { w with heap := w.heap.setIfInBounds p.cb x' } ∧ RH θ ⟨H.hp.set b (some o'), H.nx⟩ { w with heap := w.heap.setIfInBounds p.cb x' } ∧
      Fr θ H w θ ⟨H.hp.set b (some o'), H.nx⟩ { w with heap := w.heap.setIfInBounds p.cb x' } := by
  have hoth : ∀ k, k ≠ p.cb → (w.heap.setIfInBounds p.cb x')[k]? = w.heap[k]? := fun k hk => by simp [Ne.symm hk]
  refine ⟨?_, ⟨RO.change ⟨hR.obj, hR.inj⟩ hg hp hoth ho hb hw, hR.fresh⟩, ⟨by simp, rfl, rfl, rfl, ?_, ?_, fun _ _ => rfl, Nat.le_refl _⟩⟩
  · cases x <;> first | exact absurd rfl (hn _ _ _) | simp [setObj, Sem.run, hx]
  · intro k hk hno
    exact hoth k (fun e => hno ⟨b, _, p, hg, hw, hp, e.symm⟩)
  · intro k _ ho
    exact own_change hg hb ho hw

omit [SemC] in
theorem heap_set_same {h : Array Obj} {i : Nat} {x y : Obj} (hx : h[i]? = some x) : (h.setIfInBounds i y)[i]? = some y := by
  have := (Array.getElem?_eq_some_iff.1 hx).1
  simp [this]

def eMapUpdate (T : Tbl) (H : AH) (t : TypeId) (m k v : Value) : Option (Value × AH) :=
  match T.ty.get t with
  | some (_, .map kt _) => match T.ty.get kt, m with
    | some _, .map (some b) => match H.hp.get b with
      | some (.map es clock) => match keyOk T 50 kt k, Nat.blt b Tr.lim, findK T kt k es 0 with
        | true, true, some none => some (undef, ⟨H.hp.set b (some (.map (es ++ [(k, v, clock)]) (clock + 1))), H.nx⟩)
        | true, true, some (some (i, _)) => match es[i]? with
          | some (k0, _, born) => match ceq 50 k0 k with
            | true => some (undef, ⟨H.hp.set b (some (.map (es.set i (k, v, born)) clock)), H.nx⟩)
            | false => none
          | none => none
        | _, _, _ => none
      | _ => none
    | _, _ => none
  | _ => none

theorem eMapUpdate_sound {P : Program} {T : Tbl} (hT : TblOK P T) {θ : Th} {H H' : AH} {w : World} (hR : RH θ H w) {t : TypeId} {m k v m' k' v' u : Value} (hm : VR θ m m') (hk : VR θ k k') (hv : VR θ v v')
    (h : eMapUpdate T H t m k v = some (u, H')) : ∃ w', (Instr.mapUpdate t m' k' v').run P w = .ok () w' ∧ u = undef ∧ RH θ H' w' ∧ Fr θ H w θ H' w' := by
  unfold eMapUpdate at h
  split at h
  · rename_i it kt et ht
    split at h
    · rename_i ik b hkt
      obtain ⟨ik, dk⟩ := ik
      split at h
      · rename_i es clock hg
        cases hm with
        | map hp =>
          rename_i p
          obtain ⟨es', hmap, her⟩ := map_at ⟨hR.obj, hR.inj⟩ hg hp
          split at h
          · rename_i h1 h2 hf
            cases h
            have h2' := blt_spec h2
            have hck := keyOk_sound hT w false 50 10000 kt k k' (by omega) h1 hk
            obtain ⟨r', f1, f2⟩ := findKey_sound hT w hkt hk her hf
            cases r' with
            | some _ => exact f2.elim
            | none =>
              obtain ⟨s1, s2, s3⟩ := write_obj (P := P) hR hg h2' hp hmap (fun _ _ _ e => by cases e) (o' := .map (es ++ [(k, v, clock)]) (clock + 1)) (x' := .map (es'.push ⟨k', v', clock⟩) (clock + 1))
                ⟨_, heap_set_same hmap, by simpa using her.snoc hk hv⟩
              exact ⟨_, by simp [Instr.mapUpdate, run_und hT ht, run_getMap hmap, hck, f1, s1], rfl, s2, s3⟩
          · rename_i i _ h1 h2 hf
            split at h
            · rename_i k0 v0 born hi
              split at h
              · rename_i hc
                cases h
                have h2' := blt_spec h2
                have hck := keyOk_sound hT w false 50 10000 kt k k' (by omega) h1 hk
                obtain ⟨r', f1, f2⟩ := findKey_sound hT w hkt hk her hf
                cases r' with
                | none => exact f2.elim
                | some y =>
                  obtain ⟨j, y⟩ := y
                  obtain ⟨rfl, _⟩ := f2
                  obtain ⟨k0', v0', g1, g2, g3⟩ := her.get _ _ _ _ hi
                  obtain ⟨c1, c2, c3⟩ := ceq_spec 50 10000 k0 k (by omega) hc
                  subst c1
                  have e1 := g2.cst_eq c2
                  have e2 := hk.cst_eq c2
                  subst e1
                  rw [e2] at hk ⊢
                  have hkey : (Instr.keyThatStays (((es'[i]?).map (·.key)).getD k0') k0').run P w = .ok k0' w := by
                    rw [Array.getElem?_toList] at g1
                    simp only [g1, Option.map_some, Option.getD_some]
                    unfold Instr.keyThatStays
                    rw [c3]; rfl
                  obtain ⟨s1, s2, s3⟩ := write_obj (P := P) hR hg h2' hp hmap (fun _ _ _ e => by cases e) (o' := .map (es.set i (k0', v, born)) clock) (x' := .map (es'.modify i fun e => { e with key := k0', val := v' }) clock)
                    ⟨_, heap_set_same hmap, by simpa using her.modify hk hv i _ _ _ hi⟩
                  rw [e2] at hck f1
                  refine ⟨_, ?_, rfl, s2, s3⟩
                  simp only [Instr.mapUpdate, Sem.run_bind, run_und hT ht, Result.andThen_ok, run_getMap hmap, hck, f1, hkey]
                  exact s1
              · cases h
            · cases h
          · cases h
      · cases h
    · cases h
  · cases h

/-! ### Iterators that step -/
def hasB (seen : List Nat) (b : Nat) : Bool :=
  match seen with
  | [] => false
  | x :: xs => match Nat.beq b x with
    | true => true
    | false => hasB xs b
def leftOf (seen : List Nat) : List (Value × Value × Nat) → List (Value × Value × Nat)
  | [] => []
  | e :: es => match hasB seen e.2.2 with
    | true => leftOf seen es
    | false => e :: leftOf seen es
def allOld (since : Nat) : List (Value × Value × Nat) → Bool
  | [] => true
  | e :: es => match Nat.blt e.2.2 since with
    | true => allOld since es
    | false => false

def stepOf (H : AH) (r m since : Nat) (seen : List Nat) (clock : Nat) (e : Value × Value × Nat) : Value × AH :=
  (.tuple ⟨[.bool true, e.1, e.2.1]⟩, ⟨H.hp.set r (some (.miter (some m) since (seen ++ [e.2.2]) clock)), H.nx⟩)
def overV : Value := .tuple ⟨[.bool false]⟩

/-- The steps that an iterator may make. Of a map: whatever is left, if nothing came in since. -/
def eNext (H : AH) (it : Value) (isString : Bool) : Option (List (Value × AH)) :=
  match it with
  | .pointer (some ⟨r, 0, none⟩) => match Nat.blt r Tr.lim with
    | false => none
    | true => match H.hp.get r, isString with
      | some (.siter s pos), true => match Nat.blt pos s.size with
        | true => let d := Utf8.decode s pos
          some [(.tuple ⟨[.bool true, .int .i64 (.ofNat pos), .int .i32 d.1]⟩, ⟨H.hp.set r (some (.siter s (pos + d.2))), H.nx⟩)]
        | false => some [(overV, H)]
      | some (.miter none _ _ _), false => some [(overV, H)]
      | some (.miter (some m) since seen last), false => match H.hp.get m with
        | some (.map es clock) => match allOld since es, allOld last es with
          | true, true => match leftOf seen es with
            | [] => some [(overV, H)]
            | l => some (l.map (stepOf H r m since seen clock))
          | _, _ => none
        | _ => none
      | _, _ => none
  | _ => none

omit [SemC] in
theorem hasB_eq : ∀ (seen : List Nat) (b : Nat), hasB seen b = (⟨seen⟩ : Array Nat).contains b
  | [], b => by simp [hasB]
  | x :: xs, b => by
    have ih := hasB_eq xs b
    simp only [List.contains_toArray] at ih ⊢
    unfold hasB
    rw [List.contains_cons]
    cases hb : Nat.beq b x with
    | true => have := Nat.eq_of_beq_eq_true hb; simp [this]
    | false => have := Nat.ne_of_beq_eq_false hb; simp [this, ih]

theorem leftOf_rel {θ : Th} (seen : List Nat) : ∀ {es : List (Value × Value × Nat)} {es' : List MapEntry}, ER θ es es' → ER θ (leftOf seen es) (es'.filter fun e => !(⟨seen⟩ : Array Nat).contains e.born)
  | _, _, .nil => .nil
  | _, _, .cons (b := b) hk hv hr => by
    have ih := leftOf_rel seen hr
    unfold leftOf
    simp only [List.filter_cons, hasB_eq]
    cases hc : (⟨seen⟩ : Array Nat).contains b with
    | true => simpa using ih
    | false => simpa using ER.cons hk hv ih

theorem allOld_rel {θ : Th} (n : Nat) : ∀ {es : List (Value × Value × Nat)} {es' : List MapEntry}, ER θ es es' → allOld n es = true → ∀ e ∈ es', e.born < n
  | _, _, .nil, _ => by simp
  | _, _, .cons (b := b) hk hv hr, h => by
    unfold allOld at h
    split at h
    · rename_i hb
      intro e he
      rcases List.mem_cons.1 he with rfl | he
      · exact blt_spec hb
      · exact allOld_rel n hr h e he
    · cases h

theorem ER.mem {θ : Th} : ∀ {es : List (Value × Value × Nat)} {es' : List MapEntry}, ER θ es es' → ∀ (i : Nat) (e' : MapEntry), es'[i]? = some e' → ∃ k v, es[i]? = some (k, v, e'.born) ∧ VR θ k e'.key ∧ VR θ v e'.val
  | _, _, .nil, i, _, h => by simp at h
  | _, _, .cons hk hv _, 0, e', h => by simp at h; subst h; exact ⟨_, _, by simp, hk, hv⟩
  | _, _, .cons _ _ hr, i + 1, e', h => by
    obtain ⟨k, v, h1, h2⟩ := ER.mem hr i e' (by simpa using h)
    exact ⟨k, v, by simpa using h1, h2⟩

theorem eNext_sound {P : Program} {θ : Th} {H : AH} {w : World} (hR : RH θ H w) {it it' : Value} {isS : Bool} {ty : TypeId} {outs : List (Value × AH)} (hi : VR θ it it')
    (h : eNext H it isS = some outs) : ∃ v H' v' w', (v, H') ∈ outs ∧ (Instr.next it' isS ty).run P w = .ok v' w' ∧ VR θ v v' ∧ RH θ H' w' ∧ Fr θ H w θ H' w' := by
  unfold eNext at h
  split at h
  · rename_i r
    split at h
    · cases h
    · rename_i hlim
      have hlim' := blt_spec hlim
      cases hi with
      | ptr hp =>
        rename_i p
        split at h
        · rename_i s pos hg
          obtain ⟨q, hq, ho, hx⟩ := hR.obj _ _ hg
          rw [hp] at hq; cases hq
          have hgo : (getObj p.cb).run P w = .ok (.stringIter s pos) w := by simp [getObj, Sem.run, hx]
          split at h
          · rename_i hlt
            have hlt' := blt_spec hlt
            cases h
            obtain ⟨s1, s2, s3⟩ := write_obj (P := P) hR hg hlim' hp hx (fun _ _ _ e => by cases e) (o' := .siter s (pos + (Utf8.decode s pos).2)) (x' := .stringIter s (pos + (Utf8.decode s pos).2)) ⟨ho, heap_set_same hx⟩
            refine ⟨_, _, .tuple #[.bool true, goInt pos, .int .i32 (Utf8.decode s pos).1], _, List.mem_singleton.2 rfl, ?_, .tuple (.cons (.bool _) (.cons (.int _ _) (.cons (.int _ _) .nil))), s2, s3⟩
            simp [Instr.next, ho, hgo, hlt', s1]
          · rename_i hlt
            have hlt' : ¬ pos < s.size := fun hl => by rw [show Nat.blt pos s.size = true from Nat.ble_eq_true_of_le hl] at hlt; cases hlt
            cases h
            exact ⟨_, _, .tuple #[.bool false], w, List.mem_singleton.2 rfl, by simp [Instr.next, ho, hgo, hlt'], .tuple (.cons (.bool _) .nil), hR, Fr.refl _ _ _⟩
        · rename_i since seen last hg
          obtain ⟨q, hq, ho, hx⟩ := hR.obj _ _ hg
          rw [hp] at hq; cases hq
          have hgo : (getObj p.cb).run P w = .ok (.mapIter none since ⟨seen⟩ last) w := by simp [getObj, Sem.run, hx]
          cases h
          exact ⟨_, _, .tuple #[.bool false], w, List.mem_singleton.2 rfl, by simp [Instr.next, ho, hgo], .tuple (.cons (.bool _) .nil), hR, Fr.refl _ _ _⟩
        · rename_i m since seen last hg
          obtain ⟨q, hq, ho, mq, hmq, hx⟩ := hR.obj _ _ hg
          rw [hp] at hq; cases hq
          have hgo : (getObj p.cb).run P w = .ok (.mapIter (some mq.cb) since ⟨seen⟩ last) w := by simp [getObj, Sem.run, hx]
          split at h
          · rename_i es clock hm
            obtain ⟨es', hmap, her⟩ := map_at ⟨hR.obj, hR.inj⟩ hm hmq
            split at h
            · rename_i h1 h2
              have o1 := allOld_rel since her h1
              have o2 := allOld_rel last her h2
              have hl := leftOf_rel seen her
              generalize hL : es'.toList.filter (fun e => !(⟨seen⟩ : Array Nat).contains e.born) = L at hl
              have hleft : es'.filter (fun e => !(⟨seen⟩ : Array Nat).contains e.born) = ⟨L⟩ := by apply Array.ext'; rw [← hL]; simp
              have hmem : ∀ e ∈ L, e.born < since := fun e he => by rw [← hL] at he; exact o1 e (List.mem_filter.1 he).1
              have hold : (⟨L⟩ : Array MapEntry).filter (fun e => e.born < since) = ⟨L⟩ := by
                apply Array.ext'; simp only [Array.toList_filter]; exact List.filter_eq_self.2 (fun e he => by simpa using hmem e he)
              have hnew : (⟨L⟩ : Array MapEntry).filter (fun e => e.born ≥ since) = #[] := by
                apply Array.ext'; simp only [Array.toList_filter]; exact List.filter_eq_nil_iff.2 (fun e he => by have := hmem e he; simp; omega)
              have hbar : ¬ ((!(⟨seen⟩ : Array Nat).isEmpty && !es'.isEmpty && es'.all (·.born ≥ last)) = true) := by
                intro hh
                simp only [Bool.and_eq_true, Bool.not_eq_true'] at hh
                obtain ⟨⟨_, hne⟩, hall⟩ := hh
                have hne' : es'.toList ≠ [] := by intro e; have : es' = #[] := Array.ext' e; subst this; simp at hne
                obtain ⟨e, rest, hes⟩ := List.exists_cons_of_ne_nil hne'
                have he : e ∈ es'.toList := by rw [hes]; simp
                have := o2 e he
                have h3 := (Array.all_eq_true'.1 hall) e (Array.mem_toList_iff.1 he)
                simp at h3
                omega
              have run0 : ∀ (cand : Array (Option MapEntry)) , cand = (if (⟨L⟩ : Array MapEntry).isEmpty then #[none] else #[]) ++ (⟨L⟩ : Array MapEntry).map some →
                  (Instr.next (.pointer (some ⟨p.cb, 0, none⟩)) false ty).run P w = (do
                    match cand[← choose (.mapNext cand.size)]? with
                    | some (some e) =>
                      setObj p.cb (.mapIter (some mq.cb) since ((⟨seen⟩ : Array Nat).push e.born) clock)
                      pure (.tuple #[.bool true, e.key, e.val])
                    | some none => pure (.tuple #[.bool false])
                    | none => stuck "Next: no such candidate" : Sem Value).run P w := by
                intro cand hc
                subst hc
                simp only [Instr.next, Sem.run_bind, hgo, Result.andThen_ok, run_getMap hmap]
                rw [if_neg hbar, hleft, hold, hnew]
                simp
                rfl
              split at h
              · rename_i hnil
                rw [hnil] at hl
                cases hl
                cases h
                refine ⟨_, _, .tuple #[.bool false], w, List.mem_singleton.2 rfl, ?_, .tuple (.cons (.bool _) .nil), hR, Fr.refl _ _ _⟩
                have h0 : p.off + 0 = 0 := by omega
                rw [h0, run0 #[none] (by simp)]
                simp [Question.forced]
              · rename_i l hne
                cases h
                have hlen := hl.length
                have hpos : 0 < L.length := by
                  cases L with
                  | nil => exact absurd (List.eq_nil_of_length_eq_zero (by simpa using hlen)) hne
                  | cons _ _ => simp
                have hcand : (if (⟨L⟩ : Array MapEntry).isEmpty then #[none] else #[]) ++ (⟨L⟩ : Array MapEntry).map some = (⟨L.map some⟩ : Array (Option MapEntry)) := by
                  have : (⟨L⟩ : Array MapEntry).isEmpty = false := by cases L with | nil => simp at hpos | cons _ _ => rfl
                  rw [this]; apply Array.ext'; simp
                have pick : ∀ (i : Nat) (w1 : World), i < L.length → w1.heap = w.heap → w1.os = w.os → w1.tape = w.tape → w1.output = w.output →
                    ∃ v H' v' w', (v, H') ∈ (leftOf seen es).map (stepOf H r m since seen clock) ∧
                      (match (⟨L.map some⟩ : Array (Option MapEntry))[i]? with
                        | some (some e) => do
                          setObj p.cb (.mapIter (some mq.cb) since ((⟨seen⟩ : Array Nat).push e.born) clock)
                          pure (.tuple #[.bool true, e.key, e.val])
                        | some none => pure (.tuple #[.bool false])
                        | none => stuck "Next: no such candidate" : Sem Value).run P w1 = .ok v' w' ∧ VR θ v v' ∧ RH θ H' w' ∧ Fr θ H w θ H' w' := by
                  intro i w1 hi hh ho1 ht1 hu1
                  have hR1 : RH θ H w1 := ⟨⟨fun b o hg => by rw [hh]; exact hR.obj b o hg, hR.inj⟩, hR.fresh⟩
                  have hx1 : w1.heap[p.cb]? = some (.mapIter (some mq.cb) since ⟨seen⟩ last) := by rw [hh]; exact hx
                  have he' : L[i]? = some L[i] := List.getElem?_eq_getElem hi
                  obtain ⟨k, v, g1, g2, g3⟩ := hl.mem i _ he'
                  obtain ⟨s1, s2, s3⟩ := write_obj (P := P) hR1 hg hlim' hp hx1 (fun _ _ _ e => by cases e) (o' := .miter (some m) since (seen ++ [L[i].born]) clock)
                    (x' := .mapIter (some mq.cb) since ((⟨seen⟩ : Array Nat).push L[i].born) clock) ⟨ho, mq, hmq, by rw [heap_set_same hx1]; simp⟩
                  refine ⟨_, _, .tuple #[.bool true, L[i].key, L[i].val], _, List.mem_map.2 ⟨(k, v, L[i].born), List.mem_of_getElem? g1, rfl⟩, ?_, .tuple (.cons (.bool _) (.cons g2 (.cons g3 .nil))), s2, ?_⟩
                  · have : (⟨L.map some⟩ : Array (Option MapEntry))[i]? = some (some L[i]) := by simp [he']
                    rw [this]
                    simp only [Sem.run_bind, s1, Result.andThen_ok, Sem.run_pure]
                  · exact ⟨by rw [← hh]; exact s3.size, s3.os.trans ho1, s3.tape.trans ht1, s3.output.trans hu1, fun j hj hn => by rw [← hh]; exact s3.keep j (by rw [hh]; exact hj) hn,
                      fun j hj => s3.sub j (by rw [hh]; exact hj), s3.old, s3.nx⟩
                have h0 : p.off + 0 = 0 := by omega
                rw [h0, run0 _ hcand.symm]
                simp only [Sem.run_bind, run_choose]
                have hsz : (⟨L.map some⟩ : Array (Option MapEntry)).size = L.length := by simp
                rw [hsz]
                split
                · rename_i hf
                  simp only [Result.andThen_ok]
                  exact pick 0 w hpos rfl rfl rfl rfl
                · simp only [Result.andThen_ok]
                  exact pick _ _ (by simp only [Question.cut]; exact Nat.mod_lt _ hpos) rfl rfl rfl rfl
            · cases h
          · cases h
        · cases h
  · cases h
end
end Go.Am
