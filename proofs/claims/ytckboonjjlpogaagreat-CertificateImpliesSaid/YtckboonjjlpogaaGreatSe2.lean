/- CertificateImplies: what the tags stand for, over the memory that came in and a depth of decisions. -/
import Derived.Test.YtckboonjjlpogaaGreatSe1
set_option linter.unusedVariables false
set_option linter.unusedSimpArgs false
namespace Go.Am
open Go.RowKit
noncomputable section

/-! ### The machine's own tags -/
def kindOf : Nat → IntKind
  | 0 => .i8 | 1 => .i16 | 2 => .i32 | 3 => .i64 | 4 => .u8 | 5 => .u16 | 6 => .u32 | _ => .u64
theorem kindOf_idx (d : IntKind) : kindOf d.ctorIdx = d := by cases d <;> rfl
def isz (T : Tbl) (e : Nat) : Nat := match T.ty.get e with
  | some (j, _) => j.size
  | none => 0
def o0 (T : Tbl) : List Value → Value
  | [.int _ t, x, y] => (pBin T .eql t.toNat x y).getD (.bool false)
  | _ => undef
def o1 : List Value → Value
  | [.int _ a, .int _ b] => .bool (decide (a < b))
  | _ => undef
def o2 : List Value → Value
  | [.int k a, .int _ b] => .int k (k.wrap (a + b))
  | _ => undef
def o3 : List Value → Value
  | [.int k a, .int _ b] => .int k (k.wrap (a - b))
  | _ => undef
def o5 : List Value → Value
  | [.slice _ n _] => nv n
  | _ => undef
def o6 (T : Tbl) (w0 : World) : List Value → Value
  | [.slice (some a) _ _, .int _ i, .int _ e, .int _ f] => (w0.cell? ⟨a.block, a.off + i.toNat * isz T e.toNat + f.toNat, none⟩).getD undef
  | _ => undef
def o7 (T : Tbl) : List Value → Value
  | [.slice (some a) _ _, .int _ i, .int _ e, .int _ f] => .pointer (some ⟨a.block, a.off + i.toNat * isz T e.toNat + f.toNat, none⟩)
  | _ => undef
def oC (d : IntKind) : List Value → Value
  | [.int _ n] => .int d (d.wrap n)
  | _ => undef
def F0 (T : Tbl) (w0 : World) (t : Nat) (a : List Value) : Value :=
  if t = 0 then o0 T a else if t = 1 then o1 a else if t = 2 then o2 a else if t = 3 then o3 a else if t = 5 then o5 a else if t = 6 then o6 T w0 a else if t = 7 then o7 T a
  else if 100 ≤ t then oC (kindOf (t - 100)) a else undef

/-! ### Questions of each element -/
def lenV : Value → Nat
  | .slice _ n _ => n
  | _ => 0
def elV (S : Nat → List Value → Value) (s : Value) (j e : Nat) : Nat → Nat → List Value
  | _, 0 => []
  | k, n + 1 => S 6 [s, nv j, nv e, nv k] :: elV S s j e (k + 1) n
def allJ (s : Value) (p : Nat → Bool) : Value := .bool (decide (∀ j, j < lenV s → p j = true))
def arg (a : List Value) (i : Nat) : Value := a.getD i undef
def rowP (S : Nat → List Value → Value) (e n : Nat) (a : List Value) (j : Nat) : Bool := isT (S 0 [nv e, .agg ⟨elV S (arg a 0) j e 0 n⟩, .agg ⟨elV S (arg a 1) j e 0 n⟩])
def intP (S : Nat → List Value → Value) (a : List Value) (j : Nat) : Bool := isT (S 0 [nv 3, S 6 [arg a 0, nv j, nv 3, nv 0], S 6 [arg a 1, nv j, nv 3, nv 0]])
def decP (S : Nat → List Value → Value) (a : List Value) (j : Nat) : Bool := isT (S 25 [.agg ⟨elV S (arg a 0) j 37 0 25⟩, .agg ⟨elV S (arg a 1) j 37 0 25⟩])
def ln6 (S : Nat → List Value → Value) (s : Value) (j k : Nat) : Value := S 5 [S 6 [s, nv j, nv 37, nv k]]
def fewP (S : Nat → List Value → Value) (a : List Value) (j : Nat) : Bool :=
  !(isT (S 1 [nv 0, ln6 S (arg a 0) j 23]) || isT (S 1 [nv 4, S 2 [S 2 [S 2 [S 2 [S 2 [ln6 S (arg a 0) j 9, ln6 S (arg a 0) j 18], ln6 S (arg a 0) j 16], ln6 S (arg a 0) j 21], ln6 S (arg a 0) j 22], ln6 S (arg a 0) j 24]]))

/-! ### The seat's own tags -/
def by_ (S : Nat → List Value → Value) (as : List AS) (x : BX) (a : List Value) : Value := .bool (denB S (thOf (flat as a)) x)
def F1 (T : Tbl) (w0 : World) (t : Nat) (a : List Value) : Value :=
  if t = 30 then allJ (arg a 0) (rowP (F0 T w0) 74 8 a) else if t = 31 then allJ (arg a 0) (intP (F0 T w0) a) else if t = 32 then allJ (arg a 0) (rowP (F0 T w0) 71 10 a)
  else if t = 35 then allJ (arg a 0) (fewP (F0 T w0) a) else F0 T w0 t a
def F2 (T : Tbl) (w0 : World) (t : Nat) (a : List Value) : Value :=
  if t = 16 then by_ (F1 T w0) (asS 74) (eqLX 30 0 1) a else if t = 17 then by_ (F1 T w0) (asS 3) (eqLX 31 0 1) a else if t = 18 then by_ (F1 T w0) (asS 71) (eqLX 32 0 1) a
  else if t = 34 then by_ (F1 T w0) (asF serK) sameX a else F1 T w0 t a
def F3 (T : Tbl) (w0 : World) (t : Nat) (a : List Value) : Value := if t = 19 then by_ (F2 T w0) (asF serK) serX a else F2 T w0 t a
def F4 (T : Tbl) (w0 : World) (lo : List Value → Bool) (t : Nat) (a : List Value) : Value := if t = 25 then .bool (lo a) else F3 T w0 t a
def F5 (T : Tbl) (w0 : World) (lo : List Value → Bool) (t : Nat) (a : List Value) : Value := if t = 33 then allJ (arg a 0) (decP (F4 T w0 lo) a) else F4 T w0 lo t a
def F6 (T : Tbl) (w0 : World) (lo : List Value → Bool) (t : Nat) (a : List Value) : Value :=
  if t = 20 then by_ (F5 T w0 lo) r20.as (eqLX 33 0 1) a else if t = 22 then by_ (F5 T w0 lo) (asF factK) (equalX d10) a else if t = 21 then by_ (F5 T w0 lo) (asF factK) implX a
  else if t = 23 then by_ (F5 T w0 lo) [.agg factK] fewAX a else if t = 24 then .bool true else F5 T w0 lo t a
def lo (T : Tbl) (w0 : World) : Nat → List Value → Bool
  | 0, _ => false
  | D + 1, a => denB (F5 T w0 (lo T w0 D)) (thOf (flat (asF factK) a)) (equalX d10)

/-! ### What can be read -/
def okR (R : TypeId → Value → Prop) : SK → Value → Prop
  | .int k, v => ∃ n, v = .int k n
  | .bool, v => ∃ b, v = .bool b
  | .boolK b, v => v = .bool b
  | .str, v => ∃ s, v = .string s
  | .slice e, v => R e v
  | .ptr, v => ∃ b o, v = .pointer (some ⟨b, o, none⟩)
  | .other, _ => True
def rdG (w0 : World) (R : TypeId → Value → Prop) (ks : List SK) (v : Value) : Prop :=
  v = .slice none 0 0 ∨ (∃ a, v = .slice (some a) 0 0) ∨ ∃ b o n c, v = .slice (some ⟨b, o, none⟩) n c ∧ n ≤ c ∧ n < 9223372036854775808 ∧
    ∀ i, i < n → ∀ f k, ks[f]? = some k → ∃ u, w0.cell? ⟨b, o + i * ks.length + f, none⟩ = some u ∧ okR R k u ∧ u.oneCell' = true
def rd0 (w0 : World) (e : TypeId) (v : Value) : Prop :=
  if e = 74 then rdG w0 (fun _ _ => False) segK v else if e = 71 then rdG w0 (fun _ _ => False) msgK v else if e = 3 then rdG w0 (fun _ _ => False) [.int .i64] v else False
def rdF (w0 : World) : Nat → Value → Prop
  | 0, _ => False
  | k + 1, v => rdG w0 (fun e v => if e = 4 then rdF w0 k v else rd0 w0 e v) factL v
def rdD (w0 : World) (D : Nat) (e : TypeId) (v : Value) : Prop := if e = 37 then rdF w0 (D + 1) v else if e = 4 then rdF w0 D v else rd0 w0 e v

@[reducible] def semD (T : Tbl) (w0 : World) (D : Nat) : SemC where
  semf := F6 T w0 (lo T w0 D)
  rd := rdD w0 D
  add := fun k a b => by simp [F6, F5, F4, F3, F2, F1, F0, o2]
  sub := fun k a b => by simp [F6, F5, F4, F3, F2, F1, F0, o3]
  conv := fun d k n => by
    have h : F6 T w0 (lo T w0 D) (100 + d.ctorIdx) [.int k n] = oC (kindOf (100 + d.ctorIdx - 100)) [.int k n] := by
      unfold F6 F5 F4 F3 F2 F1 F0
      repeat rw [if_neg (by omega)]
      rw [if_pos (by omega)]
    rw [h, Nat.add_sub_cancel_left, kindOf_idx]; rfl

theorem okR_mono {R R' : TypeId → Value → Prop} (h : ∀ e v, R e v → R' e v) {k : SK} {v : Value} (hk : okR R k v) : okR R' k v := by
  cases k <;> first | exact hk | exact h _ _ hk

/-! ### The laws -/
structure Sizes (T : Tbl) : Prop where
  s37 : ∃ j d, T.ty.get 37 = some (j, d) ∧ j.size = 25
  s74 : ∃ j d, T.ty.get 74 = some (j, d) ∧ j.size = 8
  s71 : ∃ j d, T.ty.get 71 = some (j, d) ∧ j.size = 10
  s3 : ∃ j d, T.ty.get 3 = some (j, d) ∧ j.size = 1
  s4 : ∃ j d, T.ty.get 4 = some (j, d) ∧ j.size = 1

section
variable {T : Tbl} {w0 : World} {D : Nat}
theorem ok_iff (k : SK) (v : Value) : @SK.ok (semD T w0 D) k v ↔ okR (rdD w0 D) k v := by cases k <;> exact Iff.rfl
theorem rdG_form {R : TypeId → Value → Prop} {ks : List SK} {v : Value} (h : rdG w0 R ks v) : v = .slice none 0 0 ∨ (∃ a, v = .slice (some a) 0 0) ∨ ∃ b o n c, v = .slice (some ⟨b, o, none⟩) n c ∧ n ≤ c := by
  rcases h with h | ⟨a, h⟩ | ⟨b, o, n, c, h, h2, _⟩
  · exact .inl h
  · exact .inr (.inl ⟨a, h⟩)
  · exact .inr (.inr ⟨b, o, n, c, h, h2⟩)
theorem rdG_small {R : TypeId → Value → Prop} {ks : List SK} {a : Option Addr} {n c : Nat} (h : rdG w0 R ks (.slice a n c)) : n < 9223372036854775808 := by
  rcases h with h | ⟨a, h⟩ | ⟨b, o, n, c, h, h2, h3, _⟩
  · cases h; omega
  · cases h; omega
  · cases h; exact h3
theorem rdG_read {R : TypeId → Value → Prop} {ks : List SK} {b o n c : Nat} (h : rdG w0 R ks (.slice (some ⟨b, o, none⟩) n c)) :
    ∀ i, i < n → ∀ f k, ks[f]? = some k → ∃ u, w0.cell? ⟨b, o + i * ks.length + f, none⟩ = some u ∧ okR R k u ∧ u.oneCell' = true := by
  rcases h with h | ⟨a, h⟩ | ⟨b', o', n', c', h, _, _, h3⟩
  · cases h
  · cases h; intro i hi; omega
  · cases h; exact h3
theorem rdD_cases {e : TypeId} {v : Value} (h : rdD w0 D e v) : ∃ R ks, rdG w0 R ks v := by
  unfold rdD rd0 at h
  have hF : ∀ k, rdF w0 k v → ∃ R ks, rdG w0 R ks v := fun k hk => by
    cases k with
    | zero => exact hk.elim
    | succ k => exact ⟨_, _, hk⟩
  split at h
  · exact hF _ h
  · split at h
    · exact hF _ h
    · split at h
      · exact ⟨_, _, h⟩
      · split at h
        · exact ⟨_, _, h⟩
        · split at h
          · exact ⟨_, _, h⟩
          · exact h.elim

theorem semOK (hz : Sizes T) : @SemOK (semD T w0 D) T kn w0 := by
  letI := semD T w0 D
  refine ⟨?_, ?_, ?_, ?_, ?_, ?_, ?_, ?_, ?_, ?_⟩
  · intro t x y b h
    show F6 T w0 (lo T w0 D) 0 [nv t, x, y] = .bool b
    simp [F6, F5, F4, F3, F2, F1, F0, o0, nv, h]
  · intro t k a b
    show F6 T w0 (lo T w0 D) 0 [nv t, .int k a, .int k b] = _
    simp [F6, F5, F4, F3, F2, F1, F0, o0, nv, pBin, pInt]
  · intro k a b
    show F6 T w0 (lo T w0 D) 1 [.int k a, .int k b] = _
    simp [F6, F5, F4, F3, F2, F1, F0, o1]
  · intro a n c
    show F6 T w0 (lo T w0 D) 5 [.slice a n c] = _
    simp [F6, F5, F4, F3, F2, F1, F0, o5]
  · intro b o n c i e off j d h
    show F6 T w0 (lo T w0 D) 6 [.slice (some ⟨b, o, none⟩) n c, .int .i64 i, nv e, nv off] = _
    simp [F6, F5, F4, F3, F2, F1, F0, o6, nv, isz, h]
  · intro b o n c i e j d h
    show F6 T w0 (lo T w0 D) 7 [.slice (some ⟨b, o, none⟩) n c, .int .i64 i, nv e, nv 0] = _
    simp [F6, F5, F4, F3, F2, F1, F0, o7, nv, isz, h]
  · intro s i e off k b o h
    have h' : o7 T [s, i, nv e, nv off] = .pointer (some ⟨b, o, none⟩) := by
      have : F6 T w0 (lo T w0 D) 7 [s, i, nv e, nv off] = o7 T [s, i, nv e, nv off] := by simp [F6, F5, F4, F3, F2, F1, F0]
      rw [← this]; exact h
    show F6 T w0 (lo T w0 D) 7 [s, i, nv e, nv (off + k)] = _
    have : F6 T w0 (lo T w0 D) 7 [s, i, nv e, nv (off + k)] = o7 T [s, i, nv e, nv (off + k)] := by simp [F6, F5, F4, F3, F2, F1, F0]
    rw [this]
    unfold o7 at h' ⊢
    split at h'
    · rename_i a _ _ _ i' _ e' _ f' he
      simp only [nv, List.cons.injEq, Value.int.injEq, and_true] at he
      obtain ⟨rfl, rfl, ⟨rfl, rfl⟩, rfl, rfl⟩ := he
      simp only [nv, Value.pointer.injEq, Option.some.injEq, Addr.mk.injEq, and_true] at h' ⊢
      obtain ⟨h1, h2⟩ := h'
      refine ⟨h1, ?_⟩
      have e : ∀ m : Nat, (Int.ofNat m).toNat = m := fun _ => rfl
      simp only [e] at h2 ⊢
      omega
    · cases h'
  · intro e a n c h
    obtain ⟨R, ks, h⟩ := rdD_cases h
    exact rdG_small h
  · intro e v h
    obtain ⟨R, ks, h⟩ := rdD_cases h
    exact rdG_form h
  · intro e b o n c h
    have fin : ∀ {R : TypeId → Value → Prop} {ks : List SK}, rdG w0 R ks (.slice (some ⟨b, o, none⟩) n c) → kn e = ks → (∀ k, k ∈ ks → ∀ v, okR R k v → okR (rdD w0 D) k v) → (∃ j d, T.ty.get e = some (j, d) ∧ j.size = ks.length) →
        ∃ j d, T.ty.get e = some (j, d) ∧ (kn e).length = j.size ∧ ∀ i, i < n → ∀ f k, (kn e)[f]? = some k → ∃ v, w0.cell? ⟨b, o + i * j.size + f, none⟩ = some v ∧ k.ok v ∧ v.oneCell' = true := by
      intro R ks hg hk hm ⟨j, d, h1, h2⟩
      refine ⟨j, d, h1, by rw [hk, h2], fun i hi f k hf => ?_⟩
      rw [hk] at hf
      obtain ⟨u, q1, q2, q3⟩ := rdG_read hg i hi f k hf
      exact ⟨u, by rw [h2]; exact q1, (ok_iff k u).2 (hm k (List.mem_of_getElem? hf) u q2), q3⟩
    have h : rdD w0 D e (.slice (some ⟨b, o, none⟩) n c) := h
    unfold rdD rd0 at h
    split at h
    · rename_i he; subst he
      refine fin h rfl (fun k hk v => okR_mono (fun e v hv => ?_)) hz.s37
      simp only [rdD]
      split at hv
      · rename_i he; subst he; simpa using hv
      · rename_i he
        by_cases h37 : e = 37
        · subst h37; simp [rd0] at hv
        · simpa [h37, he] using hv
    · split at h
      · rename_i he; subst he
        cases D with
        | zero => exact h.elim
        | succ D =>
          obtain ⟨j, d, h1, h2⟩ := hz.s4
          refine ⟨j, d, h1, by rw [h2]; rfl, fun i hi f k hf => ?_⟩
          have hk : f = 0 ∧ k = .other := by
            cases f with
            | zero => exact ⟨rfl, by simpa [kn] using hf.symm⟩
            | succ f => simp [kn] at hf
          obtain ⟨rfl, rfl⟩ := hk
          have hlen : factL.length = 25 := rfl
          obtain ⟨k', hk'⟩ : ∃ k', factL[i % 25]? = some k' := ⟨_, List.getElem?_eq_getElem (by rw [hlen]; exact Nat.mod_lt _ (by omega))⟩
          obtain ⟨u, q1, _, q3⟩ := rdG_read h (i / 25) (by omega) (i % 25) k' hk'
          refine ⟨u, ?_, trivial, q3⟩
          rw [h2]
          rw [hlen] at q1
          rw [← q1]
          have h25 := Nat.div_add_mod i 25
          have : o + i * 1 + 0 = o + i / 25 * 25 + i % 25 := by omega
          rw [this]
      · have noR : ∀ (k : SK) (v : Value), okR (fun _ _ => False) k v → okR (rdD w0 D) k v := fun k v => okR_mono (fun _ _ h => h.elim)
        split at h
        · rename_i he; subst he; exact fin h rfl (fun k _ v => noR k v) hz.s74
        · split at h
          · rename_i he; subst he; exact fin h rfl (fun k _ v => noR k v) hz.s71
          · split at h
            · rename_i he; subst he; exact fin h rfl (fun k _ v => noR k v) hz.s3
            · exact h.elim
end
end
end Go.Am
