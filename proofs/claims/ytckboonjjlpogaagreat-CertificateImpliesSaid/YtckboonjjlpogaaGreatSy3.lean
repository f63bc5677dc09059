/- Operations on symbols: conversions, lengths, elements of slices that came in. -/
import Derived.Test.YtckboonjjlpogaaGreatSy2
set_option linter.unusedVariables false
set_option linter.unusedSimpArgs false
namespace Go.Am
open Go.RowKit
noncomputable section
variable [SemC]

def thS (o : Nat) : Th := fun b => some ⟨b, 0, 0, o, undef⟩
theorem th1_slice {b o n c : Nat} (hc : n ≤ c) : VR (thS o) (.slice (some ⟨b, o, none⟩) n c) (.slice (some ⟨b, o, none⟩) n c) := by
  by_cases h : c = unk
  · subst h
    have := VR.slU (θ := thS o) (b := b) (o := o) (p := ⟨b, 0, 0, o, undef⟩) (len := n) rfl hc (by simp)
    simpa using this
  · have := VR.sl (θ := thS o) (b := b) (o := o) (p := ⟨b, 0, 0, o, undef⟩) (len := n) rfl h
    simpa using this
theorem th1_ptr {b o : Nat} : VR th1 (.pointer (some ⟨b, o, none⟩)) (.pointer (some ⟨b, o, none⟩)) := by
  have := VR.ptr (θ := th1) (b := b) (o := o) (p := ⟨b, 0, 0, 0, undef⟩) rfl
  simpa using this
theorem th1_ptr_eq {b o q : Nat} {v : Value} (h : VR (thS q) (.pointer (some ⟨b, o, none⟩)) v) : v = .pointer (some ⟨b, o, none⟩) := by
  cases h with
  | ptr e => cases e; simp

/-! ### Conversions -/
def convY (T : Tbl) (H : AH) (s d : TypeId) (x : Value) : Option (List (Value × AH)) :=
  match sortI H.hp x, T.ty.get s, T.ty.get d with
  | some _, some _, some (_, .int k) => one (symR (100 + k.ctorIdx) [x] (.int k) H)
  | _, _, _ => none

/-! ### Lengths -/
def lenY (T : Tbl) (H : AH) (t : TypeId) (x : Value) : Option (List (Value × AH)) :=
  match x, T.ty.get t with
  | .chan (some n), some (_, .slice _) => match H.hp.get n with
    | some (.sym _ _ (.slice _)) => one (symR 5 [x] (.int .i64) H)
    | _ => none
  | _, _ => none

/-! ### Elements -/
def ltF (hp : Tr AO) (nx : Nat) (a b : Value) : Bool :=
  match find hp 1 [a, b] nx with
  | some (_, .boolK b) => b
  | _ => false
/-- Less than what is known to be equal. -/
def ltE1 (hp : Tr AO) (nx : Nat) (a b x y : Value) : Bool :=
  match sid y b, sortI hp x with
  | true, some .i64 => ltF hp nx a x
  | _, _ => false
def ltE (hp : Tr AO) (nx : Nat) (a b : Value) : Nat → Bool
  | 0 => false
  | m + 1 => match hp.get m with
    | some (.sym tag [.int .i64 t, x, y] (.boolK true)) => match Nat.beq tag 0, decide (0 ≤ t), ltE1 hp nx a b x y, ltE1 hp nx a b y x with
      | true, true, true, _ => true
      | true, true, _, true => true
      | _, _, _, _ => ltE hp nx a b m
    | _ => ltE hp nx a b m
def knownLt (hp : Tr AO) (nx : Nat) (a b : Value) : Bool :=
  match ltF hp nx a b with
  | true => true
  | false => ltE hp nx a b nx
def knownGe (hp : Tr AO) (nx : Nat) (i : Value) : Bool :=
  match i with
  | .int _ n => decide (0 ≤ n)
  | i => match find hp 1 [i, .int .i64 0] nx with
    | some (_, .boolK b) => !b
    | _ => false
def elemOK (hp : Tr AO) (nx : Nat) (s i : Value) (e : TypeId) : Bool :=
  match s with
  | .chan (some n) => match hp.get n, find hp 5 [s] nx with
    | some (.sym _ _ (.slice e')), some (m, _) => match Nat.beq e e', sortI hp i, knownLt hp nx i (.chan (some m)) with
      | true, some .i64, true => knownGe hp nx i
      | _, _, _ => false
    | _, _ => false
  | _ => false

section
variable {P : Program} {T : Tbl} (hT : TblOK P T) {kn : TypeId → List SK} {w0 : World} (hS : SemOK T kn w0) {θ : Th} {H : AH} {w : World} (hR : RH θ H w)

include hT hR in
theorem convY_sound {s d : TypeId} {x x' : Value} (hx : VR θ x x') {outs : List (Value × AH)} (h : convY T H s d x = some outs) : ∃ v', (∀ w, (convert s d x').run P w = .ok v' w) ∧ FQ θ H outs v' := by
  unfold convY at h
  split at h
  · rename_i k0 is i2 k hk hs hd
    obtain ⟨n, rfl⟩ := sortI_sound ⟨hR.obj, hR.inj⟩ hx hk
    have hp : pConv T s d (.int k0 n) = some (.int k (wrapF k n)) := by simp [pConv, hs, hd]
    refine ⟨.int k (wrapF k n), fun w => ?_, ?_⟩
    · obtain ⟨v', h1, h2⟩ := pConv_sound (P := P) hT (VR.int (θ := th1) k0 n) w hp
      cases h2; exact h1
    exact FQ.one (kd := .int k) hR (.cons hx .nil) (by rw [SemC.conv, wrapF_eq]) ⟨_, rfl⟩ rfl h
  · cases h

include hT hS hR in
theorem lenY_sound {t ty : TypeId} {ts : List TypeId} {x x' : Value} {rest : List Value} (hx : VR θ x x') {outs : List (Value × AH)} (h : lenY T H t x = some outs) : ∃ v', (∀ w, (Builtin.len_ ⟨t :: ts⟩ ty ⟨x' :: rest⟩).run P w = .ok v' w) ∧ FQ θ H outs v' := by
  unfold lenY at h
  split at h
  · rename_i n it e ht
    split at h
    · rename_i tag args e' hg
      have hrd : SemC.rd e' x' := (RO.symAt ⟨hR.obj, hR.inj⟩ hg hx).1
      have fin : ∀ a a' m c (th : Th), x' = .slice a' m c → VR th (.slice a m c) (.slice a' m c) → ∃ v', (∀ w, (Builtin.len_ ⟨t :: ts⟩ ty ⟨x' :: rest⟩).run P w = .ok v' w) ∧ FQ θ H outs v' := by
        rintro a a' m c th rfl hv
        have hp : pLen T .lf t (.slice a m c) = some (nv m) := by simp [pLen, ht, nv]
        refine ⟨nv m, fun w => ?_, ?_⟩
        · obtain ⟨v', h1, h2⟩ := pLen_sound (P := P) (w := w) (hp := .lf) hT ⟨fun b o h => by simp [Tr.get_lf] at h, fun b _ o _ _ _ h => by simp [Tr.get_lf] at h⟩ (ty := ty) (ts := ts) (rest := rest) hv hp
          cases h2; exact h1
        exact FQ.one (kd := .int .i64) hR (.cons hx .nil) (hS.len _ _ _) ⟨_, rfl⟩ rfl h
      rcases hS.form _ _ hrd with rfl | ⟨a, rfl⟩ | ⟨b, o, m, c, rfl, hc⟩
      · exact fin _ _ _ _ th1 rfl .slN
      · exact fin (some ⟨0, 0, none⟩) _ _ _ th1 rfl (.slZ (.inr rfl))
      · exact fin _ _ _ _ _ rfl (th1_slice hc)
    · cases h
  · cases h

include hS hR in
theorem ltF_sound {a b : Value} {x y : Int} {k : IntKind} (ha : VR θ a (.int k x)) (hb : VR θ b (.int k y)) (h : ltF H.hp H.nx a b = true) : x < y := by
  unfold ltF at h
  split at h
  · rename_i m c hf
    subst h
    obtain ⟨as, hg, hs⟩ := find_spec hf
    obtain ⟨p, hp, hok, _, hor⟩ := hR.obj _ _ hg
    obtain ⟨args', hl, hval⟩ := hor.resolve_left (by decide)
    have e : args' = [.int k x, .int k y] := sidL_det (fun _ _ _ _ => sid_det) hs hl (.cons ha (.cons hb .nil))
    subst e
    rw [hS.lss] at hval
    have : p.val = .bool true := hok
    rw [this] at hval
    injection hval with hval
    exact of_decide_eq_true hval.symm
  · cases h
include hS hR in
theorem ltE1_sound {a b u v : Value} {x y : Int} {u' v' : Value} (ha : VR θ a (.int .i64 x)) (hb : VR θ b (.int .i64 y)) (hu : VR θ u u') (hv : VR θ v v') (h : ltE1 H.hp H.nx a b u v = true) : ∃ z, u' = .int .i64 z ∧ v' = .int .i64 y ∧ x < z := by
  unfold ltE1 at h
  split at h
  · rename_i h1 h2
    obtain ⟨z, rfl⟩ := sortI_sound ⟨hR.obj, hR.inj⟩ hu h2
    exact ⟨z, rfl, sid_det h1 hv hb, ltF_sound hS hR ha hu h⟩
  · cases h
include hS hR in
theorem ltE_sound {a b : Value} {x y : Int} (ha : VR θ a (.int .i64 x)) (hb : VR θ b (.int .i64 y)) : ∀ m, ltE H.hp H.nx a b m = true → x < y
  | 0, h => by simp [ltE] at h
  | m + 1, h => by
    simp only [ltE] at h
    split at h
    · rename_i tag t u v hg
      have both : Nat.beq tag 0 = true → decide (0 ≤ t) = true → (ltE1 H.hp H.nx a b u v = true ∨ ltE1 H.hp H.nx a b v u = true) → x < y := by
        intro ht h0 hor
        have ht' := Nat.eq_of_beq_eq_true ht
        subst ht'
        have h0' := of_decide_eq_true h0
        obtain ⟨p, hp, hok, _, hor2⟩ := hR.obj _ _ hg
        obtain ⟨args', hl, hval⟩ := hor2.resolve_left (by decide)
        have hok' : p.val = .bool true := hok
        rw [hok'] at hval
        cases hl with
        | cons q1 q2 =>
          cases q2 with
          | cons q2 q3 =>
            cases q3 with
            | cons q3 q4 =>
              cases q4
              cases q1
              have et : (Value.int .i64 t) = nv t.toNat := by simp only [nv]; congr 1; exact (Int.toNat_of_nonneg h0').symm
              rw [et] at hval
              rcases hor with h | h
              · obtain ⟨z, rfl, rfl, hz⟩ := ltE1_sound hS hR ha hb q2 q3 h
                rw [hS.eqi] at hval
                injection hval with hval
                have := of_decide_eq_true hval.symm
                omega
              · obtain ⟨z, rfl, rfl, hz⟩ := ltE1_sound hS hR ha hb q3 q2 h
                rw [hS.eqi] at hval
                injection hval with hval
                have := of_decide_eq_true hval.symm
                omega
      split at h
      · rename_i h1 h2 h3; exact both h1 h2 (.inl h3)
      · rename_i h1 h2 h3 _; exact both h1 h2 (.inr h3)
      · exact ltE_sound ha hb m h
    · exact ltE_sound ha hb m h
include hS hR in
theorem knownLt_sound {a b : Value} {x y : Int} (ha : VR θ a (.int .i64 x)) (hb : VR θ b (.int .i64 y)) (h : knownLt H.hp H.nx a b = true) : x < y := by
  unfold knownLt at h
  split at h
  · rename_i h1; exact ltF_sound hS hR ha hb h1
  · exact ltE_sound hS hR ha hb _ h
include hS hR in
theorem knownGe_sound {a : Value} {x : Int} (ha : VR θ a (.int .i64 x)) (h : knownGe H.hp H.nx a = true) : 0 ≤ x := by
  unfold knownGe at h
  split at h
  · cases ha; exact of_decide_eq_true h
  · split at h
    · rename_i m c hf
      have hc : c = false := by simpa using h
      subst hc
      obtain ⟨as, hg, hs⟩ := find_spec hf
      obtain ⟨p, hp, hok, _, hor⟩ := hR.obj _ _ hg
      obtain ⟨args', hl, hval⟩ := hor.resolve_left (by decide)
      have e : args' = [.int .i64 x, .int .i64 0] := sidL_det (fun _ _ _ _ => sid_det) hs hl (.cons ha (.cons (.int _ _) .nil))
      subst e
      rw [hS.lss] at hval
      have : p.val = .bool false := hok
      rw [this] at hval
      injection hval with hval
      have := of_decide_eq_false hval.symm
      omega
    · cases h
include hS hR in
theorem elemOK_sound {s i s' i' : Value} {e : TypeId} (hs : VR θ s s') (hi : VR θ i i') (h : elemOK H.hp H.nx s i e = true) :
    ∃ b o n c iv, s' = .slice (some ⟨b, o, none⟩) n c ∧ n ≤ c ∧ i' = .int .i64 iv ∧ 0 ≤ iv ∧ iv < n ∧ SemC.rd e s' := by
  unfold elemOK at h
  split at h
  · rename_i n
    split at h
    · rename_i tag args e' m kd hg hf
      split at h
      · rename_i he hk hlt
        have he' := Nat.eq_of_beq_eq_true he
        subst he'
        have hrd : SemC.rd e s' := (RO.symAt ⟨hR.obj, hR.inj⟩ hg hs).1
        obtain ⟨iv, rfl⟩ := sortI_sound ⟨hR.obj, hR.inj⟩ hi hk
        have h0 := knownGe_sound hS hR hi h
        obtain ⟨as, hg2, hs2⟩ := find_spec hf
        obtain ⟨p, hp, hok, hone, hor⟩ := hR.obj _ _ hg2
        obtain ⟨args', hl, hval⟩ := hor.resolve_left (by decide)
        have e1 : args' = [s'] := sidL_det (fun _ _ _ _ => sid_det) hs2 hl (.cons hs .nil)
        subst e1
        have hm : VR θ (.chan (some m)) p.val := .sym hp hone
        rcases hS.form _ _ hrd with rfl | ⟨a, rfl⟩ | ⟨b, o, q, c, rfl, hc⟩
        · rw [hS.len] at hval
          rw [hval] at hm
          have := knownLt_sound hS hR hi (show VR θ (.chan (some m)) (.int .i64 (.ofNat 0)) from hm) hlt
          have h00 : (Int.ofNat 0) = 0 := rfl
          rw [h00] at this
          omega
        · rw [hS.len] at hval
          rw [hval] at hm
          have := knownLt_sound hS hR hi (show VR θ (.chan (some m)) (.int .i64 (.ofNat 0)) from hm) hlt
          have h00 : (Int.ofNat 0) = 0 := rfl
          rw [h00] at this
          omega
        · rw [hS.len] at hval
          rw [hval] at hm
          have := knownLt_sound hS hR hi (show VR θ (.chan (some m)) (.int .i64 (.ofNat q)) from hm) hlt
          exact ⟨b, o, q, c, iv, rfl, hc, rfl, h0, this, hrd⟩
      · cases h
    · cases h
  · cases h
end

def idxY (T : Tbl) (H : AH) (t : TypeId) (x i : Value) : Option (List (Value × AH)) :=
  match T.ty.get t with
  | some (_, .slice e) => match elemOK H.hp H.nx x i e, T.ty.get e with
    | true, some _ => one (symR 7 [x, i, nv e, nv 0] .ptr H)
    | _, _ => none
  | _ => none

/-- The parts of a pointer to a cell of an element. -/
def ptrOf (hp : Tr AO) (x : Value) : Option (Value × Value × Nat × Nat) :=
  match x with
  | .chan (some n) => match hp.get n with
    | some (.sym tag args kd) => match Nat.beq tag 7, kd, args with
      | true, .ptr, [s, i, .int .i64 (.ofNat e), .int .i64 (.ofNat off)] => some (s, i, e, off)
      | _, _, _ => none
    | _ => none
  | _ => none
def fieldY (T : Tbl) (H : AH) (st : TypeId) (x : Value) (f : Nat) : Option (List (Value × AH)) :=
  match ptrOf H.hp x, T.ty.get st with
  | some (s, i, e, off), some (_, .struct fs) => match fs[f]? with
    | some fd => match T.ty.get fd.type with
      | some (j, _) => match Nat.beq j.size 0 with
        | false => one (symR 7 [s, i, nv e, nv (off + fd.offset)] .ptr H)
        | true => none
      | none => none
    | none => none
  | _, _ => none

def cellsY (s i : Value) (e : Nat) : List SK → Nat → AH → Option (List Value × AH)
  | [], _, H => some ([], H)
  | k :: ks, off, H => match symR 6 [s, i, nv e, nv off] k H with
    | some (v, H1) => match cellsY s i e ks (off + 1) H1 with
      | some (vs, H2) => some (v :: vs, H2)
      | none => none
    | none => none
def loadY (T : Tbl) (kn : TypeId → List SK) (H : AH) (t : TypeId) (x : Value) : Option (List (Value × AH)) :=
  match ptrOf H.hp x, T.ty.get t with
  | some (s, i, e, off), some (j, d) => match elemOK H.hp H.nx s i e with
    | true => match isAggD d with
      | true => match Nat.ble (off + j.size) (kn e).length, cellsY s i e (((kn e).drop off).take j.size) off H with
        | true, some (vs, H') => some [(.agg ⟨vs⟩, H')]
        | _, _ => none
      | false => match (kn e)[off]? with
        | some k => one (symR 6 [s, i, nv e, nv off] k H)
        | none => none
    | false => none
  | _, _ => none

section
variable {P : Program} {T : Tbl} (hT : TblOK P T) {kn : TypeId → List SK} {w0 : World} (hS : SemOK T kn w0)

include hT hS in
theorem idxY_sound {θ : Th} {H : AH} {w : World} (hR : RH θ H w) {t : TypeId} {x i x' i' : Value} (hx : VR θ x x') (hi : VR θ i i') {outs : List (Value × AH)} (h : idxY T H t x i = some outs) : ∃ v', (∀ w, (Instr.indexAt t x' i').run P w = .ok v' w) ∧ FQ θ H outs v' := by
  unfold idxY at h
  split at h
  · rename_i it e ht
    split at h
    · rename_i je he hte
      obtain ⟨j, d⟩ := je
      obtain ⟨b, o, n, c, iv, rfl, hc, rfl, h0, hlt, hrd⟩ := elemOK_sound hS hR hx hi he
      have hiv : (iv.toNat : Int) = iv := Int.toNat_of_nonneg h0
      have hp : pIndexAddr T t (.slice (some ⟨b, o, none⟩) n c) (.int .i64 (.ofNat iv.toNat)) = some (.pointer (some ⟨b, o + iv.toNat * j.size, none⟩)) := by
        have : Nat.blt iv.toNat n = true := Nat.ble_eq_true_of_le (show iv.toNat + 1 ≤ n by omega)
        simp [pIndexAddr, ht, hte, this]
      refine ⟨.pointer (some ⟨b, o + iv.toNat * j.size, none⟩), fun w => ?_, ?_⟩
      · obtain ⟨v', h1, h2⟩ := pIndexAddr_sound (P := P) hT (th1_slice hc) (VR.int (θ := thS o) .i64 (.ofNat iv.toNat)) w hp
        have h3 := th1_ptr_eq h2
        subst h3
        rw [show Int.ofNat iv.toNat = iv from hiv] at h1
        exact h1
      exact FQ.one (kd := .ptr) hR (.cons hx (.cons hi (.cons (.int _ _) (.cons (.int _ _) .nil)))) (hS.ptr _ _ _ _ _ _ _ _ hte) ⟨_, _, rfl⟩ rfl h
    · cases h
  · cases h

omit [SemC] in
theorem ptrOf_spec {hp : Tr AO} {x s i : Value} {e off : Nat} (h : ptrOf hp x = some (s, i, e, off)) : ∃ n, x = .chan (some n) ∧ hp.get n = some (.sym 7 [s, i, nv e, nv off] .ptr) := by
  unfold ptrOf at h
  split at h
  · rename_i n
    split at h
    · rename_i tag args kd hg
      split at h
      · rename_i ht
        cases h
        rw [Nat.eq_of_beq_eq_true ht] at hg
        exact ⟨n, rfl, hg⟩
      · cases h
    · cases h
  · cases h

theorem ptrOf_sound {θ : Th} {H : AH} {w : World} (hR : RH θ H w) {x x' s i : Value} {e off : Nat} (hx : VR θ x x') (h : ptrOf H.hp x = some (s, i, e, off)) :
    ∃ b o s' i', x' = .pointer (some ⟨b, o, none⟩) ∧ VR θ s s' ∧ VR θ i i' ∧ SemC.semf 7 [s', i', nv e, nv off] = .pointer (some ⟨b, o, none⟩) := by
  obtain ⟨n, rfl, hg⟩ := ptrOf_spec h
  obtain ⟨⟨b, o, rfl⟩, _, hor⟩ := RO.symAt ⟨hR.obj, hR.inj⟩ hg hx
  obtain ⟨args', hl, hval⟩ := hor.resolve_left (by decide)
  cases hl with
  | cons h1 hl => cases hl with
    | cons h2 hl => cases hl with
      | cons h3 hl => cases hl with
        | cons h4 hl =>
          cases hl; cases h3; cases h4
          exact ⟨b, o, _, _, rfl, h1, h2, hval.symm⟩

include hT hS in
theorem fieldY_sound {θ : Th} {H : AH} {w : World} (hR : RH θ H w) {st : TypeId} {x x' : Value} {f : Nat} (hx : VR θ x x') {outs : List (Value × AH)} (h : fieldY T H st x f = some outs) : ∃ v', (∀ w, (Instr.fieldAt st x' f).run P w = .ok v' w) ∧ FQ θ H outs v' := by
  unfold fieldY at h
  split at h
  · rename_i s i e off it fs hp ht
    obtain ⟨b, o, s', i', rfl, hs, hi, hv⟩ := ptrOf_sound hR hx hp
    split at h
    · rename_i fd hf
      split at h
      · rename_i j d hj
        split at h
        · rename_i hz
          have hq : pFieldAddr T st f (.pointer (some ⟨b, o, none⟩)) = some (.pointer (some ⟨b, o + fd.offset, none⟩)) := by simp [pFieldAddr, ht, hf, hj, hz]
          refine ⟨.pointer (some ⟨b, o + fd.offset, none⟩), fun w => ?_, ?_⟩
          · obtain ⟨v', h1, h2⟩ := pFieldAddr_sound (P := P) hT (th1_ptr) w hq
            have h3 := th1_ptr_eq h2
            subst h3
            exact h1
          exact FQ.one (kd := .ptr) hR (.cons hs (.cons hi (.cons (.int _ _) (.cons (.int _ _) .nil)))) (hS.ptrAdd _ _ _ _ _ _ _ hv) ⟨_, _, rfl⟩ rfl h
        · cases h
      · cases h
    · cases h
  · cases h

include hS in
/-- A cell of an element, in a later world. -/
theorem cell_now {e b o n c : Nat} {iv : Int} {j : TypeInfo} {d : TypeDesc} (hj : T.ty.get e = some (j, d)) (hrd : SemC.rd e (.slice (some ⟨b, o, none⟩) n c)) (h0 : 0 ≤ iv) (hlt : iv < n) {f : Nat} {k : SK} (hk : (kn e)[f]? = some k) :
    ∃ v, (∀ w, Below w0.heap.size w0 w → w.cell? ⟨b, o + iv.toNat * j.size + f, none⟩ = some v) ∧ k.ok v ∧ v.oneCell' = true ∧ SemC.semf 6 [.slice (some ⟨b, o, none⟩) n c, .int .i64 iv, nv e, nv f] = v := by
  obtain ⟨j', d', hj', hlen, hread⟩ := hS.read _ _ _ _ _ hrd
  rw [hj] at hj'; cases hj'
  obtain ⟨v, h1, h2, h3⟩ := hread iv.toNat (by omega) f k hk
  have hb : b < w0.heap.size := by
    simp only [World.cell?] at h1
    split at h1
    · rename_i g; exact (Array.getElem?_eq_some_iff.1 g).1
    · cases h1
  refine ⟨v, fun w hI => ?_, h2, h3, ?_⟩
  · rw [hI.cell (p := ⟨b, o + iv.toNat * j.size + f, none⟩) hb]; exact h1
  · rw [hS.cell _ _ _ _ _ _ _ _ _ hj, h1]; rfl

include hS in
theorem cellsY_sound {w : World} {e b o n c : Nat} {iv : Int} {j : TypeInfo} {d : TypeDesc} (hj : T.ty.get e = some (j, d)) (hrd : SemC.rd e (.slice (some ⟨b, o, none⟩) n c)) (h0 : 0 ≤ iv) (hlt : iv < n) {s i : Value} :
    ∀ (ks : List SK) (off : Nat) {θ : Th} {H H' : AH} {vs : List Value}, RH θ H w → VR θ s (.slice (some ⟨b, o, none⟩) n c) → VR θ i (.int .i64 iv) → (∀ q k, ks[q]? = some k → (kn e)[off + q]? = some k) → cellsY s i e ks off H = some (vs, H') →
      ∃ θ' cs', LR θ' vs cs' ∧ Up θ H θ' H' ∧ cs'.length = ks.length ∧ ∀ q v, cs'[q]? = some v → ∀ w, Below w0.heap.size w0 w → w.cell? ⟨b, o + iv.toNat * j.size + off + q, none⟩ = some v
  | [], off, θ, H, H', vs, hR, hs, hi, hk, h => by
    simp only [cellsY, Option.some.injEq, Prod.mk.injEq] at h
    obtain ⟨rfl, rfl⟩ := h
    exact ⟨θ, [], .nil, Up.refl _ _, rfl, fun q v hq => by simp at hq⟩
  | k :: ks, off, θ, H, H', vs, hR, hs, hi, hk, h => by
    simp only [cellsY] at h
    split at h
    · rename_i v H1 h1
      split at h
      · rename_i vs2 H2 h2
        cases h
        obtain ⟨u, c1, c2, c3, c4⟩ := cell_now hS hj hrd h0 hlt (hk 0 k (by simp))
        simp only [Nat.add_zero] at c4
        obtain ⟨θ1, d1, d3⟩ := symR_sound hR (.cons hs (.cons hi (.cons (.int _ _) (.cons (.int _ _) .nil)))) (kd := k) (show k.ok (SemC.semf 6 [_, _, nv e, nv off]) by rw [c4]; exact c2) (show (SemC.semf 6 [_, _, nv e, nv off]).oneCell' = true by rw [c4]; exact c3) h1
        have hE := d3.ext hR
        have d2 := (d3 w hR).1
        obtain ⟨θ2, cs', e1, e3, e4, e5⟩ := cellsY_sound hj hrd h0 hlt ks (off + 1) d2 (hs.mono hE) (hi.mono hE) (fun q k' hq => by
          have := hk (q + 1) k' (by simpa using hq)
          rwa [show off + 1 + q = off + (q + 1) by omega]) h2
        refine ⟨θ2, u :: cs', .cons ?_ e1, d3.trans e3, by simp [e4], ?_⟩
        · have d1' : VR θ1 v u := by rw [← c4]; exact d1
          exact d1'.mono (e3.ext d2)
        · intro q v hq
          cases q with
          | zero =>
            simp only [List.getElem?_cons_zero, Option.some.injEq] at hq
            subst hq
            intro w hI
            simpa using c1 w hI
          | succ q =>
            intro w hI
            have := e5 q v (by simpa using hq) w hI
            rwa [show o + iv.toNat * j.size + off + (q + 1) = o + iv.toNat * j.size + (off + 1) + q by omega]
      · cases h
    · cases h

include hT hS in
theorem loadY_sound {θ : Th} {H : AH} {w : World} (hR : RH θ H w) {t : TypeId} {x x' : Value} (hx : VR θ x x') {outs : List (Value × AH)} (h : loadY T kn H t x = some outs) : ∃ v', (∀ w, Below w0.heap.size w0 w → (Instr.loadAt t x').run P w = .ok v' w) ∧ FQ θ H outs v' := by
  unfold loadY at h
  split at h
  · rename_i s i e off jt d hp ht
    obtain ⟨b', o', s', i', rfl, hs, hi, hv⟩ := ptrOf_sound hR hx hp
    split at h
    · rename_i hel
      obtain ⟨b, o, n, c, iv, rfl, hc, rfl, h0, hlt, hrd⟩ := elemOK_sound hS hR hs hi hel
      obtain ⟨j, dj, hj, hlen, _⟩ := hS.read _ _ _ _ _ hrd
      have hpt := hS.ptrAdd _ _ _ 0 off _ _ (hS.ptr b o n c iv e j dj hj)
      rw [Nat.zero_add, hv] at hpt
      injection hpt with hpt; injection hpt with hpt; injection hpt with hb ho
      subst hb; subst ho
      split at h
      · rename_i hag
        split at h
        · rename_i vs H' hle hcs
          cases h
          have hle' := Nat.le_of_ble_eq_true hle
          obtain ⟨θ', cs', e1, e3, e4, e5⟩ := cellsY_sound hS hj hrd h0 hlt _ off hR hs hi (fun q k hq => by
            rw [List.getElem?_take] at hq
            split at hq
            · rwa [List.getElem?_drop] at hq
            · cases hq) hcs
          have hl : cs'.length = jt.size := by rw [e4]; simp; omega
          refine ⟨.agg ⟨cs'⟩, fun w hI => ?_, _, H', θ', List.mem_singleton.2 rfl, .agg e1, e3⟩
          have := run_loadCells_list (P := P) w ⟨b', o + iv.toNat * j.size + off, none⟩ cs' (fun q v hq => by rw [Addr.add_lit]; exact e5 q v hq w hI)
          simp only [Instr.loadAt, Instr.sureAddr, loadVar, Sem.run_bind, Sem.run_pure, Result.andThen_ok, run_ag hT ht, hag, if_true, run_siz hT ht]
          rw [hl] at this
          rw [this]; rfl
        · cases h
      · rename_i hag
        split at h
        · rename_i k hk
          obtain ⟨u, c1, c2, c3, c4⟩ := cell_now hS hj hrd h0 hlt hk
          refine ⟨u, fun w hI => ?_, FQ.one (kd := k) hR (.cons hs (.cons hi (.cons (.int _ _) (.cons (.int _ _) .nil)))) c4 c2 c3 h⟩
          simp [Instr.loadAt, Instr.sureAddr, loadVar, run_ag hT ht, hag, c1 w hI]
        · cases h
    · cases h
  · cases h
end
end
end Go.Am
