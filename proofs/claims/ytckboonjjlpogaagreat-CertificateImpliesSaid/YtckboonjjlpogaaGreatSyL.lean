/- Loops that ask of each element of a slice: one round serves all. -/
import Derived.Test.YtckboonjjlpogaaGreatSyT
set_option linter.unusedVariables false
set_option linter.unusedSimpArgs false
namespace Go.Am
open Go.RowKit
noncomputable section
variable [SemC]

/-- The input's memory is as it was, and is none of the machine's own. -/
structure IW (w0 : World) (θ : Th) (H : AH) (w : World) : Prop where
  below : Below w0.heap.size w0 w
  apart : ∀ k, k < w0.heap.size → ¬ own θ H.hp k
omit [SemC] in
theorem IW.fr {w0 : World} {θ θ' : Th} {H H' : AH} {w w' : World} (h : IW w0 θ H w) (hF : Fr θ H w θ' H' w') : IW w0 θ' H' w' :=
  ⟨⟨hF.os.trans h.below.os, hF.tape.trans h.below.tape, hF.output.trans h.below.output, Nat.le_trans h.below.size hF.size,
    fun k hk => (hF.keep k (Nat.lt_of_lt_of_le hk h.below.size) (h.apart k hk)).trans (h.below.block k hk)⟩,
   fun k hk ho => h.apart k hk (hF.sub k (Nat.lt_of_lt_of_le hk h.below.size) ho)⟩

structure EvOKY (P : Program) (w0 : World) (E : Ev) : Prop where
  c : ∀ c st outs, E.c c false st = some outs → ∀ θ a w, RS θ st a w → IW w0 θ st.h w → c.wpIn (FR none) 0 P (CP θ st.h w outs) a w


/-! ### A symbol that is added -/
theorem Up.add {θ : Th} {H : AH} {w : World} (hR : RH θ H w) (hlim : H.nx < Tr.lim) {tag : Nat} {args : List Value} {kd : SK} {v : Value} (hk : kd.ok v) (h1 : v.oneCell' = true) (ho : tag = 9 ∨ ∃ args', LR θ args args' ∧ v = SemC.semf tag args') :
    Up θ H (upd θ H.nx ⟨0, 0, 0, 0, v⟩) ⟨H.hp.set H.nx (some (.sym tag args kd)), H.nx + 1⟩ := by
  have hn : θ H.nx = none := hR.fresh _ (Nat.le_refl _)
  refine fun w1 hR1 => ⟨⟨⟨?_, ?_⟩, ?_⟩, ?_⟩
  · intro b o hg
    rw [Tr.get_set _ _ _ _ hlim] at hg
    by_cases e : b = H.nx
    · subst e; rw [if_pos rfl] at hg; cases hg
      refine ⟨_, upd_same _ _ _, hk, h1, ?_⟩
      rcases ho with h | ⟨args', h2, h3⟩
      · exact .inl h
      · exact .inr ⟨args', h2.mono (Ext.upd _ hn), h3⟩
    · rw [if_neg e] at hg
      obtain ⟨q, hq, hr⟩ := hR1.obj b o hg
      exact ⟨q, by rw [upd_ne _ _ _ e]; exact hq, hr.mono (Ext.upd _ hn) rfl⟩
  · intro b b' o o' p p' g g' w1 w2 e e' ec
    rw [Tr.get_set _ _ _ _ hlim] at g g'
    by_cases c : b = H.nx
    · subst c; rw [if_pos rfl] at g; cases g; cases w1
    · rw [if_neg c] at g
      rw [upd_ne _ _ _ c] at e
      by_cases c' : b' = H.nx
      · subst c'; rw [if_pos rfl] at g'; cases g'; cases w2
      · rw [if_neg c'] at g'
        rw [upd_ne _ _ _ c'] at e'
        exact hR1.inj _ _ _ _ _ _ g g' w1 w2 e e' ec
  · intro b hb
    have hb' : H.nx + 1 ≤ b := hb
    rw [upd_ne _ _ _ (by omega)]
    exact hR1.fresh b (by omega)
  · refine ⟨Nat.le_refl _, rfl, rfl, rfl, fun _ _ _ => rfl, ?_, ?_, Nat.le_succ _⟩
    · intro k hk ⟨b, o, p, g, w1, e, ec⟩
      simp only at g
      rw [Tr.get_set _ _ _ _ hlim] at g
      by_cases c : b = H.nx
      · subst c; rw [if_pos rfl] at g; cases g; cases w1
      · rw [if_neg c] at g
        rw [upd_ne _ _ _ c] at e
        exact ⟨b, o, p, g, w1, e, ec⟩
    · intro b hb
      exact upd_ne _ _ _ (by omega)

/-! ### What was told in an elder place table is told there again -/
def detO : AO → Bool
  | .cells _ vs => allV (fun v => sid v v) vs
  | _ => false
omit [SemC] in
theorem allV_get {f : Value → Bool} : ∀ {l : List Value}, allV f l = true → ∀ (i : Nat) v, l[i]? = some v → f v = true
  | [], _, i, v, h => by simp at h
  | x :: l, h, i, v, hv => by
    simp only [allV] at h
    split at h
    · rename_i hx
      cases i with
      | zero => simp at hv; subst hv; exact hx
      | succ i => exact allV_get h i v (by simpa using hv)
    · cases h
theorem VR.backD {θ θ' : Th} (h : Ext θ θ') {v x y : Value} (hd : sid v v = true) (h1 : VR θ v y) (h2 : VR θ' v x) : VR θ v x := by
  rw [sid_det hd h2 (h1.mono h)]; exact h1
theorem ORel.backD {θ θ' : Th} (h : Ext θ θ') {heap heap' : Array Obj} {p : Pl} {o : AO} (hd : detO o = true) (h1 : ORel θ heap p o) (h2 : ORel θ' heap' p o) : ORel θ heap' p o := by
  cases o with
  | cells esz vs =>
    obtain ⟨a1, cur, e, a2, a3, a4, a5⟩ := h1
    obtain ⟨b1, cur', e', b2, b3, b4, b5⟩ := h2
    refine ⟨b1, cur', e', b2, b3, b4, fun i v hv => ?_⟩
    obtain ⟨x, c1, c2⟩ := b5 i v hv
    obtain ⟨y, d1, d2⟩ := a5 i v hv
    exact ⟨x, c1, VR.backD h (allV_get hd i v hv) d2 c2⟩
  | _ => simp [detO] at hd

/-! ### The rule -/
structure LP where
  slot : Tmp
  sl : Nat
  pred : Nat → BX
  tag : Nat
  args : List TM
def LP.len (L : LP) : TM := .ap 5 [.v (.chan (some L.sl))]
def LP.lt (L : LP) (I : Nat) : BX := .a (.ap 1 [.v (.chan (some I)), L.len])
def idx (j : Nat) : Pl := ⟨0, 0, 0, 0, nv j⟩
/-- What the tag that the loop gives stands for: the question answered by yes at every element. -/
def LP.ok (L : LP) (N : Nat) : Prop := ∀ (θ : Th) (I n : Nat), N ≤ I → (∃ a c, dv θ (.chan (some L.sl)) = .slice a n c) →
  SemC.semf L.tag (denL SemC.semf θ L.args) = .bool (decide (∀ j, j < n → denB SemC.semf (upd θ I (idx j)) (L.pred I) = true))

def dstsM : List Oper → Nat → Nat
  | [], m => m
  | o :: r, m => match o.dst with
    | some d => dstsM r (Nat.lor m (2 ^ d))
    | none => dstsM r m
def codeM : Code → Nat
  | .region _ ops _ => dstsM ops.toList 0
  | .seq x y => Nat.lor (codeM x) (codeM y)
  | .cond _ x y => Nat.lor (codeM x) (codeM y)
  | .block _ b => codeM b
  | .loop b => codeM b
  | _ => 0
def keepT (m s : Nat) (tm : Tr Value) : Nat → Tr Value
  | 0 => .lf
  | n + 1 => match tb m n, Nat.beq n s, tm.get n with
    | false, false, some v => match sid v v with
      | true => (keepT m s tm n).set n (some v)
      | false => keepT m s tm n
    | _, _, _ => keepT m s tm n
omit [SemC] in
theorem keepT_get {m s : Nat} {tm : Tr Value} : ∀ {n : Nat}, n < Tr.lim → ∀ t v, (keepT m s tm n).get t = some v → tm.get t = some v ∧ t ≠ s ∧ sid v v = true ∧ t < n
  | 0, _, t, v, h => by simp [keepT, Tr.get_lf] at h
  | n + 1, hl, t, v, h => by
    simp only [keepT] at h
    split at h
    · rename_i u h1 h2 h3
      split at h
      · rename_i hd
        rw [Tr.get_set _ _ _ _ (by omega)] at h
        split at h
        · rename_i e; subst e; cases h; exact ⟨h3, Nat.ne_of_beq_eq_false h2, hd, by omega⟩
        · obtain ⟨a, b, c, d⟩ := keepT_get (by omega) t v h; exact ⟨a, b, c, by omega⟩
      · obtain ⟨a, b, c, d⟩ := keepT_get (by omega) t v h; exact ⟨a, b, c, by omega⟩
    · obtain ⟨a, b, c, d⟩ := keepT_get (by omega) t v h; exact ⟨a, b, c, by omega⟩
def sameTm (a b : Tr Value) : Nat → Bool
  | 0 => true
  | n + 1 => match a.get n with
    | none => sameTm a b n
    | some v => match b.get n with
      | some u => match sid v u with
        | true => sameTm a b n
        | false => false
      | none => false
omit [SemC] in
theorem sameTm_spec {a b : Tr Value} : ∀ {n : Nat}, sameTm a b n = true → ∀ t v, t < n → a.get t = some v → b.get t = some v
  | 0, _, t, v, h, _ => by omega
  | n + 1, h, t, v, ht, hv => by
    simp only [sameTm] at h
    split at h
    · rename_i hn
      by_cases e : t = n
      · subst e; rw [hn] at hv; cases hv
      · exact sameTm_spec h t v (by omega) hv
    · rename_i u hn
      split at h
      · rename_i u2 hb
        split at h
        · rename_i hs
          by_cases e : t = n
          · subst e; rw [hn] at hv; cases hv; rw [hb, sid_spec hs]
          · exact sameTm_spec h t v (by omega) hv
        · cases h
      · cases h
def sameHp (a b : Tr AO) : Nat → Bool
  | 0 => true
  | n + 1 => match a.get n with
    | none => sameHp a b n
    | some o => match o.wr with
      | false => sameHp a b n
      | true => match detO o, b.get n with
        | true, some o' => match sameO o o' with
          | true => sameHp a b n
          | false => false
        | _, _ => false
omit [SemC] in
theorem sameHp_spec {a b : Tr AO} : ∀ {n : Nat}, sameHp a b n = true → ∀ k o, k < n → a.get k = some o → o.wr = true → b.get k = some o ∧ detO o = true
  | 0, _, k, o, h, _, _ => by omega
  | n + 1, h, k, o, hk, ho, hw => by
    simp only [sameHp] at h
    split at h
    · rename_i hn
      by_cases e : k = n
      · subst e; rw [hn] at ho; cases ho
      · exact sameHp_spec h k o (by omega) ho hw
    · rename_i o1 hn
      split at h
      · rename_i hw1
        by_cases e : k = n
        · subst e; rw [hn] at ho; cases ho; rw [hw] at hw1; cases hw1
        · exact sameHp_spec h k o (by omega) ho hw
      · split at h
        · rename_i o2 hd hb
          split at h
          · rename_i hs
            by_cases e : k = n
            · subst e; rw [hn] at ho; cases ho; rw [hb, ← sameO_spec hs]; exact ⟨rfl, hd⟩
            · exact sameHp_spec h k o (by omega) ho hw
          · cases h
        · cases h
/-- The slot's value is the index's next one. -/
def nextI (hp : Tr AO) (I : Nat) (v : Value) : Bool :=
  match v with
  | .chan (some m) => match hp.get m with
    | some (.sym tag as _) => match Nat.beq tag 2 with
      | true => sidL sid as [.chan (some I), .int .i64 1]
      | false => false
    | _ => false
  | v => sid v (apV .i64 2 [.chan (some I), .int .i64 1])
def addFact (st : St) (tag : Nat) (as : List Value) (c : Bool) : St := ⟨st.tm, st.sz, st.df, ⟨st.h.hp.set st.h.nx (some (.sym tag as (.boolK c))), st.h.nx + 1⟩⟩
def nilD (l : List Nat) : Bool := match l with | [] => true | _ => false
def loopO (L : LP) (st : St) (tm1 : Tr Value) (I : Nat) : List (AX × St) → Option (List (AX × St))
  | [] => some []
  | r :: rest => match loopO L st tm1 I rest with
    | none => none
    | some m => match r.1 with
      | .normal => match ev3 r.2.h.hp r.2.h.nx (L.lt I), ev3 r.2.h.hp r.2.h.nx (L.pred I), r.2.tm.get L.slot with
        | some true, some true, some sv => match nextI r.2.h.hp I sv, sameTm tm1 r.2.tm st.sz, sameHp st.h.hp r.2.h.hp I with
          | true, true, true => match nilD r.2.df, Nat.beq r.2.sz st.sz with
            | true, true => some m
            | _, _ => none
          | _, _, _ => none
        | _, _, _ => none
      | _ => match Nat.blt r.2.h.nx Tr.lim, rsvL r.2.h.hp r.2.h.nx L.args, ev3 r.2.h.hp r.2.h.nx (L.lt I) with
        | true, some as, some false => some ((r.1, addFact r.2 L.tag as true) :: m)
        | true, some as, some true => match ev3 r.2.h.hp r.2.h.nx (L.pred I) with
          | some false => some ((r.1, addFact r.2 L.tag as false) :: m)
          | _ => none
        | _, _, _ => none
def headS (L : LP) (st : St) (tm1 : Tr Value) : St :=
  ⟨tm1.set L.slot (some (.chan (some st.h.nx))), st.sz, st.df, ⟨(st.h.hp.set st.h.nx (some (.sym 9 [] (.int .i64)))).set (st.h.nx + 1) (some (.sym 1 [.chan (some st.h.nx), .int .i64 0] (.boolK false))), st.h.nx + 2⟩⟩
def zeroI (v : Option Value) : Bool :=
  match v with
  | some (.int .i64 n) => decide (n = 0)
  | _ => false
def loopY (L : LP) (N : Nat) (E : Ev) (b : Code) (st : St) : Option (List (AX × St)) :=
  match zeroI (st.tm.get L.slot), Nat.ble N st.h.nx, Nat.blt (st.h.nx + 2) Tr.lim, Nat.blt st.sz Tr.lim, Nat.blt L.slot st.sz, nilD st.df with
  | true, true, true, true, true, true => match Nat.blt L.sl N, okTL (fun m => Nat.blt m N) (fun _ => true) L.args, okB (fun m => Nat.blt m (st.h.nx + 1)) (fun _ => true) (L.pred st.h.nx), st.h.hp.get L.sl with
    | true, true, true, some (.sym _ _ (.slice _)) => match E.c b false (headS L st (keepT (codeM b) L.slot st.tm st.sz)) with
      | some outs => loopO L st (keepT (codeM b) L.slot st.tm st.sz) st.h.nx outs
      | none => none
    | _, _, _, _ => none
  | _, _, _, _, _, _ => none
end
end Go.Am
