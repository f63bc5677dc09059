/- A region whose order is drawn: every order ends as the text's order does. -/
import Derived.Test.YtckboonjjlpogaaGreatAmDraw4
set_option linter.unusedVariables false
set_option linter.unusedSimpArgs false
namespace Go.Am
noncomputable section
variable [SemC]

section
variable {P : Program} {T : Tbl} {E : Ev} {ops : Array Oper} {nx0 sz : Nat} {H0 : AH} {tm0 : Tr Value} {its : List It} {df : List Nat} {θ0 : Th} {w0 : World}

omit [SemC] in
/-- What the heap of a moment holds. -/
theorem cur_get (rc : RC T E ops nx0 sz H0 tm0 its) {listed : Array Bool} {q b : Nat} {o : AO} (h : (cur nx0 H0 its listed q).get b = some o) :
    (∃ k ao, (k, ao) ∈ alls 0 its ∧ (listed.getD k false = true ∧ (needM (its.take q)).testBit k = false) ∧ b = nx0 + k ∧ o = ao) ∨
      ((∀ x ∈ alls 0 its, listed.getD x.1 false = true → (needM (its.take q)).testBit x.1 = false → nx0 + x.1 ≠ b) ∧ (stH H0 (its.take q)).hp.get b = some o) := by
  rcases addA_get nx0 _ _ _ rc.alim (alls_nodup _ _) b o h with ⟨k, ao, h1, h2, h3, h4⟩ | ⟨h1, h2⟩
  · simp only [Bool.and_eq_true, Bool.not_eq_true'] at h2
    exact .inl ⟨k, ao, h1, h2, h3, h4⟩
  · refine .inr ⟨fun x hx h3 h4 => h1 x hx ?_, h2⟩
    simp only [h3, h4]; rfl

omit [SemC] in
theorem cur_mem (rc : RC T E ops nx0 sz H0 tm0 its) {listed : Array Bool} {q k : Nat} {ao : AO} (h : (k, ao) ∈ alls 0 its) (h1 : listed.getD k false = true) (h2 : (needM (its.take q)).testBit k = false) :
    (cur nx0 H0 its listed q).get (nx0 + k) = some ao :=
  addA_mem nx0 _ _ _ k ao rc.alim (alls_nodup _ _) h (by simp only [h1, h2]; rfl)

omit [SemC] in
theorem cur_old (rc : RC T E ops nx0 sz H0 tm0 its) {listed : Array Bool} {q b : Nat} {o : AO} (h : (stH H0 (its.take q)).hp.get b = some o)
    (hn : ∀ x ∈ alls 0 its, listed.getD x.1 false = true → (needM (its.take q)).testBit x.1 = false → nx0 + x.1 ≠ b) : (cur nx0 H0 its listed q).get b = some o := by
  unfold cur
  rw [addA_not nx0 _ _ _ b rc.alim]
  · exact h
  · intro x hx hf
    simp only [Bool.and_eq_true, Bool.not_eq_true'] at hf
    exact hn x hx hf.1 hf.2

omit [SemC] in
/-- A view of the heap that is a part of the heap of the moment. -/
theorem view_sub (rc : RC T E ops nx0 sz H0 tm0 its) {listed : Array Bool} {q : Nat} (hst : isStage its q) {bf : Nat} (hb : ∀ k, bf.testBit k = true → listed.getD k false = true)
    {al : List (Nat × AO)} (hal : ∀ x ∈ al, x ∈ alls 0 its) (hnd : (al.map (·.1)).Nodup) (b : Nat) (o : AO)
    (h : (addA nx0 (fun k => bf.testBit k && !(needM (its.take q)).testBit k) al (stH H0 (its.take q)).hp).get b = some o) : (cur nx0 H0 its listed q).get b = some o := by
  rcases addA_get nx0 _ _ _ (fun x hx => rc.alim x (hal x hx)) hnd b o h with ⟨k, ao, h1, h2, rfl, rfl⟩ | ⟨h1, h2⟩
  · simp only [Bool.and_eq_true, Bool.not_eq_true'] at h2
    exact cur_mem rc (hal _ h1) (hb k h2.1) h2.2
  · refine cur_old rc h2 ?_
    rintro ⟨k, ao⟩ hx h3 h4 rfl
    have := rc.k4 q hst k ao hx h4
    rw [this] at h2; cases h2

theorem DI.sameOrd (rc : RC T E ops nx0 sz H0 tm0 its) {listed : Array Bool} {a : Act} {w : World} {θ : Th} {q : Nat} (di : DI ops nx0 H0 tm0 sz df its θ0 w0 listed a w θ q) {i : Nat} {it : It} (hi : its[i]? = some it)
    (hr : i ∈ Region.ready .any ops listed) (hne : it.rk.isEf = false) (k : Nat) (itk : It) (hk : its[k]? = some itk) (he : itk.rk.isEf = true) : (listed.setIfInBounds i true).getD k false = true ↔ k < q := by
  have hil : i < listed.size := by rw [di.lsz]; exact rc.lt hi
  rw [listed_set hil, ← di.ord k itk hk he]
  constructor
  · rintro (rfl | h)
    · rw [hi] at hk; cases hk; rw [hne] at he; cases he
    · exact h
  · exact .inr

omit [SemC] in
/-- The heap of the moment, where an operation that makes nothing new is done. -/
theorem cur_set (rc : RC T E ops nx0 sz H0 tm0 its) {listed : Array Bool} {q i : Nat} (hil : i < listed.size) (hno : ∀ ao, (i, ao) ∉ alls 0 its) (b : Nat) (o : AO) (h : (cur nx0 H0 its (listed.setIfInBounds i true) q).get b = some o) :
    (cur nx0 H0 its listed q).get b = some o := by
  rcases cur_get rc h with ⟨k, ao, h1, ⟨h2, h2'⟩, rfl, rfl⟩ | ⟨h1, h2⟩
  · rcases (listed_set hil).1 h2 with rfl | h3
    · exact absurd h1 (hno _)
    · exact cur_mem rc h1 h3 h2'
  · exact cur_old rc h2 fun x hx h3 h4 => h1 x hx ((listed_set hil).2 (.inr h3)) h4

omit [SemC] in
theorem not_al {i : Nat} {it : It} (hi : its[i]? = some it) (h : ∀ ao, it.rk ≠ .pn ao) (ao : AO) : (i, ao) ∉ alls 0 its := by
  intro hm
  obtain ⟨j, it', h1, h2, h3⟩ := (alls_mem _ _ _ _).1 hm
  rw [Nat.zero_add] at h3; subst h3
  rw [hi] at h1; cases h1
  exact h ao h2

/-- An operation that leaves the world as it is. -/
theorem DI.quiet (rc : RC T E ops nx0 sz H0 tm0 its) {listed : Array Bool} {a : Act} {w : World} {θ : Th} {q : Nat} (di : DI ops nx0 H0 tm0 sz df its θ0 w0 listed a w θ q) {i : Nat} {it : It} (hi : its[i]? = some it)
    (hr : i ∈ Region.ready .any ops listed) (hne : it.rk.isEf = false) (hna : ∀ ao, it.rk ≠ .pn ao) {v' : Value} (hv : VR θ it.val v') :
    DI ops nx0 H0 tm0 sz df its θ0 w0 (listed.setIfInBounds i true) (a.put it.o.dst v') w θ q := by
  have hil : i < listed.size := by rw [di.lsz]; exact rc.lt hi
  have hsub := fun b o => cur_set rc (q := q) hil (not_al hi hna) b o
  refine di.step rc hi hr (Ext.refl θ) hv di.stage (di.sameOrd rc hi hr hne) (di.ro.sub hsub) di.fresh (fun k hk _ hn => di.unb k hk hn) di.ge ?_
  have hF := di.fr
  refine ⟨hF.size, hF.os, hF.tape, hF.output, hF.keep, ?_, hF.old, hF.nx⟩
  rintro k hk ⟨b, o, p, g1, g2, g3⟩
  exact hF.sub k hk ⟨b, o, p, hsub _ _ g1, g2, g3⟩

omit [SemC] in
/-- The runs of a region's text: any two agree in what does not wait for the operation in which they part. -/
theorem AG.item (rc : RC T E ops nx0 sz H0 tm0 its) {its' : List It} (rc' : RC T E ops nx0 sz H0 tm0 its') {i : Nat} {it : It} {r : Value × AH} (hi : its[i]? = some it) (ag : AG i i it its its' r) (k : Nat) (x : It) (hx : its'[k]? = some x) :
    ∃ y : It, its[k]? = some y ∧ y.o = x.o ∧ y.bef = x.bef ∧ (k ≠ i → (i < k → y.bef.testBit i = false) → y.val = x.val ∧ y.rk = x.rk) := by
  obtain ⟨h1, ⟨it', g1, g2, g3, g4, g5, g6⟩, h3, h4⟩ := ag
  have hlt : k < its.length := by rw [← h3]; exact (List.getElem?_eq_some_iff.1 hx).1
  have hy : its[k]? = some its[k] := List.getElem?_eq_getElem hlt
  have ho : its[k].o = x.o := by
    have e1 := rc.op hy
    have e2 := rc'.op hx
    exact Option.some.inj (e1.symm.trans e2)
  refine ⟨_, hy, ho, ?_⟩
  rcases Nat.lt_trichotomy k i with hk | hk | hk
  · have : its'[k]? = its[k]? := by
      rw [← List.getElem?_take_of_lt hk, h1, List.getElem?_take_of_lt hk]
    rw [hx, hy] at this
    cases this
    exact ⟨rfl, fun _ _ => ⟨rfl, rfl⟩⟩
  · subst hk
    rw [hx] at g1; cases g1
    rw [hi] at hy; cases hy
    exact ⟨g3.symm, fun h => absurd rfl h⟩
  · obtain ⟨e1, e2⟩ := h4 k _ _ hk hy hx
    exact ⟨e1, fun _ hb => e2 (hb hk)⟩

theorem DI.swap (rc : RC T E ops nx0 sz H0 tm0 its) {its' : List It} (rc' : RC T E ops nx0 sz H0 tm0 its') {listed : Array Bool} {a : Act} {w : World} {θ : Th} {q : Nat} (di : DI ops nx0 H0 tm0 sz df its θ0 w0 listed a w θ q)
    {i : Nat} {it : It} {r : Value × AH} (hi : its[i]? = some it) (ag : AG i i it its its' r) (hni : listed.getD i false = false) (hqi : q ≤ i) :
    DI ops nx0 H0 tm0 sz df its' θ0 w0 listed a w θ q := by
  have item := AG.item rc rc' hi ag
  obtain ⟨h1, ⟨it', g1, g2, g3, g4, g5, g6⟩, h3, h4⟩ := ag
  have hq : its'.take q = its.take q := by
    have := congrArg (List.take q) h1
    rwa [List.take_take, List.take_take, Nat.min_eq_left hqi] at this
  -- what is done does not wait for i
  have hbit : ∀ (k : Nat) (y : It), its[k]? = some y → listed.getD k false = true → k ≠ i ∧ y.bef.testBit i = false := by
    intro k y hy ht
    refine ⟨(by rintro rfl; rw [hni] at ht; cases ht), ?_⟩
    cases hb : y.bef.testBit i with
    | false => rfl
    | true => have := di.closed k y hy ht i hb; rw [hni] at this; cases this
  have item' : ∀ (k : Nat) (x : It), its'[k]? = some x → listed.getD k false = true → ∃ y : It, its[k]? = some y ∧ y.o = x.o ∧ y.bef = x.bef ∧ y.val = x.val ∧ y.rk = x.rk := by
    intro k x hx ht
    obtain ⟨y, e1, e2, e3, e4⟩ := item k x hx
    obtain ⟨f1, f2⟩ := hbit k y e1 ht
    exact ⟨y, e1, e2, e3, e4 f1 fun _ => f2⟩
  have conv : ∀ (k : Nat) (y : It), its[k]? = some y → ∃ x : It, its'[k]? = some x := by
    intro k y hy
    have hlt : k < its'.length := by rw [h3]; exact (List.getElem?_eq_some_iff.1 hy).1
    exact ⟨_, List.getElem?_eq_getElem hlt⟩
  have hal : ∀ k ao, listed.getD k false = true → ((k, ao) ∈ alls 0 its' ↔ (k, ao) ∈ alls 0 its) := by
    intro k ao ht
    rw [alls_mem, alls_mem]
    constructor
    · rintro ⟨j, x, e1, e2, e3⟩
      rw [Nat.zero_add] at e3; subst e3
      obtain ⟨y, f1, _, _, _, f5⟩ := item' k x e1 ht
      exact ⟨k, y, f1, f5.trans e2, by simp⟩
    · rintro ⟨j, y, e1, e2, e3⟩
      rw [Nat.zero_add] at e3; subst e3
      obtain ⟨x, hx⟩ := conv k y e1
      obtain ⟨y', f1, _, _, _, f5⟩ := item' k x hx ht
      rw [e1] at f1; cases f1
      exact ⟨k, x, hx, f5.symm.trans e2, by simp⟩
  have hcur : ∀ b o, (cur nx0 H0 its' listed q).get b = some o → (cur nx0 H0 its listed q).get b = some o := by
    intro b o h
    rcases cur_get rc' h with ⟨k, ao, e1, ⟨e2, e2'⟩, rfl, rfl⟩ | ⟨e1, e2⟩
    · rw [hq] at e2'
      exact cur_mem rc ((hal k _ e2).1 e1) e2 e2'
    · rw [hq] at e2
      refine cur_old rc e2 ?_
      rintro ⟨k, ao⟩ hx f1 f2
      exact e1 (k, ao) ((hal k _ f1).2 hx) f1 (by rw [hq]; exact f2)
  refine ⟨di.lsz, ?_, ?_, ?_, di.sz, di.df, ?_, ?_, di.ro.sub hcur, by rw [hq]; exact di.fresh, di.unb, by rw [hq]; exact di.ge, ?_⟩
  · rcases di.stage with h | ⟨k, y, rfl, e1, e2⟩
    · exact .inl h
    · have hk : k < i := by omega
      refine .inr ⟨k, y, rfl, ?_, e2⟩
      rw [← List.getElem?_take_of_lt hk, h1, List.getElem?_take_of_lt hk]; exact e1
  · intro k x hx he
    rcases Nat.lt_trichotomy k i with hk | hk | hk
    · have : its'[k]? = its[k]? := by
        rw [← List.getElem?_take_of_lt hk, h1, List.getElem?_take_of_lt hk]
      rw [hx] at this
      exact di.ord k x this.symm he
    · subst hk
      rw [hni]
      constructor
      · intro h; cases h
      · intro h; omega
    · constructor
      · intro ht
        obtain ⟨y, f1, _, f3, _⟩ := item' k x hx ht
        have hkk := (rc'.inf k x hx).kind
        cases hrk : x.rk with
        | ef H =>
          rw [hrk] at hkk
          have := hkk.2 i it' (by rw [List.getElem?_take_of_lt hk]; exact g1) (by rw [g6]; rfl)
          rw [← f3, (hbit k y f1 ht).2] at this
          cases this
        | skip => rw [hrk] at he; cases he
        | p0 => rw [hrk] at he; cases he
        | pr => rw [hrk] at he; cases he
        | pn => rw [hrk] at he; cases he
      · intro h; omega
  · intro k x hx ht m hm
    obtain ⟨y, f1, _, f3, _⟩ := item' k x hx ht
    exact di.closed k y f1 ht m (by rw [f3]; exact hm)
  · intro k x d hx ht hd
    obtain ⟨y, f1, f2, f3, f4, _⟩ := item' k x hx ht
    rw [← f4]
    exact di.put k y d f1 ht (by rw [f2]; exact hd)
  · intro t v hno ht
    refine di.old t v ?_ ht
    intro k y hy htk
    obtain ⟨x, hx⟩ := conv k y hy
    obtain ⟨y', f1, f2, _⟩ := item' k x hx htk
    rw [hy] at f1; cases f1
    rw [f2]
    exact hno k x hx htk
  · have hF := di.fr
    rw [hq]
    refine ⟨hF.size, hF.os, hF.tape, hF.output, hF.keep, ?_, hF.old, hF.nx⟩
    rintro k hk ⟨b, o, p, e1, e2, e3⟩
    exact hF.sub k hk ⟨b, o, p, hcur _ _ e1, e2, e3⟩

/-- The writing operation that is next. -/
theorem DI.efStep (rc : RC T E ops nx0 sz H0 tm0 its) {listed : Array Bool} {a : Act} {w w' : World} {θ θ' : Th} {q : Nat} (di : DI ops nx0 H0 tm0 sz df its θ0 w0 listed a w θ q) {i : Nat} {it : It} (hi : its[i]? = some it)
    (hr : i ∈ Region.ready .any ops listed) {H2 : AH} (hk : it.rk = .ef H2) (hqi : q ≤ i) (hsame : stH H0 (its.take i) = stH H0 (its.take q) ∧ needM (its.take i) = needM (its.take q)) {v' : Value} (hv : VR θ' it.val v') (hR' : RH θ' H2 w')
    (hF' : Fr θ ⟨addA nx0 (fun k => it.bef.testBit k && !(needM (its.take q)).testBit k) (alls 0 (its.take i)) (stH H0 (its.take q)).hp, (stH H0 (its.take q)).nx⟩ w θ' H2 w') :
    DI ops nx0 H0 tm0 sz df its θ0 w0 (listed.setIfInBounds i true) (a.put it.o.dst v') w' θ' (i + 1) := by
  obtain ⟨hni, hbe⟩ := di.before rc hi hr
  have hil : i < listed.size := by rw [di.lsz]; exact rc.lt hi
  have heE : it.rk.isEf = true := by rw [hk]; rfl
  have hall : ∀ (j : Nat) (it' : It), (its.take i)[j]? = some it' → it'.rk.isEf = true → it.bef.testBit j = true := by
    have kind := (rc.inf i it hi).kind
    rw [hk] at kind
    exact kind.2
  have hVsub := view_sub rc di.stage hbe (al := alls 0 (its.take i)) (fun x hx => (alls_take hx).1) (alls_nodup _ _)
  have hEx : Ext θ θ' := hF'.ext di.fresh
  have htk : its.take (i + 1) = its.take i ++ [it] := by rw [List.take_add_one, hi]; rfl
  have hst1 : stH H0 (its.take (i + 1)) = H2 := by rw [htk, stH_append, hk]
  have hnd1 : needM (its.take (i + 1)) = needM (its.take q) ||| it.bef := by rw [htk, needM_append, hk, hsame.2]
  have hge := di.ge
  have hnx : (stH H0 (its.take q)).nx ≤ H2.nx := hF'.nx
  have hna := not_al (its := its) hi (by rw [hk]; simp)
  have hj := join (hp2 := cur nx0 H0 its (listed.setIfInBounds i true) (i + 1)) di.ro hVsub hF' ⟨hR'.obj, hR'.inj⟩ hEx (by
    intro b o h
    rcases cur_get rc h with ⟨k, ao, g1, ⟨g2, g2'⟩, rfl, rfl⟩ | ⟨g1, g2⟩
    · right
      rw [hnd1, Nat.testBit_or, Bool.or_eq_false_iff] at g2'
      have hki : k ≠ i := by rintro rfl; exact hna _ g1
      have hkl := ((listed_set hil).1 g2).resolve_left hki
      refine ⟨cur_mem rc g1 hkl g2'.1, ?_, ?_⟩
      · rw [addA_not nx0 _ _ _ _ (fun x hx => rc.alim x (alls_take hx).1)]
        · exact rc.k4 q di.stage k _ g1 g2'.1
        · rintro ⟨k', ao'⟩ hx hf e
          have : k' = k := by simp only at e; omega
          subst this
          simp only [g2'.2, Bool.false_and] at hf
          cases hf
      · obtain ⟨j, it', e1, e2, e3⟩ := (alls_mem _ _ _ _).1 g1
        have := rc.lt e1
        omega
    · left
      rw [hst1] at g2; exact g2)
  have hj2 : RO θ' (cur nx0 H0 its (listed.setIfInBounds i true) (i + 1)) w'.heap := hj.1
  have hj3 := hj.2
  refine di.step (q' := i + 1) rc hi hr hEx hv (.inr ⟨i, it, rfl, hi, heE⟩) ?_ hj2 ?_ ?_ ?_ ?_
  · intro k itk hk' he
    rw [listed_set hil]
    constructor
    · rintro (rfl | h)
      · omega
      · have := (di.ord k itk hk' he).1 h
        omega
    · intro h
      by_cases e : k = i
      · exact .inl e
      · right
        refine hbe k (hall k itk ?_ he)
        rw [List.getElem?_take_of_lt (by omega)]; exact hk'
  · rw [hst1]; exact hR'.fresh
  · intro k hk' hki hn'
    rw [hF'.old (nx0 + k) (by show nx0 + k < (stH H0 (its.take q)).nx; omega)]
    exact di.unb k hk' hn'
  · rw [hst1]; omega
  · rw [hst1]; exact di.fr.trans hj3


theorem DI.pure (hT : TblOK P T) (hE : EvOK P E) (ro : Option Nat) {listed : Array Bool} {a : Act} {w : World} {θ : Th} {q : Nat} (di : DI ops nx0 H0 tm0 sz df its θ0 w0 listed a w θ q)
    {brs : List (List It × DS)} (hrc : ∀ b ∈ brs, RC T E ops nx0 sz H0 tm0 b.1) (hcl : ∀ b ∈ brs, CL T E nx0 H0 [] brs b.1) {s0 : DS} (hb0 : (its, s0) ∈ brs) {i : Nat} {it : It} (hi : its[i]? = some it) (hr : i ∈ Region.ready .any ops listed) {Q : Exit → Act → World → Prop} {K : Act → World → Prop}
    (hK : ∀ b ∈ brs, ∀ a' w' θ' q', DI ops nx0 H0 tm0 sz df b.1 θ0 w0 (listed.setIfInBounds i true) a' w' θ' q' → K a' w') : wpOpIn (FR ro) 0 P ops Q i K a w := by
  have rc : RC T E ops nx0 sz H0 tm0 its := hrc _ hb0
  obtain ⟨hni, hbe⟩ := di.before rc hi hr
  have hil : i < listed.size := by rw [di.lsz]; exact rc.lt hi
  have inf := rc.inf i it hi
  have hg := fun t v => di.guardT rc hi hr t v
  have hl : (its.take i).length = i := by
    have := (List.getElem?_eq_some_iff.1 hi).1
    simp; omega
  have hev : ∀ x ∈ it.o.op.operands, ∀ v, oev it.tm x = some v → VR θ v (a.eval x) := fun x hx v hv =>
    oev_sound' (fun t ht v hv => di.temps rc hi hr t (fun k itk hk hd => rc.k2 i it hi t (ht ▸ hx) k itk hk hd) v hv) hv
  have kind := inf.kind
  unfold wpOpIn
  rw [rc.op hi]
  simp only
  cases hk : it.rk with
  | skip =>
    rw [hk] at kind
    simp only at kind
    rw [wantA_sound' hg kind.1]
    simp only [Bool.false_eq_true, if_false]
    exact ⟨fun _ _ => trivial, hK _ hb0 _ _ _ _ (di.quiet rc hi hr (by rw [hk]; rfl) (by rw [hk]; simp) (by rw [kind.2]; exact .tuple .nil))⟩
  | p0 =>
    rw [hk] at kind
    simp only at kind
    rw [wantA_sound' hg kind.1]
    simp only [if_true]
    have hR : RO θ .lf w.heap := ⟨fun b o h => by simp [Tr.get_lf] at h, fun b _ o _ _ _ h => by simp [Tr.get_lf] at h⟩
    obtain ⟨v', h1, h2⟩ := pev_sound (P := P) (o := it.o) (ρ := a.eval) hT hev hR kind.2
    refine wp_of_run (no_defer_pev kind.2) ?_
    rw [h1]
    exact hK _ hb0 _ _ _ _ (di.quiet rc hi hr (by rw [hk]; rfl) (by rw [hk]; simp) h2)
  | pr =>
    rw [hk] at kind
    simp only at kind
    rw [wantA_sound' hg kind.1]
    simp only [if_true]
    obtain ⟨al, al1, al2, hp⟩ := rc.k3 i it hi hk q di.stage (fun k itk hk' he hb => (di.ord k itk hk' he).1 (hbe k hb)) (by
      cases hc : (needM (its.take q)).testBit i with
      | false => rfl
      | true =>
        obtain ⟨k, itk, h1, h2, h3⟩ := needM_bit _ _ hc
        have hlt : k < q := by
          have := (List.getElem?_eq_some_iff.1 h1).1
          simp at this; omega
        rw [List.getElem?_take_of_lt hlt] at h1
        have := di.closed k itk h1 ((di.ord k itk h1 h2).2 hlt) i h3
        rw [hni] at this; cases this)
    have hR : RO θ _ w.heap := di.ro.sub (view_sub rc di.stage hbe al1 al2)
    obtain ⟨v', h1, h2⟩ := pev_sound (P := P) (o := it.o) (ρ := a.eval) hT hev hR hp
    refine wp_of_run (no_defer_pev hp) ?_
    rw [h1]
    exact hK _ hb0 _ _ _ _ (di.quiet rc hi hr (by rw [hk]; rfl) (by rw [hk]; simp) h2)
  | pn ao =>
    rw [hk] at kind
    simp only at kind
    obtain ⟨hw, mk, hp, hval⟩ := kind
    rw [wantA_sound' hg hw]
    simp only [if_true]
    have hR : RO θ .lf w.heap := ⟨fun b o h => by simp [Tr.get_lf] at h, fun b _ o _ _ _ h => by simp [Tr.get_lf] at h⟩
    obtain ⟨x, p, u, h1, h2, h3, h4⟩ := pev_sound (P := P) (o := it.o) (ρ := a.eval) hT hev hR hp
    refine wp_of_run (no_defer_pev hp) ?_
    rw [h3]
    rw [hl] at hval
    have hn : θ (nx0 + i) = none := di.unb i (rc.lt hi) hni
    have hEx : Ext θ (upd θ (nx0 + i) p) := Ext.upd p hn
    have hlim : nx0 + i < Tr.lim := by have := rc.lim; have := rc.lt hi; omega
    have h4' := h4 (nx0 + i) _ hEx (upd_same _ _ _)
    have hRO := RO.alloc (o := ao) di.ro hlim hn h1 h4'.2
    have hsub : ∀ b o, (cur nx0 H0 its (listed.setIfInBounds i true) q).get b = some o → ((cur nx0 H0 its listed q).set (nx0 + i) (some ao)).get b = some o := by
      intro b o h
      rw [Tr.get_set _ _ _ _ hlim]
      rcases cur_get rc h with ⟨k, ao', g1, ⟨g2, g2'⟩, rfl, rfl⟩ | ⟨g1, g2⟩
      · by_cases e : k = i
        · subst e
          obtain ⟨j, it', e1, e2, e3⟩ := (alls_mem _ _ _ _).1 g1
          rw [Nat.zero_add] at e3; subst e3
          rw [hi] at e1; cases e1
          rw [hk] at e2; cases e2
          rw [if_pos rfl]
        · rw [if_neg (by omega)]
          exact cur_mem rc g1 (((listed_set hil).1 g2).resolve_left e) g2'
      · have hmi : (i, ao) ∈ alls 0 its := (alls_mem _ _ _ _).2 ⟨i, it, hi, hk, by simp⟩
        by_cases hnd : (needM (its.take q)).testBit i = true
        · exfalso
          obtain ⟨k, itk, e1, e2, e3⟩ := needM_bit _ _ hnd
          have hlt : k < q := by
            have := (List.getElem?_eq_some_iff.1 e1).1
            simp at this; omega
          rw [List.getElem?_take_of_lt hlt] at e1
          have := di.closed k itk e1 ((di.ord k itk e1 e2).2 hlt) i e3
          rw [hni] at this; cases this
        · have hb : nx0 + i ≠ b := g1 (i, ao) hmi ((listed_set hil).2 (.inl rfl)) (by simpa using hnd)
          rw [if_neg (Ne.symm hb)]
          exact cur_old rc g2 fun y hy e1 e2 => g1 y hy ((listed_set hil).2 (.inr e1)) e2
    have hge := di.ge
    refine hK _ hb0 _ _ _ _ (di.step (v' := u) rc hi hr hEx (by rw [hval]; exact h4'.1) di.stage (di.sameOrd rc hi hr (by rw [hk]; rfl)) (hRO.sub hsub) ?_ ?_ di.ge ?_)
    · intro b hb
      rw [upd_ne _ _ _ (by have := rc.lt hi; omega)]
      exact di.fresh b hb
    · intro k hk hki hn'
      rw [upd_ne _ _ _ (by omega)]
      exact di.unb k hk hn'
    · have hF := di.fr
      refine ⟨Nat.le_trans hF.size (by show w.heap.size ≤ (w.heap.push _).size; simp), hF.os, hF.tape, hF.output, ?_, ?_, ?_, hF.nx⟩
      · intro k hk hno
        rw [← hF.keep k hk hno]
        exact RowKit.Below.heap_alloc w _ k (Nat.lt_of_lt_of_le hk hF.size)
      · rintro k hk ⟨b, o, p', g1, g0, g2, g3⟩
        have := hsub b o g1
        rw [Tr.get_set _ _ _ _ hlim] at this
        by_cases e : b = nx0 + i
        · subst e
          rw [upd_same] at g2; cases g2
          have := hF.size
          omega
        · rw [if_neg e] at this
          rw [upd_ne _ _ _ e] at g2
          exact hF.sub k hk ⟨b, o, p', this, g0, g2, g3⟩
      · intro b hb
        simp only at hb
        rw [upd_ne _ _ _ (by omega)]; exact hF.old b hb
  | ef H' =>
    rw [hk] at kind
    simp only at kind
    obtain ⟨hw, hall⟩ := kind
    rw [wantA_sound' hg hw]
    simp only [if_true]
    have heE : it.rk.isEf = true := by rw [hk]; rfl
    obtain ⟨outs, hop, hways⟩ := hcl _ hb0 i it hi heE
    simp only [List.nil_append, List.length_nil, Nat.zero_add] at hop hways
    -- the moment is that of the text's order
    have hqi : q ≤ i := by
      rcases Nat.lt_or_ge i q with h | h
      · have := (di.ord i it hi heE).2 h
        rw [hni] at this; cases this
      · exact h
    have hsame := stage_le (H0 := H0) (its := its) hqi (fun k itk hk' he hlt => (di.ord k itk hk' he).1 (hbe k (by
      refine hall k itk ?_ he
      rw [List.getElem?_take_of_lt hlt]; exact hk')))
    rw [hsame.1, hsame.2] at hop
    have hVsub := view_sub rc di.stage hbe (al := alls 0 (its.take i)) (fun x hx => (alls_take hx).1) (alls_nodup _ _)
    have hRV : RH θ ⟨addA nx0 (fun k => it.bef.testBit k && !(needM (its.take q)).testBit k) (alls 0 (its.take i)) (stH H0 (its.take q)).hp, (stH H0 (its.take q)).nx⟩ w := ⟨di.ro.sub hVsub, di.fresh⟩
    refine opE_sound hT hE hev hRV hop ro _ _ ?_
    rintro v' w' ⟨v, H2, θ', hin, hv, hR', hF'⟩
    obtain ⟨b', hb', ag⟩ := hways _ hin
    have rc' := hrc _ hb'
    have di' := di.swap rc rc' hi ag hni hqi
    obtain ⟨h1, ⟨it', g1, g2, g3, g4, g5, g6⟩, h3, h4⟩ := ag
    have hq : b'.1.take q = its.take q := by
      have := congrArg (List.take q) h1
      rwa [List.take_take, List.take_take, Nat.min_eq_left hqi] at this
    rw [← g2]
    refine hK _ hb' _ _ _ _ (di'.efStep rc' g1 hr g6 hqi (by rw [h1, hq]; exact hsame) (by rw [g5]; exact hv) hR' ?_)
    rw [g3, h1, hq]
    exact hF'

/-! ### All of it -/
def cnt : List Bool → Nat
  | [] => 0
  | true :: r => cnt r
  | false :: r => cnt r + 1
omit [SemC] in
theorem cnt_set : ∀ (l : List Bool) (i : Nat), l[i]? = some false → cnt (l.set i true) + 1 = cnt l
  | [], i, h => by simp at h
  | b :: r, 0, h => by simp at h; subst h; simp [cnt]
  | b :: r, i + 1, h => by
    have := cnt_set r i (by simpa using h)
    cases b <;> simp [cnt] at this ⊢ <;> omega
omit [SemC] in
theorem cnt_zero : ∀ (l : List Bool), cnt l = 0 → ∀ (i : Nat) (b : Bool), l[i]? = some b → b = true
  | [], _, i, b, h => by simp at h
  | true :: r, h0, i, b, h => by
    cases i with
    | zero => simp at h; exact h
    | succ i => exact cnt_zero r (by simpa [cnt] using h0) i b (by simpa using h)
  | false :: r, h0, _, _, _ => by simp [cnt] at h0
omit [SemC] in
theorem cnt_rep : ∀ n, cnt (List.replicate n false) = n
  | 0 => rfl
  | n + 1 => by simp [List.replicate_succ, cnt, cnt_rep n]

omit [SemC] in
theorem ready_nil (rc : RC T E ops nx0 sz H0 tm0 its) {listed : Array Bool} (hs : listed.size = ops.size) (h : Region.ready .any ops listed = []) : ∀ k, k < ops.size → listed.getD k false = true := by
  intro k
  induction k using Nat.strongRecOn with
  | ind k ih =>
    intro hk
    cases hc : listed.getD k false with
    | true => rfl
    | false =>
      exfalso
      have hlt : k < its.length := by rw [rc.len]; exact hk
      have hi : its[k]? = some its[k] := List.getElem?_eq_getElem hlt
      have : k ∈ Region.ready .any ops listed := mem_ready.2 ⟨by
        have : k < listed.size := by omega
        simp [Array.getD, this] at hc ⊢
        exact hc, _, rc.op hi, fun e he hb => by
          have hlt' := (rc.inf k _ hi).elt e he hb
          simp at hlt'
          exact ih e.on (by omega) (by omega)⟩
      rw [h] at this; cases this

theorem draw_run (hT : TblOK P T) (hE : EvOK P E) (ro : Option Nat) {brs : List (List It × DS)} (hrc : ∀ b ∈ brs, RC T E ops nx0 sz H0 tm0 b.1) (hcl : ∀ b ∈ brs, CL T E nx0 H0 [] brs b.1) {Q : Exit → Act → World → Prop}
    (hQ : ∀ b ∈ brs, ∀ listed a w θ q, DI ops nx0 H0 tm0 sz df b.1 θ0 w0 listed a w θ q → (∀ k, k < ops.size → listed.getD k false = true) → Q .normal a w) :
    ∀ (fuel : Nat) (b : List It × DS) (_ : b ∈ brs) (listed : Array Bool) (a : Act) (w : World) (θ : Th) (q : Nat), DI ops nx0 H0 tm0 sz df b.1 θ0 w0 listed a w θ q → cnt listed.toList ≤ fuel → wpAnyIn (FR ro) 0 P .any ops Q fuel listed a w
  | 0, b, hb, listed, a, w, θ, q, di, hc => by
    have hall : ∀ k, k < ops.size → listed.getD k false = true := by
      intro k hk
      have hk' : k < listed.size := by rw [di.lsz]; exact hk
      have := cnt_zero listed.toList (by omega) k listed[k] (by simp [hk'])
      simp [Array.getD, hk', this]
    refine ⟨?_, hQ _ hb _ _ _ _ _ di hall⟩
    cases hr : Region.ready .any ops listed with
    | nil => rfl
    | cons x r =>
      exfalso
      have hx : x ∈ Region.ready .any ops listed := by rw [hr]; simp
      obtain ⟨h1, o, ho, _⟩ := mem_ready.1 hx
      have hlt := (Array.getElem?_eq_some_iff.1 ho).1
      have h2 := hall x hlt
      have hk' : x < listed.size := by rw [di.lsz]; exact hlt
      simp [Array.getD, hk'] at h1 h2
      rw [h1] at h2; cases h2
  | fuel + 1, b, hb, listed, a, w, θ, q, di, hc => by
    have rc := hrc _ hb
    refine ⟨fun hr => hQ _ hb _ _ _ _ _ di (ready_nil rc di.lsz hr), fun i hir => ?_⟩
    obtain ⟨h1, o, ho, _⟩ := mem_ready.1 hir
    have hlt := (Array.getElem?_eq_some_iff.1 ho).1
    have hlt' : i < b.1.length := by rw [rc.len]; exact hlt
    have hi : b.1[i]? = some b.1[i] := List.getElem?_eq_getElem hlt'
    refine di.pure hT hE ro hrc hcl (s0 := b.2) hb hi hir fun b' hb' a' w' θ' q' di' => draw_run hT hE ro hrc hcl hQ fuel b' hb' _ a' w' θ' q' di' ?_
    have hk' : i < listed.size := by rw [di.lsz]; exact hlt
    have := cnt_set listed.toList i (by
      simp [Array.getD, hk'] at h1
      simp [hk', h1])
    simp only [Array.toList_setIfInBounds]
    omega

/-- The whole region. -/
def outD (T : Tbl) (st : St) (n : Nat) : List (List It × DS) → Option (List (AX × St))
  | [] => some []
  | b :: r => match chkD T st.h.nx ⟨st.h.hp, st.h.nx + n⟩ b.1 with
    | false => none
    | true => match outD T st n r with
      | some m => some ((.normal, ⟨b.2.tm, st.sz, st.df, ⟨addA st.h.nx (fun k => !b.2.need.testBit k) b.2.al b.2.H.hp, b.2.H.nx⟩⟩) :: m)
      | none => none
omit [SemC] in
theorem outD_mem {T : Tbl} {st : St} {n : Nat} : ∀ {brs : List (List It × DS)} {outs : List (AX × St)}, outD T st n brs = some outs → ∀ b ∈ brs, chkD T st.h.nx ⟨st.h.hp, st.h.nx + n⟩ b.1 = true ∧
    (AX.normal, (⟨b.2.tm, st.sz, st.df, ⟨addA st.h.nx (fun k => !b.2.need.testBit k) b.2.al b.2.H.hp, b.2.H.nx⟩⟩ : St)) ∈ outs
  | [], _, _, b, hb => by simp at hb
  | x :: r, outs, h, b, hb => by
    simp only [outD] at h
    split at h
    · cases h
    · rename_i hc
      split at h
      · rename_i m hm
        cases h
        rcases List.mem_cons.1 hb with rfl | hb
        · exact ⟨hc, by simp⟩
        · obtain ⟨h1, h2⟩ := outD_mem hm b hb
          exact ⟨h1, List.mem_cons_of_mem _ h2⟩
      · cases h
def evD (T : Tbl) (E : Ev) (ops : Array Oper) (st : St) : Option (List (AX × St)) :=
  match Nat.blt (st.h.nx + ops.size) Tr.lim with
  | false => none
  | true => match runD T E ops st.h.nx st.sz 0 ops.toList ⟨.lf, st.tm, ⟨st.h.hp, st.h.nx + ops.size⟩, 0, 0, 0, []⟩ with
    | none => none
    | some brs => outD T st ops.size brs

theorem evD_sound (hT : TblOK P T) (hE : EvOK P E) (ro : Option Nat) {id : Nat} {st : St} {outs : List (AX × St)} (h : evD T E ops st = some outs) {θ : Th} {a : Act} {w : World} (hS : RS θ st a w) :
    (Code.region id ops true).wpIn (FR ro) 0 P (CP θ st.h w outs) a w := by
  unfold evD at h
  split at h
  · cases h
  · rename_i hb
    have hlim := blt_spec hb
    split at h
    · cases h
    · rename_i brs hrun
      have hCS0 : CS ⟨st.h.hp, st.h.nx + ops.size⟩ st.tm [] ⟨.lf, st.tm, ⟨st.h.hp, st.h.nx + ops.size⟩, 0, 0, 0, []⟩ :=
        ⟨rfl, rfl, rfl, fun j h => by simp at h, fun j it h => by simp at h, fun it h => by simp at h, fun k b h => by simp [Tr.get_lf] at h, fun k it h => by simp at h, fun t v h => .inr ⟨fun it h => by simp at h, h⟩⟩
      obtain ⟨⟨b0, hb0⟩, hall⟩ := runD_facts hlim ops.toList [] _ brs (fun j => by simp) hCS0 hrun
      have hrc : ∀ b ∈ brs, RC T E ops st.h.nx st.sz ⟨st.h.hp, st.h.nx + ops.size⟩ st.tm b.1 := fun b hb => by
        obtain ⟨f1, f2, f3, f4⟩ := hall b hb
        exact RC.of_chk (by simpa using f3) hlim rfl (by simpa using f1) (outD_mem h b hb).1
      refine wpIn_region_any hT.mixed ?_
      refine draw_run (θ0 := θ) (w0 := { w with drawn := w.drawn + 1 }) (df := st.df) hT hE ro hrc (fun b hb => (hall b hb).2.2.2) ?_ ops.size b0 hb0 (Array.replicate ops.size false) a _ θ 0 ?_ (by simp [cnt_rep])
      · intro b hb listed a' w' θ' q di hall'
        have rc := hrc b hb
        have f2 := (hall b hb).2.1
        simp only [List.nil_append] at f2
        have hq : ∀ (k : Nat) (it : It), b.1[k]? = some it → it.rk.isEf = true → (k < q ↔ k < b.1.length) := fun k it hk he => by
          have hlt := rc.lt hk
          rw [← di.ord k it hk he, hall' k hlt, rc.len]
          simp [hlt]
        have hs := stage_same (H0 := ⟨st.h.hp, st.h.nx + ops.size⟩) hq
        simp only [List.take_length] at hs
        have hhp : ∀ c o, (addA st.h.nx (fun k => !b.2.need.testBit k) b.2.al b.2.H.hp).get c = some o → (cur st.h.nx ⟨st.h.hp, st.h.nx + ops.size⟩ b.1 listed q).get c = some o := by
          intro c o hb
          rw [f2.need, f2.al, f2.H, hs.1, hs.2] at hb
          rcases addA_get _ _ _ _ rc.alim (alls_nodup _ _) c o hb with ⟨k, ao, g1, g2, rfl, rfl⟩ | ⟨g1, g2⟩
          · obtain ⟨j, it', e1, e2, e3⟩ := (alls_mem _ _ _ _).1 g1
            rw [Nat.zero_add] at e3; subst e3
            exact cur_mem rc g1 (hall' _ (rc.lt e1)) (by simpa using g2)
          · exact cur_old rc g2 fun x hx e1 e2 => g1 x hx (by simp only [e2]; rfl)
        refine ⟨.normal, _, θ', (outD_mem h b hb).2, trivial, ⟨?_, di.sz, di.df, ⟨di.ro.sub hhp, ?_⟩⟩, ?_⟩
        · intro t v hv
          rcases f2.tmv t v hv with ⟨k, it', h1, h2, rfl⟩ | ⟨h1, h2⟩
          · exact di.put k it' t h1 (hall' k (rc.lt h1)) h2
          · exact di.old t v (fun k it' h3 _ => h1 it' (List.mem_iff_getElem?.2 ⟨k, h3⟩)) h2
        · have := di.fresh
          rw [← hs.1] at this
          simp only [f2.H]; exact this
        · have hF := di.fr
          rw [← hs.1] at hF
          refine Fr.drewL (w.drawn + 1) ⟨hF.size, hF.os, hF.tape, hF.output, hF.keep, ?_, hF.old, ?_⟩
          · rintro k hk ⟨c, o, p, g1, g2, g3⟩
            exact hF.sub k hk ⟨c, o, p, hhp _ _ g1, g2, g3⟩
          · simp only [f2.H]; exact hF.nx
      · have rc := hrc b0 hb0
        have hst0 : stH (⟨st.h.hp, st.h.nx + ops.size⟩ : AH) (b0.1.take 0) = ⟨st.h.hp, st.h.nx + ops.size⟩ := by simp [stH]
        have hrep : ∀ k, (Array.replicate ops.size false).getD k false = false := by
          intro k
          simp only [Array.getD_eq_getD_getElem?, Array.getElem?_replicate]
          split <;> rfl
        have hcur' : ∀ c o, (cur st.h.nx ⟨st.h.hp, st.h.nx + ops.size⟩ b0.1 (Array.replicate ops.size false) 0).get c = some o → st.h.hp.get c = some o := by
          intro c o h
          rcases cur_get rc h with ⟨k, ao, g1, ⟨g2, _⟩, _⟩ | ⟨_, g2⟩
          · rw [hrep] at g2; cases g2
          · rw [hst0] at g2; exact g2
        refine ⟨by simp, .inl rfl, ?_, ?_, hS.sz, hS.df, ?_, ?_, RO.sub ⟨hS.h.obj, hS.h.inj⟩ hcur', ?_, ?_, ?_, ?_⟩
        · intro k it _ _; rw [hrep]; simp
        · intro i it _ h; rw [hrep] at h; cases h
        · intro i it d _ h; rw [hrep] at h; cases h
        · intro t v _ h; exact hS.tm t v h
        · intro c hb; rw [hst0] at hb; exact hS.h.fresh c (by simp only at hb; omega)
        · intro k _ _; exact hS.h.fresh _ (by omega)
        · rw [hst0]; exact Nat.le_refl _
        · rw [hst0]
          refine ⟨Nat.le_refl _, rfl, rfl, rfl, fun _ _ _ => rfl, ?_, fun _ _ => rfl, by simp⟩
          rintro k hk ⟨c, o, p, g1, g2, g3⟩
          exact ⟨c, o, p, hcur' _ _ g1, g2, g3⟩
end
end
end Go.Am
