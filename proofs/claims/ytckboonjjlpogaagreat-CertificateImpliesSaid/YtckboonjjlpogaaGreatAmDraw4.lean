/- A region whose order is drawn, carried out. -/
import Derived.Test.YtckboonjjlpogaaGreatAmDraw3
set_option linter.unusedVariables false
set_option linter.unusedSimpArgs false
namespace Go.Am
noncomputable section
variable [SemC]

theorem oev_sound' {θ : Th} {tm : Tr Value} {a : Act} {x : Operand} {v : Value} (ht : ∀ t, x = .tmp t → ∀ v, tm.get t = some v → VR θ v (a.tmps.getD t undef)) (h : oev tm x = some v) : VR θ v (a.eval x) := by
  rw [oev_def] at h
  split at h
  · exact ht _ rfl _ h
  · split at h
    · rename_i hc; cases h; exact VR.of_cst θ _ hc
    · cases h
  · cases h; exact .func .nil .nil
  · cases h

def cur (nx0 : Nat) (H0 : AH) (its : List It) (listed : Array Bool) (q : Nat) : Tr AO :=
  addA nx0 (fun k => listed.getD k false && !(needM (its.take q)).testBit k) (alls 0 its) (stH H0 (its.take q)).hp

structure DI (ops : Array Oper) (nx0 : Nat) (H0 : AH) (tm0 : Tr Value) (sz : Nat) (df : List Nat) (its : List It) (θ0 : Th) (w0 : World) (listed : Array Bool) (a : Act) (w : World) (θ : Th) (q : Nat) : Prop where
  lsz : listed.size = ops.size
  stage : isStage its q
  ord : ∀ (k : Nat) (it : It), its[k]? = some it → it.rk.isEf = true → (listed.getD k false = true ↔ k < q)
  closed : ∀ (i : Nat) (it : It), its[i]? = some it → listed.getD i false = true → ∀ k, it.bef.testBit k = true → listed.getD k false = true
  sz : a.tmps.size = sz
  df : DR θ df a.defers
  put : ∀ (i : Nat) (it : It) (d : Nat), its[i]? = some it → listed.getD i false = true → it.o.dst = some d → VR θ it.val (a.tmps.getD d undef)
  old : ∀ t v, (∀ (i : Nat) (it : It), its[i]? = some it → listed.getD i false = true → it.o.dst ≠ some t) → tm0.get t = some v → VR θ v (a.tmps.getD t undef)
  ro : RO θ (cur nx0 H0 its listed q) w.heap
  fresh : ∀ b, (stH H0 (its.take q)).nx ≤ b → θ b = none
  unb : ∀ k, k < ops.size → listed.getD k false = false → θ (nx0 + k) = none
  ge : nx0 + ops.size ≤ (stH H0 (its.take q)).nx
  fr : Fr θ0 ⟨H0.hp, nx0⟩ w0 θ ⟨cur nx0 H0 its listed q, (stH H0 (its.take q)).nx⟩ w

section
variable {P : Program} {T : Tbl} {E : Ev} {ops : Array Oper} {nx0 sz : Nat} {H0 : AH} {tm0 : Tr Value} {its : List It} {df : List Nat} {θ0 : Th} {w0 : World}

omit [SemC] in
theorem RC.uniq (rc : RC T E ops nx0 sz H0 tm0 its) {i j d : Nat} {x y : It} (hi : its[i]? = some x) (hj : its[j]? = some y) (hx : x.o.dst = some d) (hy : y.o.dst = some d) : i = j := by
  rcases Nat.lt_trichotomy i j with h | h | h
  · have := ((rc.inf j y hj).dst d hy).2.2 x (List.mem_iff_getElem?.2 ⟨i, by rw [List.getElem?_take_of_lt h]; exact hi⟩)
    exact absurd hx this
  · exact h
  · have := ((rc.inf i x hi).dst d hx).2.2 y (List.mem_iff_getElem?.2 ⟨j, by rw [List.getElem?_take_of_lt h]; exact hj⟩)
    exact absurd hy this

omit [SemC] in
theorem RC.lt (rc : RC T E ops nx0 sz H0 tm0 its) {i : Nat} {x : It} (hi : its[i]? = some x) : i < ops.size := by
  rw [← rc.len]; exact (List.getElem?_eq_some_iff.1 hi).1

omit [SemC] in
theorem RC.op (rc : RC T E ops nx0 sz H0 tm0 its) {i : Nat} {x : It} (hi : its[i]? = some x) : ops[i]? = some x.o := by
  have := (rc.inf i x hi).ho
  have hl : (its.take i).length = i := by
    have := (List.getElem?_eq_some_iff.1 hi).1
    simp; omega
  rwa [hl] at this

omit [SemC] in
theorem RC.alim (rc : RC T E ops nx0 sz H0 tm0 its) : ∀ x ∈ alls 0 its, nx0 + x.1 < Tr.lim := by
  rintro ⟨k, ao⟩ hx
  obtain ⟨j, it, h1, h2, h3⟩ := (alls_mem _ _ _ _).1 hx
  have := rc.lt h1
  have := rc.lim
  simp only; omega

/-- What an item waits for is done when it is ready. -/
theorem DI.before (rc : RC T E ops nx0 sz H0 tm0 its) {listed : Array Bool} {a : Act} {w : World} {θ : Th} {q : Nat} (di : DI ops nx0 H0 tm0 sz df its θ0 w0 listed a w θ q) {i : Nat} {it : It} (hi : its[i]? = some it)
    (hr : i ∈ Region.ready .any ops listed) : listed.getD i false = false ∧ ∀ k, it.bef.testBit k = true → listed.getD k false = true := by
  obtain ⟨h1, o, ho, h2⟩ := mem_ready.1 hr
  rw [rc.op hi] at ho; cases ho
  refine ⟨?_, fun k hk => ?_⟩
  · have : i < listed.size := by rw [di.lsz]; exact rc.lt hi
    simp [Array.getD, this] at h1 ⊢
    exact h1
  · obtain ⟨e, he, hb, hor⟩ := (rc.inf i it hi).befs k hk
    have hon := h2 e he hb
    rcases hor with rfl | ⟨it', h3, h4⟩
    · exact hon
    · have hlt : e.on < i := by
        have := (List.getElem?_eq_some_iff.1 h3).1
        simp at this; omega
      rw [List.getElem?_take_of_lt hlt] at h3
      exact di.closed e.on it' h3 hon k h4

/-- The temporaries that an item reads stand in the frame as the text's order has them. -/
theorem DI.temps (rc : RC T E ops nx0 sz H0 tm0 its) {listed : Array Bool} {a : Act} {w : World} {θ : Th} {q : Nat} (di : DI ops nx0 H0 tm0 sz df its θ0 w0 listed a w θ q) {i : Nat} {it : It} (hi : its[i]? = some it)
    (hr : i ∈ Region.ready .any ops listed) (t : Nat) (hk : ∀ (k : Nat) (itk : It), its[k]? = some itk → itk.o.dst = some t → k = i ∨ it.bef.testBit k = true ∨ itk.bef.testBit i = true) (v : Value) (hv : it.tm.get t = some v) :
    VR θ v (a.tmps.getD t undef) := by
  obtain ⟨hni, hbe⟩ := di.before rc hi hr
  rcases (rc.inf i it hi).tmv t v hv with ⟨k, it', h1, h2, rfl⟩ | ⟨h1, h2⟩
  · have hlt : k < i := by
      have := (List.getElem?_eq_some_iff.1 h1).1
      simp at this; omega
    rw [List.getElem?_take_of_lt hlt] at h1
    refine di.put k it' t h1 ?_ h2
    rcases hk k it' h1 h2 with rfl | h3 | h3
    · omega
    · exact hbe k h3
    · have := (rc.inf k it' h1).beflt i h3
      simp at this; omega
  · refine di.old t v ?_ h2
    intro k itk hk' htk hd
    have hne : k ≠ i := by rintro rfl; rw [hni] at htk; cases htk
    rcases Nat.lt_or_ge k i with hlt | hge
    · exact h1 itk (List.mem_iff_getElem?.2 ⟨k, by rw [List.getElem?_take_of_lt hlt]; exact hk'⟩) hd
    · rcases hk k itk hk' hd with h3 | h3 | h3
      · exact hne h3
      · have := (rc.inf i it hi).beflt k h3
        simp at this; omega
      · have := di.closed k itk hk' htk i h3
        rw [hni] at this; cases this

theorem DI.guardT (rc : RC T E ops nx0 sz H0 tm0 its) {listed : Array Bool} {a : Act} {w : World} {θ : Th} {q : Nat} (di : DI ops nx0 H0 tm0 sz df its θ0 w0 listed a w θ q) {i : Nat} {it : It} (hi : its[i]? = some it)
    (hr : i ∈ Region.ready .any ops listed) (t : Nat) (v : Value) (hg : guardT ops it.o = some t) (hv : it.tm.get t = some v) : VR θ v (a.tmps.getD t undef) := by
  refine di.temps rc hi hr t ?_ v hv
  intro k itk hk hd
  unfold Am.guardT at hg
  split at hg
  · cases hg
  · rename_i j want hgd
    split at hg
    · rename_i oj hj
      have hb := (rc.inf i it hi).guard j want hgd
      obtain ⟨itj, hitj⟩ : ∃ x, its[j]? = some x := by
        have hlt : j < its.length := by
          have := (Array.getElem?_eq_some_iff.1 hj).1
          rw [rc.len]; exact this
        exact ⟨its[j], List.getElem?_eq_getElem hlt⟩
      have := rc.op hitj
      rw [hj] at this; cases this
      have e := rc.uniq hk hitj hd hg
      subst e
      exact .inr (.inl hb)
    · cases hg

omit [SemC] in
theorem getD_set_same {listed : Array Bool} {i : Nat} (h : i < listed.size) (d : Bool) : (listed.setIfInBounds i true).getD i d = true := by
  simp [Array.getD, h]

omit [SemC] in
theorem listed_set {listed : Array Bool} {i k : Nat} (h : i < listed.size) : (listed.setIfInBounds i true).getD k false = true ↔ k = i ∨ listed.getD k false = true := by
  by_cases e : k = i
  · subst e; simp [getD_set_same h]
  · rw [getD_set_ne false (Ne.symm e)]; simp [e]

theorem DI.step (rc : RC T E ops nx0 sz H0 tm0 its) {listed : Array Bool} {a : Act} {w w' : World} {θ θ' : Th} {q q' : Nat} (di : DI ops nx0 H0 tm0 sz df its θ0 w0 listed a w θ q) {i : Nat} {it : It} (hi : its[i]? = some it)
    (hr : i ∈ Region.ready .any ops listed) (hE : Ext θ θ') {v' : Value} (hv : VR θ' it.val v') (hst : isStage its q')
    (hord : ∀ (k : Nat) (itk : It), its[k]? = some itk → itk.rk.isEf = true → ((listed.setIfInBounds i true).getD k false = true ↔ k < q'))
    (hro : RO θ' (cur nx0 H0 its (listed.setIfInBounds i true) q') w'.heap) (hfresh : ∀ b, (stH H0 (its.take q')).nx ≤ b → θ' b = none)
    (hnone : ∀ k, k < ops.size → k ≠ i → listed.getD k false = false → θ' (nx0 + k) = none)
    (hge : nx0 + ops.size ≤ (stH H0 (its.take q')).nx) (hfr : Fr θ0 ⟨H0.hp, nx0⟩ w0 θ' ⟨cur nx0 H0 its (listed.setIfInBounds i true) q', (stH H0 (its.take q')).nx⟩ w') :
    DI ops nx0 H0 tm0 sz df its θ0 w0 (listed.setIfInBounds i true) (a.put it.o.dst v') w' θ' q' := by
  obtain ⟨hni, hbe⟩ := di.before rc hi hr
  have hil : i < listed.size := by rw [di.lsz]; exact rc.lt hi
  have hdf : (a.put it.o.dst v').defers = a.defers := by cases it.o.dst <;> rfl
  have hsz : (a.put it.o.dst v').tmps.size = a.tmps.size := by cases it.o.dst <;> simp [Act.put]
  have hne : ∀ t, it.o.dst ≠ some t → (a.put it.o.dst v').tmps.getD t undef = a.tmps.getD t undef := by
    intro t ht
    cases hd : it.o.dst with
    | none => rfl
    | some d =>
      have : t ≠ d := fun e => ht (by rw [hd, e])
      simp only [Act.put, Array.getD_eq_getD_getElem?]
      rw [Array.getElem?_setIfInBounds_ne (Ne.symm this)]
  have heq : ∀ d, it.o.dst = some d → (a.put it.o.dst v').tmps.getD d undef = v' := by
    intro d hd
    have := ((rc.inf i it hi).dst d hd).1
    have hlt : d < a.tmps.size := by rw [di.sz]; exact this
    rw [hd]
    simp [Act.put, Array.getD, hlt]
  refine ⟨by simp [di.lsz], hst, hord, ?_, by rw [hsz, di.sz], by rw [hdf]; exact di.df.mono hE, ?_, ?_, hro, hfresh, ?_, hge, hfr⟩
  · intro k itk hk htk m hm
    rw [listed_set hil] at htk ⊢
    right
    rcases htk with rfl | htk
    · rw [hi] at hk; cases hk; exact hbe m hm
    · exact di.closed k itk hk htk m hm
  · intro k itk d hk htk hd
    rw [listed_set hil] at htk
    by_cases e : k = i
    · subst e; rw [hi] at hk; cases hk
      rw [heq d hd]; exact hv
    · rw [hne d (fun h => e (rc.uniq hk hi hd h))]
      exact (di.put k itk d hk (htk.resolve_left e) hd).mono hE
  · intro t v hno ht
    rw [hne t (hno i it hi ((listed_set hil).2 (.inl rfl)))]
    exact (di.old t v (fun k itk hk htk => hno k itk hk ((listed_set hil).2 (.inr htk))) ht).mono hE
  · intro k hk hnk
    have h1 : k ≠ i := by rintro rfl; rw [getD_set_same hil] at hnk; cases hnk
    rw [getD_set_ne false (Ne.symm h1)] at hnk
    exact hnone k hk h1 hnk

/-- A step inside a part of the heap, seen in the whole. -/
theorem join {θ θ' : Th} {hp hpV hp2 : Tr AO} {H' : AH} {nx : Nat} {w w' : World} (hR : RO θ hp w.heap) (hsub : ∀ b o, hpV.get b = some o → hp.get b = some o) (hF : Fr θ ⟨hpV, nx⟩ w θ' H' w') (hR' : RO θ' H'.hp w'.heap) (hE : Ext θ θ')
    (h2 : ∀ b o, hp2.get b = some o → H'.hp.get b = some o ∨ (hp.get b = some o ∧ hpV.get b = none ∧ b < nx)) : RO θ' hp2 w'.heap ∧ Fr θ ⟨hp, nx⟩ w θ' ⟨hp2, H'.nx⟩ w' := by
  -- an object of the rest
  have rest : ∀ b o, hp.get b = some o → hpV.get b = none → b < nx → ∃ p, θ b = some p ∧ θ' b = some p ∧ ORel θ w.heap p o ∧ (o.wr = true → ¬ own θ hpV p.cb) := by
    intro b o h1 h3 h4
    obtain ⟨p, hp1, hp2'⟩ := hR.obj b o h1
    refine ⟨p, hp1, by rw [hF.old b h4]; exact hp1, hp2', ?_⟩
    rintro hwo ⟨b', o', p', g1, g0, g2, g3⟩
    have := hR.inj b' b o' o p' p (hsub _ _ g1) h1 g0 hwo g2 hp1 g3
    subst this
    rw [h3] at g1; cases g1
  refine ⟨⟨?_, ?_⟩, ?_⟩
  · intro b o hb
    rcases h2 b o hb with h | ⟨h, h3, h4⟩
    · exact hR'.obj b o h
    · obtain ⟨p, hp1, hp2', hor, hno⟩ := rest b o h h3 h4
      refine ⟨p, hp2', ?_⟩
      cases hwo : o.wr with
      | false => exact hor.monoS hE hwo
      | true => exact hor.mono hE (hF.keep _ (hor.lt hwo) (hno hwo))
  · intro b b' o o' p p' hb hb' hwo hwo' hp1 hp2' hc
    have mixed : ∀ {b b' : Nat} {o o' : AO} {p p' : Pl}, H'.hp.get b = some o → hp.get b' = some o' → hpV.get b' = none → b' < nx → o.wr = true → o'.wr = true → θ' b = some p → θ' b' = some p' → p.cb = p'.cb → False := by
      intro b b' o o' p p' g1 g2 g3 g4 w1 w2 g5 g6 g7
      obtain ⟨r, r1, r2, r3, r4⟩ := rest b' o' g2 g3 g4
      rw [r2] at g6; cases g6
      exact r4 w2 (hF.sub _ (r3.lt w2) ⟨b, o, p, g1, w1, g5, g7⟩)
    rcases h2 b o hb with h | ⟨h, h3, h4⟩
    · rcases h2 b' o' hb' with k | ⟨k, k3, k4⟩
      · exact hR'.inj b b' o o' p p' h k hwo hwo' hp1 hp2' hc
      · exact (mixed h k k3 k4 hwo hwo' hp1 hp2' hc).elim
    · rcases h2 b' o' hb' with k | ⟨k, k3, k4⟩
      · exact (mixed k h h3 h4 hwo' hwo hp2' hp1 hc.symm).elim
      · rw [hF.old b h4] at hp1
        rw [hF.old b' k4] at hp2'
        exact hR.inj b b' o o' p p' h k hwo hwo' hp1 hp2' hc
  · refine ⟨hF.size, hF.os, hF.tape, hF.output, ?_, ?_, hF.old, hF.nx⟩
    · intro k hk hno
      refine hF.keep k hk fun ho => hno ?_
      obtain ⟨b, o, p, g1, g0, g2, g3⟩ := ho
      exact ⟨b, o, p, hsub _ _ g1, g0, g2, g3⟩
    · rintro k hk ⟨b, o, p, g1, g0, g2, g3⟩
      rcases h2 b o g1 with h | ⟨h, h3, h4⟩
      · obtain ⟨b', o', p', r1, r2, r3⟩ := hF.sub k hk ⟨b, o, p, h, g0, g2, g3⟩
        exact ⟨b', o', p', hsub _ _ r1, r2, r3⟩
      · exact ⟨b, o, p, h, g0, by rw [← hF.old b h4]; exact g2, g3⟩
end
end
end Go.Am
