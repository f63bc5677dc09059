/- What a run of a region in the text's order tells of each operation. -/
import Derived.Test.YtckboonjjlpogaaGreatAmDraw
set_option linter.unusedVariables false
set_option linter.unusedSimpArgs false
namespace Go.Am
noncomputable section
variable [SemC]

structure IF (T : Tbl) (E : Ev) (ops : Array Oper) (nx0 sz : Nat) (H0 : AH) (tm0 : Tr Value) (done : List It) (it : It) : Prop where
  ho : ops[done.length]? = some it.o
  befs : ∀ k, it.bef.testBit k = true → ∃ e ∈ it.o.after, Region.binds .any e = true ∧ (k = e.on ∨ ∃ it' : It, done[e.on]? = some it' ∧ it'.bef.testBit k = true)
  elt : ∀ e ∈ it.o.after, Region.binds .any e = true → e.on < done.length
  beflt : ∀ k, it.bef.testBit k = true → k < done.length
  guard : ∀ j want, it.o.guard = some (j, want) → it.bef.testBit j = true
  tmv : ∀ t v, it.tm.get t = some v → (∃ (k : Nat) (it' : It), done[k]? = some it' ∧ it'.o.dst = some t ∧ v = it'.val) ∨ ((∀ it' ∈ done, it'.o.dst ≠ some t) ∧ tm0.get t = some v)
  dst : ∀ d, it.o.dst = some d → d < sz ∧ d < Tr.lim ∧ ∀ it' ∈ done, it'.o.dst ≠ some d
  kind : match it.rk with
    | .skip => wantA ops it.tm it.o = some false ∧ it.val = undef
    | .p0 => wantA ops it.tm it.o = some true ∧ pev T (oev it.tm) .lf it.o.op = some (.v it.val)
    | .pr => wantA ops it.tm it.o = some true ∧ pev T (oev it.tm) (addA nx0 (fun k => it.bef.testBit k && !(needM done).testBit k) (alls 0 done) (stH H0 done).hp) it.o.op = some (.v it.val)
    | .pn ao => wantA ops it.tm it.o = some true ∧ ∃ mk, pev T (oev it.tm) .lf it.o.op = some (.new ao mk) ∧ it.val = mk (nx0 + done.length)
    | .ef _ => wantA ops it.tm it.o = some true ∧ (∀ (j : Nat) (it' : It), done[j]? = some it' → it'.rk.isEf = true → it.bef.testBit j = true)

/-- What an operation of more than one way asks for: for each way, a run that takes it. -/
def AG (i j : Nat) (it : It) (b b' : List It) (r : Value × AH) : Prop :=
  b'.take j = b.take j ∧ (∃ it' : It, b'[j]? = some it' ∧ it'.o = it.o ∧ it'.bef = it.bef ∧ it'.tm = it.tm ∧ it'.val = r.1 ∧ it'.rk = .ef r.2) ∧ b'.length = b.length ∧
    ∀ (k : Nat) (x y : It), j < k → b[k]? = some x → b'[k]? = some y → x.bef = y.bef ∧ (x.bef.testBit i = false → x.val = y.val ∧ x.rk = y.rk)
def CL (T : Tbl) (E : Ev) (nx0 : Nat) (H0 : AH) (done : List It) (brs : List (List It × DS)) (b : List It) : Prop :=
  ∀ (j : Nat) (it : It), b[j]? = some it → it.rk.isEf = true → ∃ outs, opE T E (oev it.tm) ⟨addA nx0 (fun k => it.bef.testBit k && !(needM (done ++ b.take j)).testBit k) (alls 0 (done ++ b.take j)) (stH H0 (done ++ b.take j)).hp, (stH H0 (done ++ b.take j)).nx⟩ it.o.op = some outs ∧
    ∀ r ∈ outs, ∃ b' ∈ brs, AG (done.length + j) j it b b'.1 r

structure CS (H0 : AH) (tm0 : Tr Value) (done : List It) (s : DS) : Prop where
  H : s.H = stH H0 done
  al : s.al = alls 0 done
  need : s.need = needM done
  efm : ∀ j, s.efm.testBit j = true → ∃ it : It, done[j]? = some it ∧ it.rk.isEf = true
  efm' : ∀ (j : Nat) (it : It), done[j]? = some it → it.rk.isEf = true → s.efm.testBit j = true
  wr : ∀ it ∈ done, ∀ d, it.o.dst = some d → s.wr.testBit d = true
  accs : ∀ k b, s.accs.get k = some b → ∃ it : It, done[k]? = some it ∧ it.bef = b
  beflt : ∀ (k : Nat) (it : It), done[k]? = some it → ∀ m, it.bef.testBit m = true → m < k
  tmv : ∀ t v, s.tm.get t = some v → (∃ (k : Nat) (it' : It), done[k]? = some it' ∧ it'.o.dst = some t ∧ v = it'.val) ∨ ((∀ it' ∈ done, it'.o.dst ≠ some t) ∧ tm0.get t = some v)

omit [SemC] in
theorem stH_append (H0 : AH) : ∀ (l : List It) (it : It), stH H0 (l ++ [it]) = match it.rk with | .ef H => H | _ => stH H0 l
  | [], it => rfl
  | x :: l, it => by simp only [List.cons_append, stH]; exact stH_append _ l it
omit [SemC] in
theorem needM_append : ∀ (l : List It) (it : It), needM (l ++ [it]) = match it.rk with | .ef _ => needM l ||| it.bef | _ => needM l
  | [], it => by cases h : it.rk <;> simp [needM, h]
  | x :: l, it => by
    simp only [List.cons_append, needM]
    rw [needM_append l it]
    cases it.rk <;> simp [Nat.or_assoc]
omit [SemC] in
theorem alls_append : ∀ (l : List It) (i : Nat) (it : It), alls i (l ++ [it]) = match it.rk with | .pn ao => alls i l ++ [(i + l.length, ao)] | _ => alls i l
  | [], i, it => by cases h : it.rk <;> simp [alls, h]
  | x :: l, i, it => by
    simp only [List.cons_append, alls]
    rw [alls_append l (i + 1) it]
    cases x.rk <;> cases it.rk <;> simp [Nat.add_comm, Nat.add_left_comm, Nat.add_assoc]

omit [SemC] in
theorem befOf_spec (i : Nat) (accs : Tr Nat) : ∀ (l : List Edge) (m : Nat), befOf i accs l = some m →
    (∀ k, m.testBit k = true → ∃ e ∈ l, Region.binds .any e = true ∧ (k = e.on ∨ ∃ b, accs.get e.on = some b ∧ b.testBit k = true)) ∧ (∀ e ∈ l, Region.binds .any e = true → e.on < i)
  | [], m, h => by
    simp only [befOf, Option.some.injEq] at h; subst h
    exact ⟨fun k hk => by simp at hk, fun e he => by simp at he⟩
  | e :: es, m, h => by
    simp only [befOf] at h
    split at h
    · cases h
    · rename_i m' hm
      obtain ⟨h1, h2⟩ := befOf_spec i accs es m' hm
      split at h
      · rename_i hb
        cases h
        refine ⟨fun k hk => ?_, fun e' he' hb' => ?_⟩
        · obtain ⟨e', a, b, c⟩ := h1 k hk
          exact ⟨e', List.mem_cons_of_mem _ a, b, c⟩
        · rcases List.mem_cons.1 he' with rfl | he'
          · rw [hb] at hb'; cases hb'
          · exact h2 e' he' hb'
      · rename_i hb
        split at h
        · rename_i b hlt hac
          have hlt' := blt_spec hlt
          cases h
          refine ⟨fun k hk => ?_, fun e' he' hb' => ?_⟩
          · simp only [Nat.testBit_or, Nat.testBit_two_pow, Bool.or_eq_true, decide_eq_true_eq] at hk
            rcases hk with (hk | hk) | hk
            · obtain ⟨e', a, b, c⟩ := h1 k hk
              exact ⟨e', List.mem_cons_of_mem _ a, b, c⟩
            · exact ⟨e, by simp, hb, .inl hk.symm⟩
            · exact ⟨e, by simp, hb, .inr ⟨b, hac, hk⟩⟩
          · rcases List.mem_cons.1 he' with rfl | he'
            · exact hlt'
            · exact h2 e' he' hb'
        · cases h

omit [SemC] in
theorem and_sub {a b : Nat} (h : Nat.beq (a &&& b) b = true) (j : Nat) (hj : b.testBit j = true) : a.testBit j = true := by
  have h' := Nat.eq_of_beq_eq_true h
  have : (a &&& b).testBit j = true := by rw [h']; exact hj
  rw [Nat.testBit_and, Bool.and_eq_true] at this
  exact this.1

omit [SemC] in
theorem get_snoc {α : Type} {l : List α} {x : α} {k : Nat} {y : α} (h : (l ++ [x])[k]? = some y) : l[k]? = some y ∨ (k = l.length ∧ x = y) := by
  by_cases hk : k < l.length
  · rw [List.getElem?_append_left hk] at h; exact .inl h
  · rw [List.getElem?_append_right (by omega)] at h
    have : k - l.length = 0 := by
      have := (List.getElem?_eq_some_iff.1 h).1
      simp at this; omega
    rw [this] at h
    simp at h
    exact .inr ⟨by omega, h⟩

omit [SemC] in
theorem evItem_kind {T : Tbl} {E : Ev} {ops : Array Oper} {nx0 : Nat} {H0 : AH} {tm0 : Tr Value} {done : List It} {s : DS} (hc : CS H0 tm0 done s) {o : Oper} {bef : Nat} {outs : List (Value × Rk)}
    (h : evItem T E ops nx0 done.length o bef s = some outs) :
    (∃ v rk, outs = [(v, rk)] ∧ rk.isEf = false ∧ match rk with
      | .skip => wantA ops s.tm o = some false ∧ v = undef
      | .p0 => wantA ops s.tm o = some true ∧ pev T (oev s.tm) .lf o.op = some (.v v)
      | .pr => wantA ops s.tm o = some true ∧ pev T (oev s.tm) (addA nx0 (fun k => bef.testBit k && !(needM done).testBit k) (alls 0 done) (stH H0 done).hp) o.op = some (.v v)
      | .pn ao => wantA ops s.tm o = some true ∧ ∃ mk, pev T (oev s.tm) .lf o.op = some (.new ao mk) ∧ v = mk (nx0 + done.length)
      | .ef _ => False) ∨
    (wantA ops s.tm o = some true ∧ (∀ (j : Nat) (it' : It), done[j]? = some it' → it'.rk.isEf = true → bef.testBit j = true) ∧
      ∃ oo, opE T E (oev s.tm) ⟨addA nx0 (fun k => bef.testBit k && !(needM done).testBit k) (alls 0 done) (stH H0 done).hp, (stH H0 done).nx⟩ o.op = some oo ∧ outs = oo.map fun r => (r.1, .ef r.2)) := by
  unfold evItem at h
  split at h
  · cases h
  · rename_i hw; cases h; exact .inl ⟨_, _, rfl, rfl, hw, rfl⟩
  · rename_i hw
    split at h
    · split at h
      · cases h
      · rename_i hb
        split at h
        · rename_i oo ho
          cases h
          rw [hc.al, hc.need, hc.H] at ho
          exact .inr ⟨hw, fun j it' hj he => and_sub hb j (hc.efm' j it' hj he), oo, ho, rfl⟩
        · cases h
    · split at h
      · rename_i u hp; cases h; exact .inl ⟨_, _, rfl, rfl, hw, hp⟩
      · rename_i ao mk hp; cases h; exact .inl ⟨_, _, rfl, rfl, hw, mk, hp, rfl⟩
      · split at h
        · rename_i u hp
          cases h
          rw [hc.al, hc.need, hc.H] at hp
          exact .inl ⟨_, _, rfl, rfl, hw, hp⟩
        · cases h

omit [SemC] in
theorem runD_facts {T : Tbl} {E : Ev} {ops : Array Oper} {nx0 sz : Nat} {H0 : AH} {tm0 : Tr Value} (hlim : nx0 + ops.size < Tr.lim) : ∀ (rest : List Oper) (done : List It) (s : DS) (brs : List (List It × DS)),
    (∀ j, rest[j]? = ops[done.length + j]?) → CS H0 tm0 done s → runD T E ops nx0 sz done.length rest s = some brs →
    (∃ b, b ∈ brs) ∧ ∀ b ∈ brs, (∀ (j : Nat) (it : It), b.1[j]? = some it → IF T E ops nx0 sz H0 tm0 (done ++ b.1.take j) it) ∧ CS H0 tm0 (done ++ b.1) b.2 ∧ b.1.length = rest.length ∧ CL T E nx0 H0 done brs b.1
  | [], done, s, brs, _, hc, h => by
    simp only [runD, Option.some.injEq] at h
    subst h
    refine ⟨⟨_, List.mem_singleton.2 rfl⟩, fun b hb => ?_⟩
    rw [List.mem_singleton.1 hb]
    exact ⟨fun j it hj => by simp at hj, by simpa using hc, rfl, fun j it hj => by simp at hj⟩
  | o :: rest, done, s, brs, hl, hc, h => by
    simp only [runD] at h
    split at h
    · cases h
    · rename_i bef hbef
      obtain ⟨hb1, hb2⟩ := befOf_spec _ _ _ _ hbef
      split at h
      · rename_i outs hg hf hev
        split at h
        · rename_i B hways
          split at h
          · rename_i hagr
            cases h
            obtain ⟨hw1, hw2⟩ := ways_mem hways
            have ho : ops[done.length]? = some o := by have := hl 0; simpa using this.symm
            have hdl : done.length < ops.size := (Array.getElem?_eq_some_iff.1 ho).1
            have hbl : ∀ k, bef.testBit k = true → k < done.length := by
              intro k hk
              obtain ⟨e, he, hbi, hor⟩ := hb1 k hk
              rcases hor with rfl | ⟨b, hb, hk2⟩
              · exact hb2 e he hbi
              · obtain ⟨it', h1, h2⟩ := hc.accs _ _ hb
                have := hc.beflt _ _ h1 k (by rw [h2]; exact hk2)
                have := hb2 e he hbi
                omega
            have hkind0 := evItem_kind hc hev
            -- each way of the first operation
            have one : ∀ r ∈ outs, ∀ l, (match putT s.tm sz o.dst r.1 with
                | some tm' => runD T E ops nx0 sz (done.length + 1) rest (nextDS done.length bef o tm' r.2 s)
                | none => none) = some l →
                IF T E ops nx0 sz H0 tm0 done ⟨o, bef, s.tm, r.1, r.2⟩ ∧ (∃ b, b ∈ l) ∧ ∀ b ∈ l, (∀ (j : Nat) (it : It), b.1[j]? = some it → IF T E ops nx0 sz H0 tm0 (done ++ [⟨o, bef, s.tm, r.1, r.2⟩] ++ b.1.take j) it) ∧
                  CS H0 tm0 (done ++ [⟨o, bef, s.tm, r.1, r.2⟩] ++ b.1) b.2 ∧ b.1.length = rest.length ∧ CL T E nx0 H0 (done ++ [⟨o, bef, s.tm, r.1, r.2⟩]) l b.1 := by
              rintro ⟨v, rk⟩ hr l hlr
              simp only at hlr ⊢
              split at hlr
              · rename_i tm' hput
                have hdst : ∀ d, o.dst = some d → d < sz ∧ d < Tr.lim ∧ ∀ it' ∈ done, it'.o.dst ≠ some d := by
                  intro d hd
                  rw [hd] at hput hf
                  rw [putT_def] at hput
                  simp only at hput
                  split at hput
                  · rename_i q1 q2
                    refine ⟨blt_spec q1, blt_spec q2, fun it' hi e => ?_⟩
                    have := hc.wr it' hi d e
                    simp [freshT, this] at hf
                  · cases hput
                have hkind : match rk with
                    | .skip => wantA ops s.tm o = some false ∧ v = undef
                    | .p0 => wantA ops s.tm o = some true ∧ pev T (oev s.tm) .lf o.op = some (.v v)
                    | .pr => wantA ops s.tm o = some true ∧ pev T (oev s.tm) (addA nx0 (fun k => bef.testBit k && !(needM done).testBit k) (alls 0 done) (stH H0 done).hp) o.op = some (.v v)
                    | .pn ao => wantA ops s.tm o = some true ∧ ∃ mk, pev T (oev s.tm) .lf o.op = some (.new ao mk) ∧ v = mk (nx0 + done.length)
                    | .ef _ => wantA ops s.tm o = some true ∧ (∀ (j : Nat) (it' : It), done[j]? = some it' → it'.rk.isEf = true → bef.testBit j = true) := by
                  rcases hkind0 with ⟨v0, rk0, he, hne, hk⟩ | ⟨k1, k2, oo, k3, k4⟩
                  · rw [he, List.mem_singleton] at hr
                    cases hr
                    cases rk <;> first | exact hk | exact hk.elim
                  · rw [k4, List.mem_map] at hr
                    obtain ⟨q, _, hq⟩ := hr
                    cases hq
                    exact ⟨k1, k2⟩
                have hIF : IF T E ops nx0 sz H0 tm0 done ⟨o, bef, s.tm, v, rk⟩ := by
                  refine ⟨ho, ?_, fun e he hb => hb2 e (by simpa using he) hb, hbl, ?_, hc.tmv, hdst, ?_⟩
                  · intro k hk
                    obtain ⟨e, he, hbi, hor⟩ := hb1 k hk
                    refine ⟨e, by simpa using he, hbi, ?_⟩
                    rcases hor with h1 | ⟨b, hb, hk2⟩
                    · exact .inl h1
                    · obtain ⟨it', h1, h2⟩ := hc.accs _ _ hb
                      exact .inr ⟨it', h1, by rw [h2]; exact hk2⟩
                  · intro j want hgd
                    simp only at hgd
                    simpa [guardOK, hgd] using hg
                  · cases rk <;> exact hkind
                -- the state behind it
                have hCS : CS H0 tm0 (done ++ [⟨o, bef, s.tm, v, rk⟩]) (nextDS done.length bef o tm' rk s) := by
                  refine ⟨?_, ?_, ?_, ?_, ?_, ?_, ?_, ?_, ?_⟩
                  · rw [stH_append]; cases rk <;> simp [nextDS, hc.H]
                  · rw [alls_append]; cases rk <;> simp [nextDS, hc.al]
                  · rw [needM_append]; cases rk <;> simp [nextDS, hc.need]
                  · intro j hj
                    have old : s.efm.testBit j = true → ∃ it : It, (done ++ [(⟨o, bef, s.tm, v, rk⟩ : It)])[j]? = some it ∧ it.rk.isEf = true := fun h => by
                      obtain ⟨it, h1, h2⟩ := hc.efm j h
                      exact ⟨it, by rw [List.getElem?_append_left (List.getElem?_eq_some_iff.1 h1).1]; exact h1, h2⟩
                    cases rk with
                    | ef H' =>
                      simp only [nextDS, Nat.testBit_or, Nat.testBit_two_pow, Bool.or_eq_true, decide_eq_true_eq] at hj
                      rcases hj with hj | rfl
                      · exact old hj
                      · exact ⟨⟨o, bef, s.tm, v, .ef H'⟩, by simp, rfl⟩
                    | skip => exact old hj
                    | p0 => exact old hj
                    | pr => exact old hj
                    | pn => exact old hj
                  · intro j it hj he
                    rcases get_snoc hj with h1 | ⟨rfl, rfl⟩
                    · have := hc.efm' j it h1 he
                      cases rk <;> simp [nextDS, this]
                    · cases rk <;> simp [Rk.isEf] at he
                      simp [nextDS, Nat.testBit_or, Nat.testBit_two_pow]
                  · intro it hi d hd
                    rcases List.mem_append.1 hi with hi | hi
                    · have := hc.wr it hi d hd
                      cases hod : o.dst <;> simp [nextDS, wrOf, hod, this, Nat.testBit_or]
                    · simp only [List.mem_singleton] at hi; subst hi
                      simp only at hd
                      simp [nextDS, wrOf, hd, Nat.testBit_or, Nat.testBit_two_pow]
                  · intro k b hb
                    simp only [nextDS] at hb
                    rw [Tr.get_set _ _ _ _ (by omega)] at hb
                    split at hb
                    · rename_i e; subst e; cases hb; exact ⟨⟨o, bef, s.tm, v, rk⟩, by simp, rfl⟩
                    · obtain ⟨it, h1, h2⟩ := hc.accs k b hb
                      exact ⟨it, by rw [List.getElem?_append_left (List.getElem?_eq_some_iff.1 h1).1]; exact h1, h2⟩
                  · intro k it hk m hm
                    rcases get_snoc hk with h1 | ⟨rfl, rfl⟩
                    · exact hc.beflt k it h1 m hm
                    · exact hbl m hm
                  · intro t u hu
                    simp only [nextDS] at hu
                    have old : s.tm.get t = some u → o.dst ≠ some t → (∃ (k : Nat) (it' : It), (done ++ [(⟨o, bef, s.tm, v, rk⟩ : It)])[k]? = some it' ∧ it'.o.dst = some t ∧ u = it'.val) ∨
                        ((∀ it' ∈ done ++ [(⟨o, bef, s.tm, v, rk⟩ : It)], it'.o.dst ≠ some t) ∧ tm0.get t = some u) := fun h hne => by
                      rcases hc.tmv t u h with ⟨k, it', h1, h2, h3⟩ | ⟨h1, h2⟩
                      · exact .inl ⟨k, it', by rw [List.getElem?_append_left (List.getElem?_eq_some_iff.1 h1).1]; exact h1, h2, h3⟩
                      · refine .inr ⟨fun it' hi => ?_, h2⟩
                        rcases List.mem_append.1 hi with hi | hi
                        · exact h1 it' hi
                        · simp only [List.mem_singleton] at hi; subst hi; exact hne
                    rw [putT_def] at hput
                    split at hput
                    · rename_i hd
                      cases hput
                      exact old hu (by rw [hd]; simp)
                    · rename_i d hd
                      split at hput
                      · rename_i q1 q2
                        cases hput
                        rw [Tr.get_set _ _ _ _ (blt_spec q2)] at hu
                        split at hu
                        · rename_i e; subst e; cases hu
                          exact .inl ⟨done.length, ⟨o, bef, s.tm, v, rk⟩, by simp, hd, rfl⟩
                        · rename_i e
                          exact old hu (by rw [hd]; simp; exact fun x => e x.symm)
                      · cases hput
                have hlen : (done ++ [(⟨o, bef, s.tm, v, rk⟩ : It)]).length = done.length + 1 := by simp
                rw [← hlen] at hlr
                obtain ⟨r1, r2⟩ := runD_facts hlim rest (done ++ [⟨o, bef, s.tm, v, rk⟩]) _ _ (fun j => by
                  have := hl (j + 1)
                  rw [hlen, show done.length + 1 + j = done.length + (j + 1) by omega]
                  simpa using this) hCS hlr
                exact ⟨hIF, r1, r2⟩
              · cases hlr
            -- any two ways agree
            have hagree : ∀ (r1 r2 : Value × Rk), r1 ∈ outs → r2 ∈ outs → (∃ r, outs = [r]) ∨ ∀ b ∈ brs, ∀ b' ∈ brs, b.1.tail.length = b'.1.tail.length ∧
                ∀ (k : Nat) (x y : It), b.1.tail[k]? = some x → b'.1.tail[k]? = some y → x.bef = y.bef ∧ (x.bef.testBit done.length = false → x.val = y.val ∧ x.rk = y.rk) := by
              intro _ _ _ _
              unfold agreed at hagr
              split at hagr
              · exact .inl ⟨_, rfl⟩
              · cases brs with
                | nil => cases hagr
                | cons b0 bs =>
                  right
                  intro b hb b' hb'
                  obtain ⟨g1, g2⟩ := agree_spec _ _ _ (agreeAll_spec _ _ _ hagr b hb)
                  obtain ⟨g3, g4⟩ := agree_spec _ _ _ (agreeAll_spec _ _ _ hagr b' hb')
                  refine ⟨g1.symm.trans g3, fun k x y hx hy => ?_⟩
                  have hlt : k < b0.1.tail.length := by rw [g1]; exact (List.getElem?_eq_some_iff.1 hx).1
                  have hz : b0.1.tail[k]? = some b0.1.tail[k] := List.getElem?_eq_getElem hlt
                  obtain ⟨p1, p2⟩ := g2 k _ _ hz hx
                  obtain ⟨q1, q2⟩ := g4 k _ _ hz hy
                  refine ⟨p1.symm.trans q1, fun hbit => ?_⟩
                  rw [← p1] at hbit
                  exact ⟨(p2 hbit).1.symm.trans (q2 hbit).1, (p2 hbit).2.symm.trans (q2 hbit).2⟩
            have hne : ∃ r, r ∈ outs := by
              rcases hkind0 with ⟨v0, rk0, he, _⟩ | _
              · exact ⟨(v0, rk0), by rw [he]; simp⟩
              · unfold agreed at hagr
                split at hagr
                · exact ⟨_, List.mem_singleton.2 rfl⟩
                · cases brs with
                  | nil => cases hagr
                  | cons b0 bs =>
                    obtain ⟨r, hr, _⟩ := hw2 _ (List.mem_cons_self ..)
                    exact ⟨r, hr⟩
            refine ⟨?_, ?_⟩
            · obtain ⟨r, hr⟩ := hne
              obtain ⟨l, e1, e2⟩ := hw1 r hr
              obtain ⟨_, ⟨b, hb⟩, _⟩ := one r hr l e1
              exact ⟨_, e2 b hb⟩
            · intro b hb
              obtain ⟨r, hr, l, e1, x, hx, rfl⟩ := hw2 b hb
              obtain ⟨hIF, _, hall⟩ := one r hr l e1
              obtain ⟨t1, t2, t3, t4⟩ := hall x hx
              refine ⟨?_, by simpa using t2, by simp [t3], ?_⟩
              · intro j it hj
                cases j with
                | zero =>
                  simp only [List.getElem?_cons_zero, Option.some.injEq] at hj
                  subst hj
                  simpa using hIF
                | succ j =>
                  have := t1 j it (by simpa using hj)
                  simpa using this
              · intro j it hj he
                cases j with
                | zero =>
                  simp only [List.getElem?_cons_zero, Option.some.injEq] at hj
                  subst hj
                  rcases hkind0 with ⟨v0, rk0, he0, hne0, _⟩ | ⟨k1, k2, oo, k3, k4⟩
                  · rw [he0, List.mem_singleton] at hr
                    subst hr
                    rw [hne0] at he; cases he
                  · refine ⟨oo, by simpa using k3, ?_⟩
                    intro q hq
                    have hq' : ((q.1, Rk.ef q.2) : Value × Rk) ∈ outs := by rw [k4]; exact List.mem_map.2 ⟨q, hq, rfl⟩
                    obtain ⟨l', f1, f2⟩ := hw1 _ hq'
                    rcases hagree r _ hr hq' with ⟨r0, hr0⟩ | hag
                    · rw [hr0, List.mem_singleton] at hr hq'
                      subst hr
                      refine ⟨_, hb, rfl, ⟨_, rfl, rfl, rfl, rfl, ?_, ?_⟩, rfl, ?_⟩
                      · rw [← hq']
                      · rw [← hq']
                      · intro k x' y' _ h1 h2
                        rw [h1] at h2; cases h2
                        exact ⟨rfl, fun _ => ⟨rfl, rfl⟩⟩
                    · obtain ⟨_, ⟨y, hy⟩, _⟩ := one _ hq' l' f1
                      obtain ⟨g1, g2⟩ := hag _ hb _ (f2 y hy)
                      refine ⟨_, f2 y hy, rfl, ⟨_, rfl, rfl, rfl, rfl, rfl, rfl⟩, by simpa using g1.symm, ?_⟩
                      intro k x' y' hk h1 h2
                      obtain ⟨k, rfl⟩ : ∃ m, k = m + 1 := ⟨k - 1, by omega⟩
                      exact g2 k x' y' (by simpa using h1) (by simpa using h2)
                | succ j =>
                  obtain ⟨oo, f1, f2⟩ := t4 j it (by simpa using hj) he
                  refine ⟨oo, by simpa using f1, ?_⟩
                  intro q hq
                  obtain ⟨b', hb', a1, a2, a3, a4⟩ := f2 q hq
                  obtain ⟨l', g1, g2⟩ := hw1 r hr
                  rw [e1] at g1; cases g1
                  refine ⟨_, g2 b' hb', by simp [a1], ?_, by simp [a3], ?_⟩
                  · obtain ⟨it', z⟩ := a2
                    exact ⟨it', by simpa using z⟩
                  · intro k x' y' hk h1 h2
                    obtain ⟨k, rfl⟩ : ∃ m, k = m + 1 := ⟨k - 1, by omega⟩
                    have := a4 k x' y' (by omega) (by simpa using h1) (by simpa using h2)
                    simp only [List.length_append, List.length_cons, List.length_nil] at this
                    rwa [show done.length + (0 + 1) + j = done.length + (j + 1) by omega] at this
          · cases h
        · cases h
      · cases h
end
end Go.Am
