/- The abstract machine is sound: codes. -/
import Derived.Test.YtckboonjjlpogaaGreatAmEval
import Derived.LoopNIn
set_option linter.unusedVariables false
set_option linter.unusedSimpArgs false
namespace Go.Am
noncomputable section
variable [SemC]

theorem CP.next {θ θ₁ : Th} {H H₁ : AH} {w w₁ : World} {outs outs' : List (AX × St)} {e : Exit} {a' : Act} {w' : World} (hF : Fr θ H w θ₁ H₁ w₁) (h : CP θ₁ H₁ w₁ outs' e a' w') (hs : ∀ y ∈ outs', y ∈ outs) : CP θ H w outs e a' w' := by
  obtain ⟨x, st', θ', h1, h2, h3, h4⟩ := h
  exact ⟨x, st', θ', hs _ h1, h2, h3, hF.trans h4⟩

theorem FP.next {θ θ₁ : Th} {H H₁ : AH} {w w₁ : World} {outs outs' : List (Value × AH)} {v' : Value} {w' : World} (hF : Fr θ H w θ₁ H₁ w₁) (h : FP θ₁ H₁ w₁ outs' v' w') (hs : ∀ y ∈ outs', y ∈ outs) : FP θ H w outs v' w' := by
  obtain ⟨x, st', θ', h1, h2, h3, h4⟩ := h
  exact ⟨x, st', θ', hs _ h1, h2, h3, hF.trans h4⟩

theorem oev_bool {θ : Th} {tm : Tr Value} {a : Act} (ha : TR θ tm a.tmps) {x : Operand} {b : Bool} (h : oev tm x = some (.bool b)) : a.eval x = .bool b := by
  have := oev_sound ha h
  generalize a.eval x = z at this ⊢
  cases this
  rfl

section
variable {P : Program} {T : Tbl} {E : Ev}

theorem seq_sound (hE : EvOK P E) {x y : Code} {inr : Bool} {st : St} {outs : List (AX × St)} {θ : Th} {a : Act} {w : World} {ro : Option Nat} (hro : inr = false → ro = none) (hS : RS θ st a w)
    (h : (bnd (E.c x inr st) fun r => match r.1 with
      | .normal => E.c y inr r.2
      | _ => some [r]) = some outs) : (Code.seq x y).wpIn (FR ro) 0 P (CP θ st.h w outs) a w := by
  obtain ⟨l, hl, hmem⟩ := bnd_mem h
  refine wpIn_seq (wpIn_mono (hE.c x inr st l hl θ a w ro hro hS) ?_)
  rintro e a1 w1 ⟨x1, st1, θ1, hin, hax, hS1, hF1⟩
  obtain ⟨m, hm, hsub⟩ := hmem _ hin
  cases x1 <;> cases e <;> simp only [AXR] at hax <;> simp only at hm
  · exact wpIn_mono (hE.c y inr st1 m hm θ1 a1 w1 ro hro hS1) fun e a w hcp => hcp.next hF1 hsub
  · cases hm
    exact ⟨_, st1, θ1, hsub _ (List.mem_singleton.2 rfl), hax, hS1, hF1⟩
  · cases hm
    exact ⟨_, st1, θ1, hsub _ (List.mem_singleton.2 rfl), trivial, hS1, hF1⟩

theorem rounds_sound (hE : EvOK P E) {b : Code} {inr : Bool} {ro : Option Nat} (hro : inr = false → ro = none) : ∀ (n : Nat) {st : St} {outs : List (AX × St)} {θ : Th} {a : Act} {w : World} (_ : RS θ st a w)
    (_ : evRounds E b inr n st = some outs) {Q : Exit → Act → World → Prop} (_ : ∀ e a' w', CP θ st.h w outs e a' w' → Q e a' w'), Code.roundsIn (FR ro) 0 P b Q n a w
  | 0, _, _, _, _, _, _, h, _, _ => by simp [evRounds] at h
  | n + 1, st, outs, θ, a, w, hS, h, Q, hQ => by
    simp only [evRounds] at h
    obtain ⟨l, hl, hmem⟩ := bnd_mem h
    rw [roundsIn_succ]
    refine wpIn_mono (hE.c b inr st l hl θ a w ro hro hS) ?_
    rintro e a1 w1 ⟨x1, st1, θ1, hin, hax, hS1, hF1⟩
    obtain ⟨m, hm, hsub⟩ := hmem _ hin
    cases x1 <;> cases e <;> simp only [AXR] at hax <;> simp only at hm
    · exact rounds_sound hE hro n hS1 hm fun e a' w' hcp => hQ _ _ _ (hcp.next hF1 hsub)
    · cases hm
      exact hQ _ _ _ ⟨_, st1, θ1, hsub _ (List.mem_singleton.2 rfl), hax, hS1, hF1⟩
    · cases hm
      exact hQ _ _ _ ⟨_, st1, θ1, hsub _ (List.mem_singleton.2 rfl), trivial, hS1, hF1⟩

theorem block_sound (hE : EvOK P E) {b : Code} {id : Nat} {inr : Bool} {st : St} {l : List (AX × St)} {θ : Th} {a : Act} {w : World} {ro : Option Nat} (hro : inr = false → ro = none) (hS : RS θ st a w)
    (h : E.c b inr st = some l) : (Code.block id b).wpIn (FR ro) 0 P (CP θ st.h w (l.map (blockR id))) a w := by
  refine wpIn_block (wpIn_mono (hE.c b inr st l h θ a w ro hro hS) ?_)
  rintro e a1 w1 ⟨x1, st1, θ1, hin, hax, hS1, hF1⟩
  have hin' := List.mem_map_of_mem (f := blockR id) hin
  cases x1 with
  | normal =>
    cases e <;> simp only [AXR] at hax
    exact ⟨_, st1, θ1, hin', trivial, hS1, hF1⟩
  | exit j =>
    cases e <;> simp only [AXR] at hax
    subst hax
    simp only [Exit.inBlock]
    simp only [blockR] at hin'
    split at hin'
    · rename_i hb
      rw [if_pos (Nat.eq_of_beq_eq_true hb)]
      exact ⟨_, st1, θ1, hin', trivial, hS1, hF1⟩
    · rename_i hb
      rw [if_neg (fun e => by rw [e] at hb; simp at hb)]
      exact ⟨_, st1, θ1, hin', rfl, hS1, hF1⟩
  | ret =>
    cases e <;> simp only [AXR] at hax
    exact ⟨_, st1, θ1, hin', trivial, hS1, hF1⟩

/-! ### The records of loops over functions -/
theorem loop_at {θ : Th} {hp : Tr AO} {w : World} (hR : RO θ hp w.heap) {l : Nat} {ls : LoopState} {pend : Option Code} {tm : Tr Value} {sz : Nat} {ps : List Tmp} {asg body : Code} {df : Nat} (hg : hp.get l = some (.loop ls pend tm sz ps asg body df))
    {p : Pl} (hp' : θ l = some p) : ∃ (r : Loop) (q : Pl), w.heap[p.cb]? = some (.loop r) ∧ r.state = ls ∧ r.pending = pend ∧ r.params = ⟨ps⟩ ∧ r.assign = asg ∧ r.body = body ∧ r.defers = q.cb ∧ θ df = some q ∧ r.tmps.size = sz ∧ TR θ tm r.tmps := by
  obtain ⟨p', h1, fn, tmps, q, h2, h3, h4, h5⟩ := hR.obj _ _ hg
  rw [hp'] at h1; cases h1
  exact ⟨_, q, h2, rfl, rfl, rfl, rfl, rfl, rfl, h3, h4, h5⟩

theorem set_loop {θ : Th} {H : AH} {w : World} (hR : RH θ H w) {l : Nat} {ls ls' : LoopState} {pend pend' : Option Code} {tm : Tr Value} {sz : Nat} {ps : List Tmp} {asg body : Code} {df : Nat} (hg : H.hp.get l = some (.loop ls pend tm sz ps asg body df))
    (hl : l < Tr.lim) {p : Pl} (hp : θ l = some p) {r : Loop} (hr : w.heap[p.cb]? = some (.loop r)) :
    RH θ (setO H l (.loop ls' pend' tm sz ps asg body df)) (w.putObj p.cb (.loop { r with state := ls', pending := pend' })) ∧ Fr θ H w θ (setO H l (.loop ls' pend' tm sz ps asg body df)) (w.putObj p.cb (.loop { r with state := ls', pending := pend' })) := by
  obtain ⟨r', q, h1, h2, h3, h4, h5, h6, h7, h8, h9, h10⟩ := loop_at ⟨hR.obj, hR.inj⟩ hg hp
  rw [hr] at h1; cases h1
  have := write_obj (P := default) hR hg hl hp hr (o' := .loop ls' pend' tm sz ps asg body df) (x' := .loop { r with state := ls', pending := pend' }) (fun _ _ _ e => by cases e) (by
    refine ⟨r.fn, r.tmps, q, ?_, h8, h9, h10⟩
    rw [heap_set_same hr]
    simp only [h4, h5, h6, h7])
  exact ⟨this.2.1, this.2.2⟩

/-- A statement that ranges over a function. -/
theorem rf_sound (hE : EvOK P E) {g : Operand} {ps : Array Tmp} {asg body : Code} {st : St} {outs : List (AX × St)} {θ : Th} {a : Act} {w : World} (hS : RS θ st a w) (h : evRF E g ps asg body st = some outs) :
    (Code.rangeFunc g ps asg body).wpIn (FR none) 0 P (CP θ st.h w outs) a w := by
  unfold evRF at h
  split at h
  · rename_i f fs cs hlim hg
    have hlim' := blt_spec hlim
    have hvg := oev_sound hS.tm hg
    refine wpIn_rangeFunc fun fn _ => ?_
    have hge : a.eval g = a.eval g := rfl
    generalize hz : a.eval g = z at hvg
    cases hvg with
    | func hfs hcs =>
      rename_i fs fs' cs cs'
      -- the two blocks
      obtain ⟨r1, r2⟩ := alloc_ok (p := ⟨w.heap.size, 0, 0, 0, undef⟩) (ao := .dfr true) (x := .deferred (some [])) hS.h (by omega) rfl (fun θ' _ _ => by
        exact World.alloc_heap_new w _)
      have hd : upd θ st.h.nx ⟨w.heap.size, 0, 0, 0, undef⟩ st.h.nx = some ⟨w.heap.size, 0, 0, 0, undef⟩ := upd_same _ _ _
      have hE1 := r2.ext hS.h.fresh
      obtain ⟨r3, r4⟩ := alloc_ok (p := ⟨(w.alloc (.deferred (some []))).heap.size, 0, 0, 0, undef⟩) (ao := .loop .ready none st.tm st.sz ps.toList asg body st.h.nx)
        (x := .loop { state := .ready, pending := none, fn, tmps := a.tmps, params := ps, assign := asg, body, defers := w.heap.size }) r1 (by simpa using hlim') rfl (fun θ' hE' _ => by
          exact ⟨fn, a.tmps, ⟨w.heap.size, 0, 0, 0, undef⟩, World.alloc_heap_new _ _, hE' _ _ hd, hS.sz, (hS.tm.mono hE1).mono hE'⟩)
      have hE2 := r4.ext r1.fresh
      have hsz1 : (w.alloc (.deferred (some []))).heap.size = w.heap.size + 1 := World.size_alloc ..
      obtain ⟨l, hl, hmem⟩ := bnd_mem h
      have hyv := VR.yield (θ := upd (upd θ st.h.nx ⟨w.heap.size, 0, 0, 0, undef⟩) (st.h.nx + 1) ⟨(w.alloc (.deferred (some []))).heap.size, 0, 0, 0, undef⟩) (l := st.h.nx + 1) (upd_same _ _ _)
      obtain ⟨nxt, w₁, hrun, hok, hent⟩ := hE.f _ _ _ _ hl _ _ _ _ (.func ((hfs.mono hE1).mono hE2) ((hcs.mono hE1).mono hE2)) (.cons hyv .nil) r3
      obtain ⟨f', args', rfl⟩ := hent f ⟨fs'⟩ ⟨cs'⟩ rfl
      simp only [NextOK] at hok
      simp only [Deferred.ofValue, Sem.run_bind, Sem.run_pure, Result.andThen_ok, hsz1] at hrun
      refine ⟨w.heap.size + 1, _, _, { target := .fn (.func f) ⟨cs'⟩, args := ⟨fs'⟩ ++ #[.func (.yield (w.heap.size + 1)) #[] #[]] }, _, f', args', w₁, run_enterLoop_outer fn a.tmps ps asg body, ?_, fun _ _ => trivial, hrun, fun h => by simp [FR, Fence.wide] at h, ?_⟩
      · simp only [rangeCall, resolve, hz, Deferred.ofValue, Sem.run_pure]
        simp [Act.eval, hsz1]
      · refine CallsIn.mono (F := FR none) hok ?_
        rintro e w3 ⟨v', rfl, v, H3, θ3, hin, hv, hR3, hF3⟩
        obtain ⟨m, hm, hsub⟩ := hmem _ hin
        unfold afterRF at hm
        split at hm
        · rename_i ls pend tm sz ps' asg' body' df hgl
          simp only at hgl hm
          have hF3' := (r2.trans r4).trans hF3
          have hl3 : θ3 (st.h.nx + 1) = some ⟨(w.alloc (.deferred (some []))).heap.size, 0, 0, 0, undef⟩ := by
            rw [hF3.old (st.h.nx + 1) (by show st.h.nx + 1 < st.h.nx + 1 + 1; omega)]
            exact upd_same _ _ _
          obtain ⟨r, q, e1, e2, e3, e4, e5, e6, e7, e8, e9, e10⟩ := loop_at ⟨hR3.obj, hR3.inj⟩ hgl hl3
          simp only [hsz1] at e1
          have key : ls ≠ .busy → RS θ3 ⟨st.tm, st.sz, df :: st.df, setO H3 (st.h.nx + 1) (.loop .exhausted pend tm sz ps' asg' body' df)⟩ { a with defers := [{ target := .collected q.cb, args := #[] }] ++ a.defers } (w3.putObj (w.heap.size + 1) (.loop { r with state := .exhausted, pending := pend })) ∧
              Fr θ st.h w θ3 (setO H3 (st.h.nx + 1) (.loop .exhausted pend tm sz ps' asg' body' df)) (w3.putObj (w.heap.size + 1) (.loop { r with state := .exhausted, pending := pend })) := by
            intro _
            obtain ⟨q1, q2⟩ := set_loop (ls' := .exhausted) (pend' := pend) hR3 hgl (by omega) hl3 (by simp only [hsz1]; exact e1)
            simp only [hsz1] at q1 q2
            have hE3 := hF3'.ext hS.h.fresh
            exact ⟨⟨hS.tm.mono hE3, hS.sz, .cons e8 (hS.df.mono hE3), q1⟩, hF3'.trans q2⟩
          have fin : ls ≠ .busy → df = st.h.nx → jumpRF E pend ⟨st.tm, st.sz, df :: st.df, setO H3 (st.h.nx + 1) (.loop .exhausted pend tm sz ps' asg' body' df)⟩ = some m →
              rangePost (FR none) 0 P (w.heap.size + 1) (CP θ st.h w outs) { a with defers := [{ target := .collected w.heap.size, args := #[] }] ++ a.defers } (.returned v') w3 := by
            intro hb hdf hm
            obtain ⟨k1, k2⟩ := key hb
            have hqd : q.cb = w.heap.size := by
              have h1 : θ3 st.h.nx = some ⟨w.heap.size, 0, 0, 0, undef⟩ := by
                rw [hF3.old st.h.nx (by show st.h.nx < st.h.nx + 1 + 1; omega), upd_ne _ _ _ (by omega)]
                exact upd_same _ _ _
              rw [hdf, h1] at e8; cases e8; rfl
            rw [hqd] at k1
            refine ⟨pend, w3.putObj (w.heap.size + 1) (.loop { r with state := .exhausted, pending := pend }), ?_, ?_⟩
            · rw [run_endLoop e1 (by rw [e2]; exact hb), e3]
            · cases pend with
              | none =>
                cases hm
                exact ⟨_, _, θ3, hsub _ (List.mem_singleton.2 rfl), trivial, k1, k2⟩
              | some c =>
                exact wpIn_mono (hE.c c false _ m hm θ3 _ _ none (fun _ => rfl) k1) fun e a w hcp => hcp.next k2 hsub
          cases hd : Nat.beq df st.h.nx with
          | false => rw [hd] at hm; cases ls <;> cases hm
          | true =>
            rw [hd] at hm
            cases ls with
            | busy => cases hm
            | ready => exact fin (by simp) (Nat.eq_of_beq_eq_true hd) hm
            | done => exact fin (by simp) (Nat.eq_of_beq_eq_true hd) hm
            | exhausted => exact fin (by simp) (Nat.eq_of_beq_eq_true hd) hm
        · cases hm
  · cases h
end
end
end Go.Am
