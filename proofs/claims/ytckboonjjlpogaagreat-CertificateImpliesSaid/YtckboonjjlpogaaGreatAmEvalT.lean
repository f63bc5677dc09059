/- The abstract machine is sound: calls. -/
import Derived.Test.YtckboonjjlpogaaGreatAmEvalS
set_option linter.unusedVariables false
set_option linter.unusedSimpArgs false
namespace Go.Am
noncomputable section
variable [SemC]

section
variable {P : Program} {T : Tbl} {E : Ev}

def readR (tmps : Array Value) : ResultVar → Sem Value
  | .tmp t => pure (tmps.getD t undef)
  | .cell a t => do loadVar t (← asAddr (tmps.getD a undef))

theorem resL_sound (hT : TblOK P T) {θ : Th} {tm : Tr Value} {tmps : Array Value} {hp : Tr AO} {w : World} (ht : TR θ tm tmps) (hR : RO θ hp w.heap) : ∀ (l : List ResultVar) (vs : List Value), resL T tm hp l = some vs →
    ∃ vs', (l.mapM (readR tmps)).run P w = .ok vs' w ∧ LR θ vs vs'
  | [], vs, h => by
    simp only [resL, Option.some.injEq] at h
    subst h
    exact ⟨[], by simp, .nil⟩
  | .tmp t :: r, vs, h => by
    simp only [resL] at h
    split at h
    · rename_i v hv
      split at h
      · rename_i us hu
        cases h
        obtain ⟨us', h1, h2⟩ := resL_sound hT ht hR r us hu
        exact ⟨_ :: us', by simp [List.mapM_cons, readR, h1], .cons (ht t v hv) h2⟩
      · cases h
    · cases h
  | .cell a t :: r, vs, h => by
    simp only [resL] at h
    split at h
    · rename_i p hp'
      split at h
      · rename_i v hv
        split at h
        · rename_i us hu
          cases h
          obtain ⟨us', h1, h2⟩ := resL_sound hT ht hR r us hu
          obtain ⟨v', h3, h4⟩ := pLoad_sound hT hR (ht a p hp') hv
          refine ⟨v' :: us', ?_, .cons h4 h2⟩
          have h5 : (readR tmps (.cell a t)).run P w = .ok v' w := by
            have hpt := ht a p hp'
            simp only [readR]
            generalize tmps.getD a undef = z at h3 hpt ⊢
            cases hpt <;> first
              | (simp [pLoad, apV] at hv; done)
              | skip
            simpa [Instr.loadAt, Instr.sureAddr, asAddr] using h3
          simp [List.mapM_cons, h5, h1]
        · cases h
      · cases h
    · cases h

theorem results_sound (hT : TblOK P T) {θ : Th} {tm : Tr Value} {tmps : Array Value} {hp : Tr AO} {w : World} (ht : TR θ tm tmps) (hR : RO θ hp w.heap) {fn : Func} {vs : List Value} (h : resL T tm hp fn.results.toList = some vs) :
    ∃ v', (results fn tmps).run P w = .ok v' w ∧ VR θ (resOne vs) v' := by
  obtain ⟨vs', h1, h2⟩ := resL_sound hT ht hR _ _ h
  have hm : (fn.results.mapM (readR tmps)).run P w = .ok ⟨vs'⟩ w := by
    have e : fn.results = fn.results.toList.toArray := rfl
    rw [e, List.mapM_toArray]
    simp [h1]
  refine ⟨resOne vs', ?_, ?_⟩
  · have e : results fn tmps = (do
        let vs ← fn.results.mapM (readR tmps)
        pure (if h : vs.size = 1 then vs[0] else .tuple vs)) := by
      unfold results
      congr 2
    rw [e]
    rw [Sem.run_bind, hm]
    simp only [Result.andThen_ok, Sem.run_pure]
    cases vs' with
    | nil => rfl
    | cons x r => cases r with
      | nil => rfl
      | cons y r => simp [resOne]
  · cases h2 with
    | nil => exact .tuple .nil
    | cons a b =>
      cases b with
      | nil => exact a
      | cons c d => exact .tuple (.cons a (.cons c d))

/-! ### Leaving a function -/
theorem unmark_sound {F : Fence} {n : Nat} {fn : Func} {tmps : Array Value} {R : Ending → World → Prop} : ∀ (df : List Nat) {ds : List Deferred} {θ : Th} {H : AH} {w : World} {hp' : Tr AO}, DR θ df ds → RH θ H w → unmark df H.hp = some hp' →
    (∀ w', RH θ ⟨hp', H.nx⟩ w' → Fr θ H w θ ⟨hp', H.nx⟩ w' → LeavesInM F n P fn tmps R [] .returning w') → LeavesInM F n P fn tmps R ds .returning w
  | [], _, θ, H, w, hp', hd, hR, h, K => by
    cases hd
    simp only [unmark, Option.some.injEq] at h
    subst h
    exact K w hR (Fr.refl _ _ _)
  | r :: rs, _, θ, H, w, hp', hd, hR, h, K => by
    cases hd with
    | cons hr hds =>
      rename_i p ds
      simp only [unmark] at h
      split at h
      · rename_i hg hlim
        have hlim' := blt_spec hlim
        obtain ⟨q, hq, hx⟩ := hR.obj _ _ hg
        rw [hr] at hq; cases hq
        simp only [ORel, if_true] at hx
        have wo := write_obj (P := P) hR hg hlim' hr hx (o' := .dfr false) (x' := .deferred none) (fun _ _ _ e => by cases e) (heap_set_same hx)
        refine ⟨by simp, .inl ⟨p.cb, _, rfl, run_takeDeferred hx, ?_⟩⟩
        exact unmark_sound rs hds (H := ⟨H.hp.set r (some (.dfr false)), H.nx⟩) wo.2.1 h fun w' h1 h2 => K w' h1 (wo.2.2.trans h2)
      · cases h

theorem leave_sound (hT : TblOK P T) {F : Fence} {n : Nat} {fn : Func} {r : AX × St} {m : List (Value × AH)} (h : leave T fn r = some m) {θ : Th} {a : Act} {w : World} (hS : RS θ r.2 a w) {e : Exit} (he : AXR r.1 e) {R : Ending → World → Prop}
    (hR : ∀ v' w', FP θ r.2.h w m v' w' → R (.returned v') w') : bodyPostM F n P fn R e a w := by
  have key : e = .normal ∨ e = .ret → bodyPostM F n P fn R e a w := by
    intro hor
    have main : LeavesInM F n P fn a.tmps R a.defers .returning w := by
      have hl : (match unmark r.2.df r.2.h.hp with
          | none => none
          | some hp => match resL T r.2.tm hp fn.results.toList with
            | some vs => some [(resOne vs, (⟨hp, r.2.h.nx⟩ : AH))]
            | none => none) = some m := by
        unfold leave at h
        obtain ⟨x, st⟩ := r
        cases x with
        | exit => cases h
        | normal => exact h
        | ret => exact h
      split at hl
      · cases hl
      · rename_i hp hu
        split at hl
        · rename_i vs hvs
          cases hl
          refine unmark_sound _ hS.df hS.h hu fun w' h1 h2 => ?_
          obtain ⟨v', h3, h4⟩ := results_sound hT hS.tm ⟨h1.obj, h1.inj⟩ hvs
          exact ⟨v', h3, hR v' w' ⟨_, _, θ, List.mem_singleton.2 rfl, h4, h1, h2⟩⟩
        · cases hl
    rcases hor with rfl | rfl <;> exact main
  obtain ⟨x, st⟩ := r
  cases x with
  | exit => unfold leave at h; cases h
  | normal => cases e <;> simp only [AXR] at he; exact key (.inl rfl)
  | ret => cases e <;> simp only [AXR] at he; exact key (.inr rfl)

theorem evCall_sound (hT : TblOK P T) (hE : EvOK P E) {f : FuncId} {fn : Func} (hf : P.funcs[f]? = some fn) {args args' : List Value} {H : AH} {θ : Th} {w : World} {outs : List (Value × AH)} (ha : LR θ args args') (hR : RH θ H w)
    (h : evCall T E fn args H = some outs) : CallsIn (FR none) 0 P f ⟨args'⟩ w fun e w' => ∃ v', e = .returned v' ∧ FP θ H w outs v' w' := by
  unfold evCall at h
  split at h
  · rename_i c hb hlim
    have hlim' := blt_spec hlim
    obtain ⟨l, hl, hmem⟩ := bnd_mem h
    refine callsIn_of_wp_marks hf hb trivial (wpIn_mono (hE.c c false _ l hl θ _ w none (fun _ => rfl) ?_) ?_)
    · refine ⟨?_, ?_, .nil, hR⟩
      · intro t v hv
        simp only at hv
        rw [Tr.get_ofListAt _ _ _ _ (by simpa using hlim')] at hv
        split at hv
        · rename_i ht
          rw [Nat.sub_zero] at hv
          obtain ⟨v', h1, h2⟩ := ha.get t v hv
          have hlt : t < args'.length := (List.getElem?_eq_some_iff.1 h1).1
          have : ((⟨args'⟩ : Array Value) ++ Array.replicate (fn.ntmps - (⟨args'⟩ : Array Value).size) undef).getD t undef = v' := by
            simp only [Array.getD_eq_getD_getElem?]
            rw [Array.getElem?_append_left (by simpa using hlt)]
            simp [h1]
          rw [this]; exact h2
        · simp [Tr.get_lf] at hv
      · simp [ha.length]
    · rintro e a1 w1 ⟨x1, st1, θ1, hin, hax, hS1, hF1⟩
      obtain ⟨m, hm, hsub⟩ := hmem _ hin
      exact leave_sound hT hm hS1 hax fun v' w' hfp => ⟨v', rfl, hfp.next hF1 hsub⟩
  · cases h

/-! ### Rounds -/
theorem putL_sound {θ : Th} {sz : Nat} : ∀ (ps : List Tmp) (vs vs' : List Value) (tm tm' : Tr Value) (tmps : Array Value), LR θ vs vs' → TR θ tm tmps → tmps.size = sz → putL sz ps vs tm = some tm' →
    TR θ tm' ((ps.zip vs').foldl (fun tmps x => tmps.setIfInBounds x.1 x.2) tmps) ∧ ((ps.zip vs').foldl (fun tmps x => tmps.setIfInBounds x.1 x.2) tmps).size = sz ∧ ps.length = vs'.length
  | [], [], _, tm, tm', tmps, hv, ht, hs, h => by
    cases hv
    simp only [putL, Option.some.injEq] at h
    subst h
    exact ⟨ht, hs, rfl⟩
  | t :: ts, v :: vs, _, tm, tm', tmps, hv, ht, hs, h => by
    cases hv with
    | cons h1 h2 =>
      rename_i v' vs'
      simp only [putL] at h
      split at h
      · rename_i tm1 hp
        obtain ⟨k1, k2, _⟩ := TR.put (a := { tmps := tmps, defers := [] }) ht hs h1 hp
        obtain ⟨e1, e2, e3⟩ := putL_sound ts vs vs' tm1 tm' _ h2 k1 k2 h
        exact ⟨e1, e2, by simp [e3]⟩
      · cases h
  | [], _ :: _, _, _, _, _, _, _, _, h => by simp [putL] at h
  | _ :: _, [], _, _, _, _, _, _, _, h => by simp [putL] at h

theorem endRd_sound {l : Nat} {r : AX × St} {m : List (Value × AH)} (h : endRd l r = some m) (hl : l < Tr.lim) {θ : Th} {a : Act} {w : World} (hS : RS θ r.2 a w) {e : Exit} (he : AXR r.1 e) {p : Pl} (hp : θ l = some p) {R : Ending → World → Prop}
    (hR : ∀ v' w', FP θ r.2.h w m v' w' → R (.returned v') w') : roundPost P p.cb R e a w := by
  obtain ⟨x, st⟩ := r
  unfold endRd at h
  split at h
  · rename_i ls pend tm sz ps asg body df hg
    simp only at hg
    obtain ⟨r, q, e1, e2, e3, e4, e5, e6, e7, e8, e9, e10⟩ := loop_at ⟨hS.h.obj, hS.h.inj⟩ hg hp
    have fin : ∀ (jump : Option Code) (b : Bool) (ls' : LoopState), jump.isNone = b → (if b = true then LoopState.ready else .done) = ls' → m = [(.bool b, setO st.h l (.loop ls' jump tm sz ps asg body df))] →
        ∃ v w', (Instr.endRound p.cb jump).run P w = .ok v w' ∧ R (.returned v) w' := by
      intro jump b ls' hj hls hm
      obtain ⟨q1, q2⟩ := set_loop (ls' := ls') (pend' := jump) hS.h hg hl hp e1
      refine ⟨.bool b, w.putObj p.cb (.loop { r with state := ls', pending := jump }), ?_, hR _ _ ⟨.bool b, _, θ, by rw [hm]; exact List.mem_singleton.2 rfl, .bool b, q1, q2⟩⟩
      rw [run_endRound jump e1, hj]
      subst hls
      cases b <;> rfl
    cases x with
    | normal =>
      cases e <;> simp only [AXR] at he
      cases h
      exact fin none true .ready rfl rfl rfl
    | ret =>
      cases e <;> simp only [AXR] at he
      cases h
      exact fin (some .ret) false .done rfl rfl rfl
    | exit id =>
      cases e <;> simp only [AXR] at he
      subst he
      cases h
      exact fin (some (.exit id)) false .done rfl rfl rfl
  · cases h

theorem evYield_sound (hE : EvOK P E) {l : Nat} {args args' : List Value} {H : AH} {θ : Th} {w : World} {outs : List (Value × AH)} (ha : LR θ args args') (hR : RH θ H w) {p : Pl} (hp : θ l = some p) (h : evYield E l args H = some outs) :
    CallOK P (.func (.yield p.cb) #[] #[]) ⟨args'⟩ w (FP θ H w outs) := by
  unfold evYield at h
  split at h
  · rename_i ls pend tm sz ps asg body df hg hlim
    have hlim' := blt_spec hlim
    split at h
    · rename_i tm' hput
      obtain ⟨r, q, e1, e2, e3, e4, e5, e6, e7, e8, e9, e10⟩ := loop_at ⟨hR.obj, hR.inj⟩ hg hp
      obtain ⟨k1, k2, k3⟩ := putL_sound ps args args' tm tm' r.tmps ha e10 e9 hput
      refine ⟨.round p.cb r.fn ((r.params.zip (#[] ++ ⟨args'⟩)).foldl (fun tmps (t, a) => tmps.setIfInBounds t a) r.tmps) r.assign r.body, w, ?_, ?_, fun f fs cs e => by cases e⟩
      · simp only [Deferred.ofValue, Sem.run_bind, Sem.run_pure, Result.andThen_ok, invoke]
        exact run_yield (args := #[] ++ ⟨args'⟩) e1 (by rw [e4]; simp [k3])
      · simp only [NextOK]
        rw [e4, e5, e6]
        obtain ⟨ll, hl, hmem⟩ := bnd_mem h
        have hz : ((⟨ps⟩ : Array Tmp).zip (#[] ++ ⟨args'⟩)).foldl (fun tmps (t, a) => tmps.setIfInBounds t a) r.tmps = (ps.zip args').foldl (fun tmps x => tmps.setIfInBounds x.1 x.2) r.tmps := by
          simp
        rw [hz]
        refine roundIn_of_wpIn (F := FR none) trivial (wpIn_mono (F := FR (some p.cb)) (hE.c asg true _ ll hl θ _ w (some p.cb) (by simp) ⟨k1, k2, .nil, hR⟩) ?_)
        rintro e a1 w1 ⟨x1, st1, θ1, hin, hax, hS1, hF1⟩
        obtain ⟨m, hm, hsub⟩ := hmem _ hin
        split at hm
        · rename_i m' hm'
          cases hm
          unfold beginRd at hm'
          cases x1 with
          | exit => cases hm'
          | ret => cases hm'
          | normal =>
            cases e <;> simp only [AXR] at hax
            simp only [Exit.then]
            simp only at hm'
            split at hm'
            · rename_i ls1 pend1 tm1 sz1 ps1 asg1 body1 df1 hg1
              cases ls1 with
              | ready =>
                simp only at hm'
                have hp1 : θ1 l = some p := (hF1.ext hR.fresh) _ _ hp
                obtain ⟨r1, q1, f1, f2, f3, f4, f5, f6, f7, f8, f9, f10⟩ := loop_at ⟨hS1.h.obj, hS1.h.inj⟩ hg1 hp1
                obtain ⟨s1, s2⟩ := set_loop (ls' := .busy) (pend' := pend1) hS1.h hg1 hlim' hp1 f1
                refine ⟨w1.putObj p.cb (.loop { r1 with state := .busy, pending := pend1 }), ?_, ?_⟩
                · rw [run_beginRound f1 f2]
                  simp only [← f3]
                · obtain ⟨l2, hl2, hmem2⟩ := bnd_mem hm'
                  refine wpIn_mono (F := FR (some p.cb)) (hE.c body true _ l2 hl2 θ1 _ _ (some p.cb) (by simp) ⟨hS1.tm, hS1.sz, hS1.df, s1⟩) ?_
                  rintro e2 a2 w2 ⟨x2, st2, θ2, hin2, hax2, hS2, hF2⟩
                  obtain ⟨m2, hm2, hsub2⟩ := hmem2 _ hin2
                  have hF := (hF1.trans s2).trans hF2
                  exact endRd_sound hm2 hlim' hS2 hax2 ((hF.ext hR.fresh) _ _ hp) fun v' w' hfp => ⟨v', rfl, (hfp.next hF (fun y hy => hsub _ (hsub2 _ hy)))⟩
              | busy => cases hm'
              | done => cases hm'
              | exhausted => cases hm'
            · cases hm'
        · cases hm
    · cases h
  · cases h
end
end
end Go.Am
