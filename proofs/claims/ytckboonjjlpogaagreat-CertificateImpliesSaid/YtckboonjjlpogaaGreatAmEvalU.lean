/- The abstract machine is sound: ways that come to the same; the whole. -/
import Derived.Test.YtckboonjjlpogaaGreatAmEvalT
set_option linter.unusedVariables false
set_option linter.unusedSimpArgs false
namespace Go.Am
noncomputable section
variable [SemC]

omit [SemC] in
theorem reach_spec (hp : Tr AO) : ∀ (n : Nat) (wl : List Nat) (seen : Tr Unit) (acc R : List (Nat × AO)), reach hp n wl seen acc = some R → (∀ x ∈ acc, hp.get x.1 = some x.2) → ∀ x ∈ R, hp.get x.1 = some x.2
  | 0, [], _, acc, R, h, ha => by simp only [reach, Option.some.injEq] at h; subst h; exact ha
  | n + 1, [], _, acc, R, h, ha => by simp only [reach, Option.some.injEq] at h; subst h; exact ha
  | 0, _ :: _, _, _, _, h, _ => by simp [reach] at h
  | n + 1, b :: bs, seen, acc, R, h, ha => by
    simp only [reach] at h
    split at h
    · exact reach_spec hp n bs seen acc R h ha
    · split at h
      · rename_i o ho
        refine reach_spec hp n _ _ _ R h fun x hx => ?_
        rcases List.mem_cons.1 hx with rfl | hx
        · exact ho
        · exact ha x hx
      · exact reach_spec hp n bs _ acc R h ha

omit [SemC] in
theorem limL_spec : ∀ (l : List (Nat × AO)), limL l = true → ∀ x ∈ l, x.1 < Tr.lim
  | [], _, x, h => by simp at h
  | (b, o) :: r, h, x, hx => by
    simp only [limL] at h
    split at h
    · rename_i hb
      rcases List.mem_cons.1 hx with rfl | hx
      · exact blt_spec hb
      · exact limL_spec r h x hx
    · cases h

omit [SemC] in
theorem setAO_get : ∀ (l : List (Nat × AO)) (hp : Tr AO) (b : Nat) (o : AO), (∀ x ∈ l, x.1 < Tr.lim) → (setAO l hp).get b = some o → (b, o) ∈ l ∨ hp.get b = some o
  | [], hp, b, o, _, h => .inr h
  | (c, q) :: r, hp, b, o, hl, h => by
    simp only [setAO] at h
    rcases setAO_get r _ b o (fun x hx => hl x (by simp [hx])) h with h1 | h1
    · exact .inl (List.mem_cons_of_mem _ h1)
    · rw [Tr.get_set _ _ _ _ (hl (c, q) (by simp))] at h1
      split at h1
      · rename_i e; subst e; cases h1; exact .inl (by simp)
      · exact .inr h1

omit [SemC] in
theorem unsetAO_get : ∀ (l : List (Nat × AO)) (hp : Tr AO) (b : Nat) (o : AO), (∀ x ∈ l, x.1 < Tr.lim) → (unsetAO l hp).get b = some o → hp.get b = some o ∧ ∀ x ∈ l, x.1 ≠ b
  | [], hp, b, o, _, h => ⟨h, fun x hx => by simp at hx⟩
  | (c, q) :: r, hp, b, o, hl, h => by
    simp only [unsetAO] at h
    obtain ⟨h1, h2⟩ := unsetAO_get r _ b o (fun x hx => hl x (by simp [hx])) h
    rw [Tr.get_set _ _ _ _ (hl (c, q) (by simp))] at h1
    split at h1
    · cases h1
    · rename_i e
      refine ⟨h1, fun x hx => ?_⟩
      rcases List.mem_cons.1 hx with rfl | hx
      · exact fun e' => e e'.symm
      · exact h2 x hx

omit [SemC] in
theorem sameL_spec : ∀ (a b : List (Nat × AO)), sameL a b = true → a = b
  | [], [], _ => rfl
  | [], _ :: _, h => by simp [sameL] at h
  | _ :: _, [], h => by simp [sameL] at h
  | (b, o) :: r, (b', o') :: r', h => by
    simp only [sameL] at h
    split at h
    · rename_i h1 h2
      rw [Nat.eq_of_beq_eq_true h1, sameO_spec h2, sameL_spec r r' h]
    · cases h

omit [SemC] in
theorem allSame_spec (R : List (Nat × AO)) (v : Value) (L : List (Nat × AO)) (nx : Nat) : ∀ (l : List (Value × AH)), allSame R v L nx l = true → ∀ r ∈ l, v = r.1 ∧ r.2.nx ≤ nx ∧ reachR R r = some L
  | [], _, r, h => by simp at h
  | x :: l, h, r, hr => by
    simp only [allSame] at h
    split at h
    · rename_i h1 h2 h3
      split at h
      · rename_i h4
        rcases List.mem_cons.1 hr with rfl | hr
        · exact ⟨vid_spec _ _ _ h1, Nat.le_of_ble_eq_true h2, by rw [h3, sameL_spec _ _ h4]⟩
        · exact allSame_spec R v L nx l h r hr
      · cases h
    · cases h

section
variable {P : Program} {T : Tbl} {E : Ev}

theorem stepM_sound (hT : TblOK P T) (hE : EvOK P E) {f : FuncId} {fn : Func} (hf : P.funcs[f]? = some fn) {args args' : List Value} {H : AH} {θ : Th} {w : World} {outs : List (Value × AH)} (ha : LR θ args args') (hR : RH θ H w)
    (h : stepM T E fn args H = some outs) : CallsIn (FR none) 0 P f ⟨args'⟩ w fun e w' => ∃ v', e = .returned v' ∧ FP θ H w outs v' w' := by
  unfold stepM at h
  split at h
  · cases h
  · rename_i R hreach
    split at h
    · rename_i o2 hlR hcall
      have hlR' := limL_spec _ hlR
      have hRget := reach_spec _ _ _ _ _ _ hreach (fun x hx => by simp at hx)
      have hVget : ∀ b o, (setAO R .lf).get b = some o → (b, o) ∈ R := fun b o hg => by
        rcases setAO_get R _ b o hlR' hg with h1 | h1
        · exact h1
        · simp [Tr.get_lf] at h1
      have hVsub : ∀ b o, (setAO R .lf).get b = some o → H.hp.get b = some o := fun b o hg => hRget _ (hVget b o hg)
      have hRV : RH θ ⟨setAO R .lf, H.nx⟩ w := ⟨RO.sub ⟨hR.obj, hR.inj⟩ hVsub, hR.fresh⟩
      refine CallsIn.mono (evCall_sound hT hE hf ha hRV hcall) ?_
      rintro e w' ⟨v', rfl, v, H', θ', hin, hv, hR', hF'⟩
      refine ⟨v', rfl, ?_⟩
      unfold mergeR at h
      split at h
      · cases h
      · rename_i r rs
        split at h
        · cases h
        · rename_i L hL
          split at h
          · rename_i h1 h2 h3
            cases h
            obtain ⟨e1, e2, e3⟩ := allSame_spec _ _ _ _ _ h1 _ hin
            simp only at e1 e2
            subst e1
            have hLget := reach_spec _ _ _ _ _ _ e3 (fun x hx => by simp at hx)
            have hE' := hF'.ext hR.fresh
            obtain ⟨j1, j2⟩ := join (hp2 := setAO L (unsetAO R H.hp)) ⟨hR.obj, hR.inj⟩ hVsub hF' ⟨hR'.obj, hR'.inj⟩ hE' (fun b o hg => by
              rcases setAO_get L _ b o (limL_spec _ h3) hg with g1 | g1
              · exact .inl (hLget _ g1)
              · obtain ⟨g2, g3⟩ := unsetAO_get R _ b o (limL_spec _ h2) g1
                refine .inr ⟨g2, ?_, ?_⟩
                · cases hc : (setAO R .lf).get b with
                  | none => rfl
                  | some o' => exact absurd rfl (g3 _ (hVget b o' hc))
                · rcases Nat.lt_or_ge b H.nx with g4 | g4
                  · exact g4
                  · obtain ⟨p, g5, _⟩ := hR.obj b o g2
                    rw [hR.fresh b g4] at g5; cases g5)
            refine ⟨_, _, θ', List.mem_singleton.2 rfl, hv, ⟨j1, fun b hb => hR'.fresh b (Nat.le_trans e2 hb)⟩, ?_⟩
            exact ⟨j2.size, j2.os, j2.tape, j2.output, j2.keep, j2.sub, j2.old, Nat.le_trans j2.nx e2⟩
          · cases h
    · cases h

theorem stepF_sound (hT : TblOK P T) (hTf : FnOK T) (hE : EvOK P E) (M : Nat → Bool) {fv : Value} {args : List Value} {H : AH} {outs : List (Value × AH)} (h : stepF T M E fv args H = some outs) {θ : Th} {w : World} {fv' : Value} {args' : List Value}
    (hv : VR θ fv fv') (ha : LR θ args args') (hR : RH θ H w) : CallOK P fv' ⟨args'⟩ w (FP θ H w outs) := by
  unfold stepF at h
  split at h
  · rename_i f fs cs
    cases hv with
    | func hfs hcs =>
      rename_i fs' cs'
      split at h
      · rename_i fn hfn
        have hfP := hT.fn _ _ hfn
        have hname := hTf _ _ hfn
        have hall := (hfs.append ha).append hcs
        have key : (∃ c, fn.body = some c) ∧ CallsIn (FR none) 0 P f ⟨fs' ++ args' ++ cs'⟩ w fun e w' => ∃ v', e = .returned v' ∧ FP θ H w outs v' w' := by
          have hbody : ∀ {H : AH} {o : List (Value × AH)}, evCall T E fn (fs ++ args ++ cs) H = some o → ∃ c, fn.body = some c := by
            intro H o ho
            unfold evCall at ho
            split at ho
            · rename_i c hc _; exact ⟨c, hc⟩
            · cases ho
          split at h
          · exact ⟨hbody h, evCall_sound hT hE hfP hall hR h⟩
          · refine ⟨?_, stepM_sound hT hE hfP hall hR h⟩
            unfold stepM at h
            split at h
            · cases h
            · split at h
              · rename_i hc; exact hbody hc
              · cases h
        obtain ⟨⟨c, hc⟩, hcalls⟩ := key
        refine ⟨.enter f ⟨fs' ++ args' ++ cs'⟩, w, ?_, hcalls, fun f' a' b' _ => ⟨_, _, rfl⟩⟩
        simp only [Deferred.ofValue, Sem.run_bind, Sem.run_pure, Result.andThen_ok, invoke]
        have hname' : ¬ fn.name = "runtime.NumGoroutine" := by simpa using hname
        simp [callFunc, hfP, hname', hc]
      · cases h
  · rename_i l fs cs
    split at h
    · cases hv with
      | yield hp => exact evYield_sound hE ha hR hp h
    · cases h
  · cases h

theorem stepC_sound (hT : TblOK P T) (hE : EvOK P E) {c : Code} {inr : Bool} {st : St} {outs : List (AX × St)} (h : stepC T E c inr st = some outs) {θ : Th} {a : Act} {w : World} {ro : Option Nat} (hro : inr = false → ro = none) (hS : RS θ st a w) :
    c.wpIn (FR ro) 0 P (CP θ st.h w outs) a w := by
  rw [stepC_eq] at h
  cases c with
  | skip => simp only [stepCS] at h; cases h; exact wpIn_skip ⟨_, st, θ, List.mem_singleton.2 rfl, trivial, hS, Fr.refl _ _ _⟩
  | label l => simp only [stepCS] at h; cases h; exact wpIn_label ⟨_, st, θ, List.mem_singleton.2 rfl, trivial, hS, Fr.refl _ _ _⟩
  | exit id => simp only [stepCS] at h; cases h; exact wpIn_exit ⟨_, st, θ, List.mem_singleton.2 rfl, rfl, hS, Fr.refl _ _ _⟩
  | ret => simp only [stepCS] at h; cases h; exact wpIn_ret ⟨_, st, θ, List.mem_singleton.2 rfl, trivial, hS, Fr.refl _ _ _⟩
  | region id ops d =>
    cases d with
    | true => exact evD_sound hT hE ro h hS
    | false =>
      refine wpIn_region ?_
      have := evOps_sound hT hE ops ro (CP θ st.h w outs) ops.toList 0 st outs θ a w (fun j => by simp) h hS
        (fun st' θ' a' w' h1 h2 h3 => ⟨_, st', θ', h1, trivial, h2, h3⟩)
      rw [Array.length_toList, ← List.range_eq_range'] at this
      exact this
  | seq x y => exact seq_sound hE hro hS h
  | cond x t e =>
    simp only [stepCS] at h
    split at h
    · rename_i hx; exact wpIn_cond_true (oev_bool hS.tm hx) (hE.c _ _ _ _ h θ a w ro hro hS)
    · rename_i hx; exact wpIn_cond_false (oev_bool hS.tm hx) (hE.c _ _ _ _ h θ a w ro hro hS)
    · cases h
  | block id b =>
    simp only [stepCS] at h
    split at h
    · rename_i l hl; cases h; exact block_sound hE hro hS hl
    · cases h
  | loop b => exact wpIn_loop_rounds 100000 (rounds_sound hE hro 100000 hS h fun _ _ _ h => h)
  | rangeFunc g ps asg body =>
    simp only [stepCS] at h
    split at h
    · have := hro rfl
      subst this
      exact rf_sound hE hS h
    · cases h
  | scope b => simp [stepCS] at h
  | goto l => simp [stepCS] at h
  | refuse s => simp [stepCS] at h

theorem ev_ok (hT : TblOK P T) (hTf : FnOK T) (M : Nat → Bool) : ∀ n, EvOK P (ev T M n)
  | 0 => ⟨fun c inr st outs h => by simp [ev] at h, fun fv args H outs h => by simp [ev] at h⟩
  | n + 1 => ⟨fun c inr st outs h θ a w ro hro hS => stepC_sound hT (ev_ok hT hTf M n) h hro hS, fun fv args H outs h θ w fv' args' hv ha hR => stepF_sound hT hTf (ev_ok hT hTf M n) M h hv ha hR⟩

def cameTo (b : Bool) (r : Option (List (Value × AH))) : Bool :=
  match r with
  | some [(.bool c, _)] => c == b
  | _ => false
/-- What the machine's run of a function without arguments says. -/
theorem ev_calls (hm : P.follows .mixedOrders = true) (M : Nat → Bool) {n : Nat} {f : FuncId} {b : Bool} (h : cameTo b ((ev (mkTbl P) M n).f (.func (.func f) #[] #[]) [] ⟨.lf, 0⟩) = true) (w : World) :
    Calls P f #[] w fun e w' => e = .returned (.bool b) ∧ w.heap.size ≤ w'.heap.size ∧ w'.os = w.os ∧ w'.tape = w.tape ∧ w'.output = w.output ∧ ∀ k, k < w.heap.size → w'.heap[k]? = w.heap[k]? := by
  unfold cameTo at h
  split at h
  · rename_i c H hev
    have hcb : c = b := by simpa using h
    subst hcb
    obtain ⟨nx, w₁, hrun, hok, hent⟩ := (ev_ok (mkTbl_ok hm) (mkTbl_fn P) M n).f _ _ _ _ hev (fun _ => none) w _ _ (.func .nil .nil) .nil ⟨⟨fun b o h => by simp [Tr.get_lf] at h, fun b _ o _ _ _ h => by simp [Tr.get_lf] at h⟩, fun _ _ => rfl⟩
    obtain ⟨f', a', rfl⟩ := hent f #[] #[] rfl
    have hr : f' = f ∧ a' = #[] ∧ w₁ = w := by
      simp only [Deferred.ofValue, Sem.run_bind, Sem.run_pure, Result.andThen_ok, invoke] at hrun
      have hfn : ∃ fn c, P.funcs[f]? = some fn ∧ (fn.name == "runtime.NumGoroutine") = false ∧ fn.body = some c := by
        cases n with
        | zero => simp [ev] at hev
        | succ n =>
          simp only [ev, stepF] at hev
          split at hev
          · rename_i fn hfn
            have hbody : ∃ c, fn.body = some c := by
              have hb : ∀ {H : AH} {o : List (Value × AH)}, evCall (mkTbl P) (ev (mkTbl P) M n) fn ([] ++ [] ++ []) H = some o → ∃ c, fn.body = some c := by
                intro H o ho
                unfold evCall at ho
                split at ho
                · rename_i c hc _; exact ⟨c, hc⟩
                · cases ho
              split at hev
              · exact hb hev
              · unfold stepM at hev
                split at hev
                · cases hev
                · split at hev
                  · rename_i hc; exact hb hc
                  · cases hev
            obtain ⟨c, hc⟩ := hbody
            exact ⟨fn, c, (mkTbl_ok hm).fn _ _ hfn, mkTbl_fn P _ _ hfn, hc⟩
          · cases hev
      obtain ⟨fn, c, g1, g2, g3⟩ := hfn
      have g2' : ¬ fn.name = "runtime.NumGoroutine" := by simpa using g2
      simp [callFunc, g1, g2', g3] at hrun
      exact ⟨hrun.1.1.symm, hrun.1.2, hrun.2.symm⟩
    obtain ⟨rfl, rfl, rfl⟩ := hr
    have := (callsIn_wide (n := 0)).1 (show CallsIn Fence.wide 0 P f' #[] w₁ _ from hok)
    refine Calls.mono this ?_
    rintro e w' ⟨v', rfl, v, H', θ', hin, hv, hR, hF⟩
    simp only [List.mem_singleton, Prod.mk.injEq] at hin
    obtain ⟨rfl, rfl⟩ := hin
    cases hv
    exact ⟨rfl, hF.size, hF.os, hF.tape, hF.output, fun k hk => hF.keep k hk (fun ⟨b, o, p, g, _⟩ => by simp [Tr.get_lf] at g)⟩
  · cases h
end
end
end Go.Am
