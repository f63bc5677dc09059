/- The symbolic machine: regions and codes; its soundness. -/
import Derived.Test.YtckboonjjlpogaaGreatSyM
set_option linter.unusedVariables false
set_option linter.unusedSimpArgs false
namespace Go.Am
open Go.RowKit
noncomputable section
variable [SemC]

/-! ### Codes -/
def E0 : Ev := ⟨fun _ _ _ => none, fun _ _ _ => none⟩
def lexY (T : Tbl) (kn : TypeId → List SK) (B : Tab) (ops : Array Oper) (st : St) : Option (List (AX × St)) :=
  match Region.lexB .any ops with
  | true => opsY (opD T kn B) ops st.sz st.df ops.toList st.tm st.h
  | false => none
/-- The loop rule that a function's run may use: the loop, and the count of its arguments' cells. -/
def loopA (LO : Option (LP × Nat)) (E : Ev) (b : Code) (st : St) : Option (List (AX × St)) :=
  match LO with
  | some r => match loopY r.1 r.2 E b st with
    | some o => some o
    | none => evRounds E b false 1000 st
  | none => evRounds E b false 1000 st
def LOok (LO : Option (LP × Nat)) : Prop := ∀ r, LO = some r → r.1.ok r.2
def stepY (T : Tbl) (kn : TypeId → List SK) (B : Tab) (LO : Option (LP × Nat)) (E : Ev) (c : Code) (st : St) : Option (List (AX × St)) :=
  match c with
  | .skip => some [(.normal, st)]
  | .label _ => some [(.normal, st)]
  | .region _ ops d => match d with
    | true => match lexY T kn B ops st with
      | some r => some r
      | none => evD T E0 ops st
    | false => opsY (opP T kn B) ops st.sz st.df ops.toList st.tm st.h
  | .seq x y => bnd (E.c x false st) fun r => match r.1 with
    | .normal => E.c y false r.2
    | _ => some [r]
  | .cond x t e => match oev st.tm x with
    | some v => bnd (forkB st.h v) fun r => match r.1 with
      | true => E.c t false ⟨st.tm, st.sz, st.df, r.2⟩
      | false => E.c e false ⟨st.tm, st.sz, st.df, r.2⟩
    | none => none
  | .block id b => match E.c b false st with
    | some l => some (l.map (blockR id))
    | none => none
  | .loop b => loopA LO E b st
  | .exit id => some [(.exit id, st)]
  | .ret => some [(.ret, st)]
  | _ => none
def evY (T : Tbl) (kn : TypeId → List SK) (B : Tab) (LO : Option (LP × Nat)) : Nat → Ev
  | 0 => ⟨fun _ _ _ => none, fun _ _ _ => none⟩
  | n + 1 => ⟨fun c _ st => stepY T kn B LO (evY T kn B LO n) c st, fun _ _ _ => none⟩

section
variable {P : Program} {T : Tbl} (hT : TblOK P T) (hfn : FnOK T) {kn : TypeId → List SK} {w0 : World} (hS : SemOK T kn w0) {B : Tab} (hB : TabOK P w0 B)

include hT hfn hS hB in
theorem opD_sound {θ : Th} {H : AH} {W : World} (hW : Below w0.heap.size w0 W) (hR : RH θ H W) {ev : Operand → Option Value} {ρ : Operand → Value} {o : Oper} (hev : ∀ x ∈ o.op.operands, ∀ v, ev x = some v → VR θ v (ρ x)) {outs : List (Value × AH)}
    (h : opD T kn B ev H o.op = some outs) : ∃ v', (∀ w, Below W.heap.size W w → QR P o ρ w v') ∧ FQ θ H outs v' := by
  unfold opD at h
  split at h
  · rename_i r hr
    cases h
    exact opQ_sound hT hS hB hW hR hfn hev hr
  · split at h
    · rename_i v hv
      split at h
      · rename_i hd
        cases h
        obtain ⟨v', h1, h2⟩ := pev_sound (P := P) (o := o) (ρ := ρ) hT hev ⟨hR.obj, hR.inj⟩ hv
        refine ⟨v', fun w hw => .inl ?_, v, H, θ, List.mem_singleton.2 rfl, h2, Up.refl _ _⟩
        obtain ⟨hRw, _⟩ := hR.below hw
        obtain ⟨v2, h3, h4⟩ := pev_sound (P := P) (o := o) (ρ := ρ) hT hev ⟨hRw.obj, hRw.inj⟩ hv
        rw [h3, sid_det hd h4 h2]
      · cases h
    · cases h

include hT hfn hS hB in
theorem opP_sound {θ : Th} {H : AH} {w : World} (hI : IW w0 θ H w) (hR : RH θ H w) {ev : Operand → Option Value} {a : Act} {o : Oper} (hev : ∀ x ∈ o.op.operands, ∀ v, ev x = some v → VR θ v (a.eval x)) {outs : List (Value × AH)}
    (h : opP T kn B ev H o.op = some outs) (next : Act → World → Prop) (Q : Exit → Act → World → Prop) (hn : ∀ v' w', FP θ H w outs v' w' → next (a.put o.dst v') w') : o.wpIn (FR none) 0 P a w next Q := by
  unfold opP at h
  split at h
  · rename_i r hr
    cases h
    obtain ⟨v', h1, h2⟩ := opQ_sound hT hS hB hI.below hR hfn hev hr
    rcases h1 w (Below.refl _ _) with h1 | ⟨f, args, h1, h3⟩
    · refine wp_of_run (by intro c e; rw [e] at hr; simp [opQ] at hr) ?_
      rw [h1]
      exact hn _ _ (h2.fp hR)
    · refine wp_of_run (by intro c e; rw [e] at hr; simp [opQ] at hr) ?_
      rw [h1]
      refine ⟨fun h => by simp [FR, Fence.wide] at h, ?_⟩
      have h4 : CallsIn (FR none) 0 P f args w fun e w' => e = .returned v' ∧ Below w.heap.size w w' := (callsIn_wide (n := 0)).2 h3
      refine CallsIn.mono (F := FR none) h4 ?_
      rintro e w' ⟨rfl, hb⟩
      refine hn _ _ ?_
      obtain ⟨v, H', θ', q1, q2, q3⟩ := h2
      obtain ⟨r1, r2⟩ := q3 w hR
      obtain ⟨s1, s2⟩ := r1.below hb
      exact ⟨v, H', θ', q1, q2, s1, r2.trans s2⟩
  · split at h
    · obtain ⟨v, H', v', w', θ', nx, h1, h2, h3, h4, h5, h6⟩ := eev_sound hT hev hR h
      refine wp_of_run (no_defer_eev h) ?_
      rw [h2]
      have := hn v' w' ⟨v, H', θ', h1, h4, h5, h6⟩
      cases nx <;> simp only [gives] at h3
      · subst h3; exact this
      · subst h3; exact this
    · split at h
      · rename_i v hv
        cases h
        obtain ⟨v', h1, h2⟩ := pev_sound (P := P) (o := o) (ρ := a.eval) hT hev ⟨hR.obj, hR.inj⟩ hv
        refine wp_of_run (no_defer_pev hv) ?_
        rw [h1]
        exact hn _ _ ⟨v, H, θ, List.mem_singleton.2 rfl, h2, hR, Fr.refl _ _ _⟩
      · rename_i ao mk hv
        split at h
        · rename_i hlim
          cases h
          have hlim' := blt_spec hlim
          obtain ⟨x, p, u, h1, h2, h3, h4⟩ := pev_sound (P := P) (o := o) (ρ := a.eval) hT hev ⟨hR.obj, hR.inj⟩ hv
          refine wp_of_run (no_defer_pev hv) ?_
          rw [h3]
          obtain ⟨hR2, hF⟩ := alloc_ok (ao := ao) hR hlim' h1 (fun θ' hE hb => (h4 _ θ' hE hb).2)
          exact hn _ _ ⟨_, _, _, List.mem_singleton.2 rfl, (h4 H.nx _ (hF.ext hR.fresh) (upd_same _ _ _)).1, hR2, hF⟩
        · cases h
      · cases h

omit [SemC] in
theorem eqL_mem {want : Bool} {l : List (Bool × AH)} {b : Bool} {H : AH} (h : (b, H) ∈ l) : (b == want, H) ∈ eqL want l :=
  List.mem_map_of_mem (f := fun r : Bool × AH => (r.1 == want, r.2)) h
theorem guardY_sound {θ : Th} {ops : Array Oper} {tm : Tr Value} {H : AH} {w : World} {a : Act} (ht : TR θ tm a.tmps) (hR : RH θ H w) {o : Oper} {l : List (Bool × AH)} (h : guardY ops tm H o = some l) :
    ∃ b H', (b, H') ∈ l ∧ Region.wanted o (yielded ops a.tmps) = b ∧ Up θ H θ H' := by
  unfold guardY at h
  unfold Region.wanted
  split at h
  · rename_i hg; cases h; rw [hg]; exact ⟨true, H, List.mem_singleton.2 rfl, rfl, Up.refl _ _⟩
  · rename_i j want hg
    rw [hg]
    split at h
    · rename_i oj hj
      split at h
      · rename_i d hd
        split at h
        · rename_i v hv
          have hvr := ht d _ hv
          split at h
          · rename_i vs
            cases h
            refine ⟨false, H, List.mem_singleton.2 rfl, ?_, Up.refl _ _⟩
            have hget : ∀ y, a.tmps[d]? = some y → ∃ q, y = .tuple q := by
              intro y hc
              rw [Array.getD_eq_getD_getElem?, hc] at hvr
              simp only [Option.getD_some] at hvr
              cases hvr; exact ⟨_, rfl⟩
            simp only [yielded, hj, Option.bind_some, hd]
            cases hc : a.tmps[d]? with
            | none => rfl
            | some y => obtain ⟨q, rfl⟩ := hget y hc; rfl
          · split at h
            · rename_i l0 hl
              cases h
              obtain ⟨b, H', hm, he, hU⟩ := forkB_sound hR hvr hl
              refine ⟨_, H', eqL_mem hm, ?_, hU⟩
              have hget : a.tmps[d]? = some (.bool b) := by
                rw [Array.getD_eq_getD_getElem?] at he
                cases hc : a.tmps[d]? with
                | none => rw [hc] at he; simp [undef] at he
                | some y => rw [hc] at he; simp at he; rw [he]
              simp only [yielded, hj, Option.bind_some, hd, hget]
              cases b <;> cases want <;> rfl
            · cases h
        · cases h
      · cases h
    · cases h

include hT hfn hS hB in
theorem opsP_sound (ops : Array Oper) (Q : Exit → Act → World → Prop) :
    ∀ (l : List Oper) (k : Nat) (st : St) (outs : List (AX × St)) (θ : Th) (a : Act) (w : World), (∀ j, l[j]? = ops[k + j]?) → opsY (opP T kn B) ops st.sz st.df l st.tm st.h = some outs → RS θ st a w → IW w0 θ st.h w →
      (∀ st' θ' a' w', (AX.normal, st') ∈ outs → RS θ' st' a' w' → Fr θ st.h w θ' st'.h w' → Q .normal a' w') →
      wpOpsIn (FR none) 0 P ops Q (List.range' k l.length) a w
  | [], k, st, outs, θ, a, w, _, h, hS', hI, hQ => by
    simp only [opsY, Option.some.injEq] at h
    subst h
    exact hQ st θ a w (by simp) hS' (Fr.refl _ _ _)
  | o :: rest, k, st, outs, θ, a, w, hl, h, hS', hI, hQ => by
    have ho : ops[k]? = some o := by have := hl 0; simpa using this.symm
    have hl' : ∀ j, rest[j]? = ops[k + 1 + j]? := fun j => by have := hl (j + 1); rw [show k + 1 + j = k + (j + 1) by omega]; simpa using this
    simp only [List.length_cons, List.range'_succ, wpOpsIn, ho]
    simp only [opsY] at h
    obtain ⟨lg, hlg, hmem⟩ := bnd_mem h
    obtain ⟨b, H1, hb1, hw, hU⟩ := guardY_sound hS'.tm hS'.h hlg
    obtain ⟨m, hm, hsub⟩ := hmem _ hb1
    obtain ⟨hR1, hF1⟩ := hU w hS'.h
    rw [hw]
    cases b with
    | false =>
      simp only at hm
      simp only [Bool.false_eq_true, if_false]
      refine ⟨fun _ _ => trivial, ?_⟩
      split at hm
      · rename_i tm' hp
        have hS2 : RS θ ⟨st.tm, st.sz, st.df, H1⟩ a w := hS'.later hR1 hF1
        exact opsP_sound ops Q rest (k + 1) ⟨tm', st.sz, st.df, H1⟩ m θ _ w hl' hm (hS2.put (st := ⟨st.tm, st.sz, st.df, H1⟩) (.tuple .nil) hp) (hI.fr hF1)
          (fun st' θ2 a' w2 h1 h2 h3 => hQ st' θ2 a' w2 (hsub _ h1) h2 (hF1.trans h3))
      · cases hm
    | true =>
      simp only at hm
      simp only [if_true]
      obtain ⟨lo, hlo, hmem2⟩ := bnd_mem hm
      refine opP_sound hT hfn hS hB (hI.fr hF1) hR1 (fun x _ v hv => oev_sound hS'.tm hv) hlo _ _ ?_
      rintro v' w' ⟨v, H', θ', hin, hv, hR, hF⟩
      obtain ⟨m2, hm2, hsub2⟩ := hmem2 _ hin
      simp only at hm2
      split at hm2
      · rename_i tm' hp
        have hS2 : RS θ' ⟨st.tm, st.sz, st.df, H'⟩ a w' := hS'.later hR (hF1.trans hF)
        exact opsP_sound ops Q rest (k + 1) ⟨tm', st.sz, st.df, H'⟩ m2 θ' _ w' hl' hm2 (hS2.put (st := ⟨st.tm, st.sz, st.df, H'⟩) hv hp) ((hI.fr hF1).fr hF)
          (fun st' θ2 a' w2 h1 h2 h3 => hQ st' θ2 a' w2 (hsub _ (hsub2 _ h1)) h2 ((hF1.trans hF).trans h3))
      · cases hm2

include hT hfn hS hB in
theorem opsD_sound (ops : Array Oper) {W : World} (hW : Below w0.heap.size w0 W) (Q : Act → Prop) :
    ∀ (l : List Oper) (st : St) (outs : List (AX × St)) (θ : Th) (a : Act), opsY (opD T kn B) ops st.sz st.df l st.tm st.h = some outs → RS θ st a W →
      (∀ st' θ' a', (AX.normal, st') ∈ outs → RS θ' st' a' W → Up θ st.h θ' st'.h → Q a') →
      wpQuietIn (FR none) 0 P ops (fun w => Below W.heap.size W w) Q l a
  | [], st, outs, θ, a, h, hS', hQ => by
    simp only [opsY, Option.some.injEq] at h
    subst h
    exact hQ st θ a (by simp) hS' (Up.refl _ _)
  | o :: rest, st, outs, θ, a, h, hS', hQ => by
    simp only [opsY] at h
    obtain ⟨lg, hlg, hmem⟩ := bnd_mem h
    obtain ⟨b, H1, hb1, hw, hU⟩ := guardY_sound hS'.tm hS'.h hlg
    obtain ⟨m, hm, hsub⟩ := hmem _ hb1
    obtain ⟨hR1, hF1⟩ := hU W hS'.h
    refine ⟨fun _ _ _ _ => trivial, ?_⟩
    rw [hw]
    cases b with
    | false =>
      simp only at hm
      simp only [Bool.false_eq_true, if_false]
      split at hm
      · rename_i tm' hp
        have hS2 : RS θ ⟨st.tm, st.sz, st.df, H1⟩ a W := hS'.later hR1 hF1
        exact opsD_sound ops hW Q rest ⟨tm', st.sz, st.df, H1⟩ m θ _ hm (hS2.put (st := ⟨st.tm, st.sz, st.df, H1⟩) (.tuple .nil) hp)
          (fun st' θ2 a' h1 h2 h3 => hQ st' θ2 a' (hsub _ h1) h2 (hU.trans h3))
      · cases hm
    | true =>
      simp only at hm
      simp only [if_true]
      obtain ⟨lo, hlo, hmem2⟩ := bnd_mem hm
      obtain ⟨v', hq, v, H', θ', hin, hv, hU2⟩ := opD_sound hT hfn hS hB hW hR1 (ρ := a.eval) (o := o) (fun x _ v hv => oev_sound hS'.tm hv) hlo
      refine ⟨v', fun w hwb => ?_, ?_⟩
      · unfold Oper.quietAtIn
        rcases hq w hwb with h1 | ⟨f, args, h1, h3⟩
        · rw [h1]; exact ⟨rfl, rfl⟩
        · rw [h1]
          refine ⟨rfl, fun h => by simp [FR, Fence.wide] at h, ?_⟩
          have h4 : CallsIn (FR none) 0 P f args w fun e w' => e = .returned v' ∧ Below w.heap.size w w' := (callsIn_wide (n := 0)).2 h3
          refine CallsIn.mono (F := FR none) h4 ?_
          rintro e w' ⟨rfl, hb⟩
          exact ⟨rfl, hwb.trans (hb.mono hwb.size)⟩
      · obtain ⟨m2, hm2, hsub2⟩ := hmem2 _ hin
        simp only at hm2
        split at hm2
        · rename_i tm' hp
          obtain ⟨hR, hF⟩ := hU2 W hR1
          have hS2 : RS θ' ⟨st.tm, st.sz, st.df, H'⟩ a W := hS'.later hR (hF1.trans hF)
          exact opsD_sound ops hW Q rest ⟨tm', st.sz, st.df, H'⟩ m2 θ' _ hm2 (hS2.put (st := ⟨st.tm, st.sz, st.df, H'⟩) hv hp)
            (fun st' θ2 a' h1 h2 h3 => hQ st' θ2 a' (hsub _ (hsub2 _ h1)) h2 ((hU.trans hU2).trans h3))
        · cases hm2

section
variable {E : Ev} (hE : EvOKY P w0 E)
include hE
theorem seq_soundY {x y : Code} {st : St} {outs : List (AX × St)} {θ : Th} {a : Act} {w : World} (hS : RS θ st a w) (hI : IW w0 θ st.h w)
    (h : (bnd (E.c x false st) fun r => match r.1 with
      | .normal => E.c y false r.2
      | _ => some [r]) = some outs) : (Code.seq x y).wpIn (FR none) 0 P (CP θ st.h w outs) a w := by
  obtain ⟨l, hl, hmem⟩ := bnd_mem h
  refine wpIn_seq (wpIn_mono (hE.c x st l hl θ a w hS hI) ?_)
  rintro e a1 w1 ⟨x1, st1, θ1, hin, hax, hS1, hF1⟩
  obtain ⟨m, hm, hsub⟩ := hmem _ hin
  cases x1 <;> cases e <;> simp only [AXR] at hax <;> simp only at hm
  · exact wpIn_mono (hE.c y st1 m hm θ1 a1 w1 hS1 (hI.fr hF1)) fun e a w hcp => hcp.next hF1 hsub
  · cases hm
    exact ⟨_, st1, θ1, hsub _ (List.mem_singleton.2 rfl), hax, hS1, hF1⟩
  · cases hm
    exact ⟨_, st1, θ1, hsub _ (List.mem_singleton.2 rfl), trivial, hS1, hF1⟩
theorem rounds_soundY {b : Code} : ∀ (n : Nat) {st : St} {outs : List (AX × St)} {θ : Th} {a : Act} {w : World} (_ : RS θ st a w) (_ : IW w0 θ st.h w)
    (_ : evRounds E b false n st = some outs) {Q : Exit → Act → World → Prop} (_ : ∀ e a' w', CP θ st.h w outs e a' w' → Q e a' w'), Code.roundsIn (FR none) 0 P b Q n a w
  | 0, _, _, _, _, _, _, _, h, _, _ => by simp [evRounds] at h
  | n + 1, st, outs, θ, a, w, hS, hI, h, Q, hQ => by
    simp only [evRounds] at h
    obtain ⟨l, hl, hmem⟩ := bnd_mem h
    rw [roundsIn_succ]
    refine wpIn_mono (hE.c b st l hl θ a w hS hI) ?_
    rintro e a1 w1 ⟨x1, st1, θ1, hin, hax, hS1, hF1⟩
    obtain ⟨m, hm, hsub⟩ := hmem _ hin
    cases x1 <;> cases e <;> simp only [AXR] at hax <;> simp only at hm
    · exact rounds_soundY n hS1 (hI.fr hF1) hm fun e a' w' hcp => hQ _ _ _ (hcp.next hF1 hsub)
    · cases hm
      exact hQ _ _ _ ⟨_, st1, θ1, hsub _ (List.mem_singleton.2 rfl), hax, hS1, hF1⟩
    · cases hm
      exact hQ _ _ _ ⟨_, st1, θ1, hsub _ (List.mem_singleton.2 rfl), trivial, hS1, hF1⟩
theorem block_soundY {b : Code} {id : Nat} {st : St} {l : List (AX × St)} {θ : Th} {a : Act} {w : World} (hS : RS θ st a w) (hI : IW w0 θ st.h w)
    (h : E.c b false st = some l) : (Code.block id b).wpIn (FR none) 0 P (CP θ st.h w (l.map (blockR id))) a w := by
  refine wpIn_block (wpIn_mono (hE.c b st l h θ a w hS hI) ?_)
  rintro e a1 w1 ⟨x1, st1, θ1, hin, hax, hS1, hF1⟩
  have hin' := List.mem_map_of_mem (f := blockR id) hin
  cases x1 with
  | normal =>
    cases e <;> simp only [AXR] at hax
    exact ⟨_, st1, θ1, hin', trivial, hS1, hF1⟩
  | exit j =>
    cases e <;> simp only [AXR] at hax
    subst hax
    simp only [Exit.inBlock]
    simp only [blockR] at hin'
    split at hin'
    · rename_i hb
      rw [if_pos (Nat.eq_of_beq_eq_true hb)]
      exact ⟨_, st1, θ1, hin', trivial, hS1, hF1⟩
    · rename_i hb
      rw [if_neg (fun e => by rw [e] at hb; simp at hb)]
      exact ⟨_, st1, θ1, hin', rfl, hS1, hF1⟩
  | ret =>
    cases e <;> simp only [AXR] at hax
    exact ⟨_, st1, θ1, hin', trivial, hS1, hF1⟩
end

include hT hfn hS hB in
theorem stepY_sound {LO : Option (LP × Nat)} (hLO : LOok LO) {E : Ev} (hE : EvOKY P w0 E) {c : Code} {st : St} {outs : List (AX × St)} (h : stepY T kn B LO E c st = some outs) {θ : Th} {a : Act} {w : World} (hS' : RS θ st a w) (hI : IW w0 θ st.h w) :
    c.wpIn (FR none) 0 P (CP θ st.h w outs) a w := by
  cases c with
  | skip => simp only [stepY] at h; cases h; exact wpIn_skip ⟨_, st, θ, List.mem_singleton.2 rfl, trivial, hS', Fr.refl _ _ _⟩
  | label l => simp only [stepY] at h; cases h; exact wpIn_label ⟨_, st, θ, List.mem_singleton.2 rfl, trivial, hS', Fr.refl _ _ _⟩
  | exit id => simp only [stepY] at h; cases h; exact wpIn_exit ⟨_, st, θ, List.mem_singleton.2 rfl, rfl, hS', Fr.refl _ _ _⟩
  | ret => simp only [stepY] at h; cases h; exact wpIn_ret ⟨_, st, θ, List.mem_singleton.2 rfl, trivial, hS', Fr.refl _ _ _⟩
  | region id ops d =>
    simp only [stepY] at h
    cases d with
    | true =>
      simp only at h
      split at h
      · rename_i r hr
        cases h
        have hlex : Region.lexB .any ops = true ∧ opsY (opD T kn B) ops st.sz st.df ops.toList st.tm st.h = some outs := by
          unfold lexY at hr
          split at hr
          · rename_i hlex; exact ⟨hlex, hr⟩
          · cases hr
        obtain ⟨hlex, hr⟩ := hlex
        refine wpIn_region_quiet (C := fun w' => Below w.heap.size w w') rfl hT.mixed hlex (Below.refl _ _).drew ?_
        refine opsD_sound hT hfn hS hB ops hI.below _ ops.toList st outs θ a hr hS' ?_
        intro st' θ' a' h1 h2 h3 w' hw'
        obtain ⟨r1, r2⟩ := h3 w hS'.h
        obtain ⟨s1, s2⟩ := r1.below hw'
        have h2' : RS θ' st' a' w' := ⟨h2.tm, h2.sz, h2.df, s1⟩
        exact ⟨_, st', θ', h1, trivial, h2', r2.trans s2⟩
      · have hE0 : EvOK P E0 := ⟨fun c inr st outs h => by simp [E0] at h, fun fv args H outs h => by simp [E0] at h⟩
        exact evD_sound hT hE0 none h hS'
    | false =>
      refine wpIn_region ?_
      have := opsP_sound hT hfn hS hB ops (CP θ st.h w outs) ops.toList 0 st outs θ a w (fun j => by simp) h hS' hI
        (fun st' θ' a' w' h1 h2 h3 => ⟨_, st', θ', h1, trivial, h2, h3⟩)
      rw [Array.length_toList, ← List.range_eq_range'] at this
      exact this
  | seq x y => exact seq_soundY hE hS' hI h
  | cond x t e =>
    simp only [stepY] at h
    split at h
    · rename_i v hx
      obtain ⟨l, hl, hmem⟩ := bnd_mem h
      obtain ⟨b, H1, hb, he, hU⟩ := forkB_sound hS'.h (oev_sound hS'.tm hx) hl
      obtain ⟨m, hm, hsub⟩ := hmem _ hb
      obtain ⟨hR1, hF1⟩ := hU w hS'.h
      have hS2 : RS θ ⟨st.tm, st.sz, st.df, H1⟩ a w := hS'.later hR1 hF1
      cases b with
      | true =>
        simp only at hm
        exact wpIn_cond_true he (wpIn_mono (hE.c _ _ _ hm θ a w hS2 (hI.fr hF1)) fun e a w hcp => hcp.next hF1 hsub)
      | false =>
        simp only at hm
        exact wpIn_cond_false he (wpIn_mono (hE.c _ _ _ hm θ a w hS2 (hI.fr hF1)) fun e a w hcp => hcp.next hF1 hsub)
    · cases h
  | block id b =>
    simp only [stepY] at h
    split at h
    · rename_i l hl; cases h; exact block_soundY hE hS' hI hl
    · cases h
  | loop b =>
    simp only [stepY] at h
    unfold loopA at h
    split at h
    · rename_i r
      split at h
      · rename_i o ho
        cases h
        exact loop_soundY hS hE (hLO r rfl) ho hS' hI
      · exact wpIn_loop_rounds 1000 (rounds_soundY hE 1000 hS' hI h fun _ _ _ h => h)
    · exact wpIn_loop_rounds 1000 (rounds_soundY hE 1000 hS' hI h fun _ _ _ h => h)
  | rangeFunc g ps asg body => simp [stepY] at h
  | scope b => simp [stepY] at h
  | goto l => simp [stepY] at h
  | refuse s => simp [stepY] at h

include hT hfn hS hB in
theorem evY_ok {LO : Option (LP × Nat)} (hLO : LOok LO) : ∀ n, EvOKY P w0 (evY T kn B LO n)
  | 0 => ⟨fun c st outs h => by simp [evY] at h⟩
  | n + 1 => ⟨fun c st outs h θ a w hS' hI => stepY_sound hT hfn hS hB hLO (evY_ok hLO n) h hS' hI⟩

/-- A call of a function, run by the machine. -/
theorem evCall_soundY (hT : TblOK P T) {E : Ev} (hE : EvOKY P w0 E) {f : FuncId} {fn : Func} (hf : P.funcs[f]? = some fn) {args args' : List Value} {H : AH} {θ : Th} {w : World} {outs : List (Value × AH)} (ha : LR θ args args') (hR : RH θ H w) (hI : IW w0 θ H w)
    (h : evCall T E fn args H = some outs) : Calls P f ⟨args'⟩ w fun e w' => ∃ v', e = .returned v' ∧ FP θ H w outs v' w' := by
  refine (callsIn_wide (n := 0)).1 (show CallsIn (FR none) 0 P f ⟨args'⟩ w _ from ?_)
  unfold evCall at h
  split at h
  · rename_i c hb hlim
    have hlim' := blt_spec hlim
    obtain ⟨l, hl, hmem⟩ := bnd_mem h
    refine callsIn_of_wp_marks hf hb trivial (wpIn_mono (hE.c c _ l hl θ _ w ?_ hI) ?_)
    · refine ⟨?_, ?_, .nil, hR⟩
      · intro t v hv
        simp only at hv
        rw [Tr.get_ofListAt _ _ _ _ (by simpa using hlim')] at hv
        split at hv
        · rename_i ht
          rw [Nat.sub_zero] at hv
          obtain ⟨v', h1, h2⟩ := ha.get t v hv
          have hlt : t < args'.length := (List.getElem?_eq_some_iff.1 h1).1
          have : ((⟨args'⟩ : Array Value) ++ Array.replicate (fn.ntmps - (⟨args'⟩ : Array Value).size) undef).getD t undef = v' := by
            simp only [Array.getD_eq_getD_getElem?]
            rw [Array.getElem?_append_left (by simpa using hlt)]
            simp [h1]
          rw [this]; exact h2
        · simp [Tr.get_lf] at hv
      · simp [ha.length]
    · rintro e a1 w1 ⟨x1, st1, θ1, hin, hax, hS1, hF1⟩
      obtain ⟨m, hm, hsub⟩ := hmem _ hin
      exact leave_sound hT hm hS1 hax fun v' w' hfp => ⟨v', rfl, hfp.next hF1 hsub⟩
  · cases h
end
end
end Go.Am
