/- The rule for loops that ask of each element is sound. -/
import Derived.Test.YtckboonjjlpogaaGreatSyL
import Derived.LoopNIn
set_option linter.unusedVariables false
set_option linter.unusedSimpArgs false
namespace Go.Am
open Go.RowKit
noncomputable section
variable [SemC]

omit [SemC] in
theorem nilD_spec {l : List Nat} (h : nilD l = true) : l = [] := by
  cases l with
  | nil => rfl
  | cons => simp [nilD] at h
omit [SemC] in
theorem zeroI_spec {v : Option Value} (h : zeroI v = true) : v = some (.int .i64 0) := by
  unfold zeroI at h
  split at h
  · rw [of_decide_eq_true h]
  · cases h

def LO (L : LP) (st : St) (tm1 : Tr Value) (I : Nat) (outs : List (AX × St)) (x : AX) (st' : St) : Prop :=
    (x = .normal ∧ ev3 st'.h.hp st'.h.nx (L.lt I) = some true ∧ ev3 st'.h.hp st'.h.nx (L.pred I) = some true ∧ (∃ sv, st'.tm.get L.slot = some sv ∧ nextI st'.h.hp I sv = true) ∧ sameTm tm1 st'.tm st.sz = true ∧ sameHp st.h.hp st'.h.hp I = true ∧ st'.df = [] ∧ st'.sz = st.sz) ∨
    (x ≠ .normal ∧ st'.h.nx < Tr.lim ∧ ∃ as c, rsvL st'.h.hp st'.h.nx L.args = some as ∧ (x, addFact st' L.tag as c) ∈ outs ∧
      ((c = true ∧ ev3 st'.h.hp st'.h.nx (L.lt I) = some false) ∨ (c = false ∧ ev3 st'.h.hp st'.h.nx (L.lt I) = some true ∧ ev3 st'.h.hp st'.h.nx (L.pred I) = some false)))

omit [SemC] in
theorem loopO_spec {L : LP} {st : St} {tm1 : Tr Value} {I : Nat} : ∀ {l : List (AX × St)} {outs : List (AX × St)}, loopO L st tm1 I l = some outs → ∀ x st', (x, st') ∈ l → LO L st tm1 I outs x st'
  | [], outs, _, x, st', hm => by simp at hm
  | r :: rest, outs, h, x, st', hm => by
    simp only [loopO] at h
    split at h
    · cases h
    · rename_i m hrest
      have later : (x, st') ∈ rest → (∀ y, y ∈ m → y ∈ outs) → LO L st tm1 I outs x st' := fun hm' hsub => (loopO_spec hrest x st' hm').imp id (fun ⟨a1, a2, as, c, a3, a4, a5⟩ => ⟨a1, a2, as, c, a3, hsub _ a4, a5⟩)
      split at h
      · rename_i hx
        split at h
        · rename_i sv h1 h2 h3
          split at h
          · rename_i h4 h5 h6
            split at h
            · rename_i h7 h8
              cases h
              rcases List.mem_cons.1 hm with e | hm
              · subst e
                exact .inl ⟨hx, h1, h2, ⟨sv, h3, h4⟩, h5, h6, nilD_spec h7, Nat.eq_of_beq_eq_true h8⟩
              · exact later hm fun _ h => h
            · cases h
          · cases h
        · cases h
      · rename_i hx
        split at h
        · rename_i as h1 h2 h3
          cases h
          rcases List.mem_cons.1 hm with e | hm
          · subst e
            exact .inr ⟨hx, blt_spec h1, as, true, h2, List.mem_cons_self, .inl ⟨rfl, h3⟩⟩
          · exact later hm fun _ h => List.mem_cons_of_mem _ h
        · rename_i as h1 h2 h3
          split at h
          · rename_i h4
            cases h
            rcases List.mem_cons.1 hm with e | hm
            · subst e
              exact .inr ⟨hx, blt_spec h1, as, false, h2, List.mem_cons_self, .inr ⟨rfl, h3, h4⟩⟩
            · exact later hm fun _ h => List.mem_cons_of_mem _ h
          · cases h
        · cases h

omit [SemC] in
theorem wrap_next {j n : Nat} (h : j < n) (hn : n < 9223372036854775808) : IntKind.wrap .i64 ((Int.ofNat j) + 1) = Int.ofNat (j + 1) := by
  have : (Int.ofNat j) + 1 = Int.ofNat (j + 1) := rfl
  rw [this, wrap_i64]
  have e : (Int.ofNat (j + 1)) % 18446744073709551616 = Int.ofNat (j + 1) := Int.emod_eq_of_lt (by simp; omega) (by simp; omega)
  rw [e, if_neg (by simp; omega)]

theorem nextI_sound {θ : Th} {H : AH} {w : World} (hR : RH θ H w) {I j n : Nat} (hI : θ I = some (idx j)) (hj : j < n) (hn : n < 9223372036854775808) {v v' : Value} (hv : VR θ v v') (h : nextI H.hp I v = true) : v' = nv (j + 1) := by
  have hc : VR θ (.chan (some I)) (.int .i64 (.ofNat j)) := .sym (p := idx j) hI rfl
  have hval : SemC.semf 2 [.int .i64 (.ofNat j), .int .i64 1] = nv (j + 1) := by rw [SemC.add, wrap_next hj hn]; rfl
  unfold nextI at h
  split at h
  · split at h
    · rename_i tag as kd hg
      split at h
      · rename_i ht
        have ht' := Nat.eq_of_beq_eq_true ht
        subst ht'
        obtain ⟨_, _, hor⟩ := RO.symAt ⟨hR.obj, hR.inj⟩ hg hv
        obtain ⟨args', hl, hval2⟩ := hor.resolve_left (by decide)
        have e : args' = [.int .i64 (.ofNat j), .int .i64 1] := sidL_det (fun _ _ _ _ => sid_det) h hl (.cons hc (.cons (.int _ _) .nil))
        rw [hval2, e, hval]
      · cases h
    · cases h
  · exact sid_det h hv (.ap (.cons hc (.cons (.int _ _) .nil)) hval)

theorem loop_soundY {P : Program} {T : Tbl} {kn : TypeId → List SK} {w0 : World} (hS : SemOK T kn w0) {E : Ev} (hE : EvOKY P w0 E) {L : LP} {N : Nat} (hL : L.ok N) {b : Code} {st : St} {outs : List (AX × St)} (h : loopY L N E b st = some outs)
    {θ : Th} {a : Act} {w : World} (hS' : RS θ st a w) (hI : IW w0 θ st.h w) : (Code.loop b).wpIn (FR none) 0 P (CP θ st.h w outs) a w := by
  unfold loopY at h
  split at h
  rotate_left
  · cases h
  rename_i z1 z2 z3 z4 z5 z6
  split at h
  rotate_left
  · cases h
  rename_i tag0 args0 e0 y1 y2 y3 hsl
  split at h
  rotate_left
  · cases h
  rename_i outs0 hE0
  have hz := zeroI_spec z1
  have hNI := Nat.le_of_ble_eq_true z2
  have hlim : st.h.nx + 2 < Tr.lim := blt_spec z3
  have hszl : st.sz < Tr.lim := blt_spec z4
  have hslot : L.slot < st.sz := blt_spec z5
  have hdf := nilD_spec z6
  have hslN : L.sl < N := blt_spec y1
  obtain ⟨psl, hpsl, hrd, _⟩ := hS'.h.obj _ _ hsl
  have hrd' : SemC.rd e0 psl.val := hrd
  obtain ⟨a0, n, c0, hval⟩ : ∃ a0 n c0, psl.val = .slice a0 n c0 := by
    rcases hS.form _ _ hrd' with e | ⟨a, e⟩ | ⟨b0, o0, n0, c0, e, _⟩
    · exact ⟨_, _, _, e⟩
    · exact ⟨_, _, _, e⟩
    · exact ⟨_, _, _, e⟩
  have hn : n < 9223372036854775808 := by rw [hval] at hrd'; exact hS.small _ _ _ _ hrd'
  have hdv : ∀ θ' : Th, θ' L.sl = some psl → dv θ' (.chan (some L.sl)) = .slice a0 n c0 := by
    intro θ' e; simp only [dv, e, hval]
  have hlen : ∀ θ' : Th, θ' L.sl = some psl → den SemC.semf θ' L.len = nv n := by
    intro θ' e
    simp only [LP.len, den, denL, hdv θ' e, hS.len]
  have hfresh : ∀ m, st.h.nx ≤ m → θ m = none := hS'.h.fresh
  have hdom : ∀ m p, θ m = some p → m < st.h.nx := fun m p hm => by
    rcases Nat.lt_or_ge m st.h.nx with h1 | h1
    · exact h1
    · rw [hfresh m h1] at hm; cases hm
  -- a round, and the rounds behind it
  have key : ∀ (d j : Nat) (a1 : Act) (w1 : World), j + d = n → RS θ ⟨keepT (codeM b) L.slot st.tm st.sz, st.sz, st.df, st.h⟩ a1 w1 → a1.tmps.getD L.slot undef = nv j → Fr θ st.h w θ st.h w1 →
      (∀ i, i < j → denB SemC.semf (upd θ st.h.nx (idx i)) (L.pred st.h.nx) = true) → Code.roundsIn (FR none) 0 P b (CP θ st.h w outs) (d + 1) a1 w1 := by
    intro d
    induction d with
    | zero => ?_
    | succ d ih => ?_
    all_goals
      intro j a1 w1 hj hRS hslv hF hall
      have U1 : Up θ st.h (upd θ st.h.nx (idx j)) ⟨st.h.hp.set st.h.nx (some (.sym 9 [] (.int .i64))), st.h.nx + 1⟩ :=
        Up.add hRS.h (show st.h.nx < Tr.lim by omega) (kd := .int .i64) (v := nv j) ⟨_, rfl⟩ rfl (.inl rfl)
      have R1 := (U1 w1 hRS.h).1
      have U2 : Up (upd θ st.h.nx (idx j)) ⟨st.h.hp.set st.h.nx (some (.sym 9 [] (.int .i64))), st.h.nx + 1⟩ (upd (upd θ st.h.nx (idx j)) (st.h.nx + 1) ⟨0, 0, 0, 0, .bool false⟩)
          ⟨(st.h.hp.set st.h.nx (some (.sym 9 [] (.int .i64)))).set (st.h.nx + 1) (some (.sym 1 [.chan (some st.h.nx), .int .i64 0] (.boolK false))), st.h.nx + 2⟩ :=
        Up.add R1 (show st.h.nx + 1 < Tr.lim by omega) (kd := .boolK false) (v := .bool false) rfl rfl
          (.inr ⟨[.int .i64 (.ofNat j), .int .i64 0], .cons (.sym (p := idx j) (upd_same _ _ _) rfl) (.cons (.int _ _) .nil), by
            rw [hS.lss]
            have : ¬ (Int.ofNat j < 0) := by simp
            rw [decide_eq_false this]⟩)
      have UJ := U1.trans U2
      have hjI : (upd (upd θ st.h.nx (idx j)) (st.h.nx + 1) ⟨0, 0, 0, 0, .bool false⟩) st.h.nx = some (idx j) := by
        rw [upd_ne _ _ _ (by omega), upd_same]
      have hExt := UJ.ext hRS.h
      have RSh : RS (upd (upd θ st.h.nx (idx j)) (st.h.nx + 1) ⟨0, 0, 0, 0, .bool false⟩) (headS L st (keepT (codeM b) L.slot st.tm st.sz)) a1 w1 := by
        refine ⟨?_, hRS.sz, hRS.df.mono hExt, (UJ w1 hRS.h).1⟩
        intro t v hv
        simp only [headS] at hv
        rw [Tr.get_set _ _ _ _ (Nat.lt_trans hslot hszl)] at hv
        split at hv
        · rename_i e; subst e; cases hv
          rw [hslv]
          exact .sym (p := idx j) hjI rfl
        · exact (hRS.tm t v hv).mono hExt
      have IWh := (hI.fr hF).fr (UJ w1 hRS.h).2
      rw [roundsIn_succ]
      refine wpIn_mono (hE.c b _ outs0 hE0 _ a1 w1 RSh IWh) ?_
      rintro e a' w' ⟨x, st', θ', hin, hax, hS1, hF1'⟩
      have FT : Fr θ st.h w θ' st'.h w' := hF.trans ((UJ w1 hRS.h).2.trans hF1')
      have hold : ∀ m, m < st.h.nx → θ' m = θ m := fun m hm => FT.old m hm
      have hI' : θ' st.h.nx = some (idx j) := by
        rw [hF1'.old st.h.nx (show st.h.nx < st.h.nx + 2 by omega)]; exact hjI
      have hsl' : θ' L.sl = some psl := by rw [hold _ (by omega)]; exact hpsl
      have ltval : ∀ c, ev3 st'.h.hp st'.h.nx (L.lt st.h.nx) = some c → decide (j < n) = c := by
        intro c hc
        have := ev3_sound hS1.h (L.lt st.h.nx) c hc
        rw [← this]
        have e1 : dv θ' (.chan (some st.h.nx)) = .int .i64 (.ofNat j) := by simp only [dv, hI']; rfl
        simp only [LP.lt, denB, den, denL, hlen θ' hsl', e1]
        rw [show nv n = .int .i64 (.ofNat n) from rfl, hS.lss]
        simp only [isT]
        by_cases hjn : j < n
        · rw [decide_eq_true hjn]
          exact (decide_eq_true (Int.ofNat_lt.2 hjn)).symm
        · rw [decide_eq_false hjn]
          exact (decide_eq_false (fun h => hjn (Int.ofNat_lt.1 h))).symm
      have cong : ∀ p, denB SemC.semf (upd θ' st.h.nx p) (L.pred st.h.nx) = denB SemC.semf (upd θ st.h.nx p) (L.pred st.h.nx) := fun p =>
        denB_congr (p := fun m => Nat.blt m (st.h.nx + 1)) (q := fun _ => true) (fun m hm => by
          have hm' := blt_spec hm
          by_cases e : m = st.h.nx
          · subst e; rw [upd_same, upd_same]
          · rw [upd_ne _ _ _ e, upd_ne _ _ _ e]; exact hold m (by omega)) (fun _ _ _ => rfl) _ y3
      have predval : ∀ c, ev3 st'.h.hp st'.h.nx (L.pred st.h.nx) = some c → denB SemC.semf (upd θ st.h.nx (idx j)) (L.pred st.h.nx) = c := by
        intro c hc
        rw [← ev3_sound hS1.h (L.pred st.h.nx) c hc]
        refine denB_congr (p := fun m => Nat.blt m (st.h.nx + 1)) (q := fun _ => true) (fun m hm => ?_) (fun _ _ _ => rfl) _ y3
        have hm' := blt_spec hm
        by_cases e : m = st.h.nx
        · subst e; rw [upd_same, hI']
        · rw [upd_ne _ _ _ e]; exact (hold m (by omega)).symm
      have leave : x ≠ .normal → CP θ st.h w outs e a' w' := by
        intro hx
        rcases loopO_spec h x st' hin with ⟨hx', _⟩ | ⟨_, hlx, as, c, has, hmem, hc⟩
        · exact absurd hx' hx
        · have hLv := hL θ' st.h.nx n hNI ⟨a0, c0, hdv θ' hsl'⟩
          have hdc : decide (∀ i, i < n → denB SemC.semf (upd θ' st.h.nx (idx i)) (L.pred st.h.nx) = true) = c := by
            rcases hc with ⟨rfl, hlt⟩ | ⟨rfl, hlt, hp⟩
            · have hnj := of_decide_eq_false (ltval _ hlt)
              refine decide_eq_true fun i hi => ?_
              rw [cong]
              exact hall i (by omega)
            · have hnj := of_decide_eq_true (ltval _ hlt)
              refine decide_eq_false fun hh => ?_
              have := hh j hnj
              rw [cong, predval _ hp] at this
              cases this
          rw [hdc] at hLv
          have UF := Up.add hS1.h hlx (tag := L.tag) (args := as) (kd := .boolK c) (v := .bool c) rfl rfl (.inr ⟨_, rsvL_sound hS1.h _ _ has, hLv.symm⟩)
          obtain ⟨r1, r2⟩ := UF w' hS1.h
          exact ⟨x, _, _, hmem, hax, hS1.later r1 r2, FT.trans r2⟩
      rcases loopO_spec h x st' hin with ⟨hx, q1, q2, ⟨sv, q3, q4⟩, q5, q6, q7, q8⟩ | ⟨hx, _⟩
      rotate_left
      · have hcp := leave hx
        cases e with
        | normal => cases x <;> first | exact absurd rfl hx | (simp only [AXR] at hax)
        | _ => exact hcp
      subst hx
      cases e <;> simp only [AXR] at hax
      have hjn := of_decide_eq_true (ltval _ q1)
    · omega
    · have hExt' : Ext θ θ' := FT.ext hfresh
      refine ih (j + 1) a' w' (by omega) ⟨?_, ?_, ?_, ?_⟩ ?_ ?_ ?_
      · intro t v hv
        obtain ⟨k1, k2, k3, k4⟩ := keepT_get hszl t v hv
        exact VR.backD hExt' k3 (hRS.tm t v hv) (hS1.tm t v (sameTm_spec q5 t v k4 hv))
      · exact hS1.sz.trans q8
      · have := hS1.df
        rw [q7] at this
        show DR θ st.df a'.defers
        rw [hdf]
        generalize a'.defers = z at this ⊢
        cases this; exact .nil
      · refine ⟨⟨?_, hS'.h.inj⟩, hfresh⟩
        intro k o hg
        obtain ⟨p, hp, hr⟩ := hRS.h.obj k o hg
        refine ⟨p, hp, ?_⟩
        cases hw : o.wr with
        | false => exact hr.monoS (Ext.refl θ) hw
        | true =>
          obtain ⟨g1, g2⟩ := sameHp_spec q6 k o (hdom k p hp) hg hw
          obtain ⟨p', hp', hr'⟩ := hS1.h.obj k o g1
          rw [hold k (hdom k p hp), hp] at hp'
          cases hp'
          exact ORel.backD hExt' g2 hr hr'
      · exact nextI_sound hS1.h hI' hjn hn (hS1.tm _ _ q3) q4
      · exact ⟨FT.size, FT.os, FT.tape, FT.output, FT.keep, fun _ _ h => h, fun _ _ => rfl, Nat.le_refl _⟩
      · intro i hi
        rcases Nat.lt_or_ge i j with h1 | h1
        · exact hall i h1
        · have : i = j := by omega
          subst this
          exact predval _ q2
  refine wpIn_loop_rounds (n + 1) (key n 0 a w (by omega) ⟨?_, hS'.sz, hS'.df, hS'.h⟩ ?_ (Fr.refl _ _ _) (fun i hi => by omega))
  · intro t v hv
    exact hS'.tm t v (keepT_get hszl t v hv).1
  · have := hS'.tm _ _ hz
    generalize a.tmps.getD L.slot undef = z at this
    cases this; rfl
end
end Go.Am
