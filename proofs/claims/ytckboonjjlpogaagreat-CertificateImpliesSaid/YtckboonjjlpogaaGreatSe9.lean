/- CertificateImplies: arguments that can be read are of the sorts. -/
import Derived.Test.YtckboonjjlpogaaGreatSe8
set_option linter.unusedVariables false
set_option linter.unusedSimpArgs false
namespace Go.Am
open Go.RowKit
noncomputable section
section
variable {H : Type} {enc : TypeId × Value → H} {P : Program} {T : Tbl} (hT : TblOK P T) {w : World}
theorem pairsA_get (e c : Nat) : ∀ (n i : Nat) x, x ∈ pairsA e c i n → ∃ j, j < i + n ∧ i ≤ j ∧ x = (j * c, e)
  | 0, i, x, h => by simp [pairsA] at h
  | n + 1, i, x, h => by
    simp only [pairsA, List.mem_cons] at h
    rcases h with rfl | h
    · exact ⟨i, by omega, Nat.le_refl _, rfl⟩
    · obtain ⟨j, h1, h2, h3⟩ := pairsA_get e c n (i + 1) x h
      exact ⟨j, by omega, by omega, h3⟩
theorem map_some {α β : Type} {o : Option α} {g : α → β} {y : β} (h : o.map g = some y) : ∃ x, o = some x := by
  cases o with
  | none => cases h
  | some x => exact ⟨x, rfl⟩

include hT in
theorem trod_sorts : ∀ (n f : Nat) (t : TypeId) (cs : List Value) (ks : List SK) (y), TR0 enc P w f t cs = some y → sortsT T n t = some ks → KLR (RT enc P w f) ks cs
  | 0, f, t, cs, ks, y, _, h => by simp [sortsT] at h
  | n + 1, 0, t, cs, ks, y, hy, h => by simp [TR0, DataW.trod] at hy
  | n + 1, f + 1, t, cs, ks, y, hy, h => by
    have hy0 := hy
    simp only [sortsT] at h
    split at h
    · rename_i i d ht
      have hu := (hT.ty _ _ _ ht).2
      have hc := cellsOf_of hT ht
      simp only [TR0, DataW.trod, hu] at hy
      have whole : ∀ {ks' : List SK}, Nat.beq i.size ks'.length = true → cs.length = P.cellsOf t → KLR (RT enc P w (f + 1)) ks' ((cs.drop 0).take ks'.length) → KLR (RT enc P w (f + 1)) ks' cs := by
        intro ks' h1 h2 h3
        rw [List.drop_zero, List.take_of_length_le (by rw [h2, hc]; exact Nat.le_of_eq (Nat.eq_of_beq_eq_true h1))] at h3
        exact h3
      split at h
      · cases h
        rcases cs with _ | ⟨v, _ | ⟨u, r⟩⟩
        · simp at hy
        · cases v <;> simp at hy
          exact ⟨⟨_, rfl⟩, rfl, trivial⟩
        · simp at hy
      · cases h
        rcases cs with _ | ⟨v, _ | ⟨u, r⟩⟩
        · simp at hy
        · cases v <;> simp at hy
          obtain ⟨⟨rfl, _⟩, _⟩ := hy
          exact ⟨⟨_, rfl⟩, rfl, trivial⟩
        · simp at hy
      · cases h
        rcases cs with _ | ⟨v, _ | ⟨u, r⟩⟩
        · simp at hy
        · cases v <;> simp at hy
          exact ⟨⟨_, rfl⟩, rfl, trivial⟩
        · simp at hy
      · rename_i e
        cases h
        rcases cs with _ | ⟨v, _ | ⟨u, r⟩⟩
        · simp at hy
        · cases v with
          | slice a l c => exact ⟨⟨f, t, y, Nat.lt_succ_self _, hu, hy0⟩, rfl, trivial⟩
          | _ => simp at hy
        · simp at hy
      · rename_i fs
        split at h
        · rename_i ks' hks
          split at h
          · rename_i hb
            cases h
            obtain ⟨xs, f', e1, _, hl, hxl, hall⟩ := DataW.trod_struct hu hy0
            cases e1
            refine whole hb hl (sortsF_sound hT (G := fun t xs => ∃ y, TR0 enc P w f t xs = some y) (fun t xs ks ⟨y, hy⟩ hk => (trod_sorts n f t xs ks y hy hk).mono fun _ _ => RT.up (Nat.le_succ _)) _ 0 ks ?_ hks (Nat.zero_le _))
            intro x hx
            obtain ⟨fl, h1, rfl⟩ := List.mem_map.1 hx
            obtain ⟨q, hq⟩ := List.getElem?_of_mem h1
            have hq' : fs[q]? = some fl := by simpa using hq
            have hlt : q < xs.length := by rw [hxl]; exact (Array.getElem?_eq_some_iff.1 hq').1
            exact ⟨xs[q], by rw [← List.getElem?_eq_getElem hlt]; exact hall q fl hq'⟩
          · cases h
        · cases h
      · rename_i m e
        split at h
        · rename_i j dj hj
          split at h
          · rename_i ks' hks
            split at h
            · rename_i hb
              cases h
              obtain ⟨xs, f', e1, _, hl, hxl, hall⟩ := DataW.trod_array hu hy0
              cases e1
              refine whole hb hl (sortsF_sound hT (G := fun t xs => ∃ y, TR0 enc P w f t xs = some y) (fun t xs ks ⟨y, hy⟩ hk => (trod_sorts n f t xs ks y hy hk).mono fun _ _ => RT.up (Nat.le_succ _)) _ 0 ks ?_ hks (Nat.zero_le _))
              intro x hx
              obtain ⟨q, h1, _, rfl⟩ := pairsA_get _ _ _ _ _ hx
              have hlt : q < xs.length := by omega
              refine ⟨xs[q], ?_⟩
              rw [← List.getElem?_eq_getElem hlt, ← hall q (by omega), cellsOf_of hT hj]
            · cases h
          · cases h
        · cases h
      · cases h
    · cases h

/-! ### Slices -/
include hT in
theorem rd_of {n : Nat} {e : TypeId} {ks : List SK} (hs : sortsT T n e = some ks) {j : TypeInfo} {d : TypeDesc} (hj : T.ty.get e = some (j, d)) (hz : j.size = ks.length) (hpos : 0 < ks.length) {R : TypeId → Value → Prop} {σ : SK → SK} {m : Nat}
    (hR : ∀ f, f < m → ∀ k, k ∈ ks → ∀ u, okR (RT enc P w f) k u → okR R (σ k) u) {v : Value} (h : RT enc P w m e v) : rdG w R (ks.map σ) v := by
  obtain ⟨f, t, y, hf, hu, hy⟩ := h
  have hc := cellsOf_of hT hj
  simp only [TR0, DataW.trod, hu] at hy
  cases v with
  | slice a l c =>
    cases a with
    | none =>
      cases l with
      | zero =>
        cases c with
        | zero => exact .inl rfl
        | succ c => simp at hy
      | succ l => simp at hy
    | some a =>
      simp only at hy
      split at hy
      · rename_i hb
        obtain ⟨_, hlc, hcm⟩ := hb
        cases he : (List.range l).mapM (fun i => (w.cells? 0 (a.add (i * P.cellsOf e)) (P.cellsOf e)).bind (DataW.trod enc P w 0 (fun _ => true) true f e)) with
        | none => rw [he] at hy; cases hy
        | some es =>
          rw [he] at hy
          have hy : ((if true = true then (List.range (c - l)).mapM (fun j => (w.cells? 0 (a.add ((l + j) * P.cellsOf e)) (P.cellsOf e)).bind (DataW.trod enc P w 0 (fun _ => true) true f e)) else some []).map fun rest =>
            (DataW.slice (es.map (·.1)) (rest.map (·.1)), MemPlace.row a ((es.length + rest.length) * P.cellsOf e) ++ (es ++ rest).flatMap (·.2))) = some y := hy
          obtain ⟨rest, hrest⟩ := map_some hy
          rw [if_pos rfl] at hrest
          have el : ∀ i, i < c → ∃ cs x, w.cells? 0 (a.add (i * P.cellsOf e)) (P.cellsOf e) = some cs ∧ TR0 enc P w f e cs = some x := by
            intro i hi
            have fin : ∀ z, (w.cells? 0 (a.add (i * P.cellsOf e)) (P.cellsOf e)).bind (DataW.trod enc P w 0 (fun _ => true) true f e) = some z → ∃ cs x, w.cells? 0 (a.add (i * P.cellsOf e)) (P.cellsOf e) = some cs ∧ TR0 enc P w f e cs = some x := by
              intro z hz
              cases hcs : w.cells? 0 (a.add (i * P.cellsOf e)) (P.cellsOf e) with
              | none => rw [hcs] at hz; cases hz
              | some cs => rw [hcs] at hz; exact ⟨cs, z, rfl, hz⟩
            by_cases hil : i < l
            · obtain ⟨z, hz, _⟩ := mapM_get he i i (by rw [List.getElem?_range hil])
              exact fin z hz
            · obtain ⟨z, hz, _⟩ := mapM_get hrest (i - l) (i - l) (by rw [List.getElem?_range (by omega)])
              rw [show l + (i - l) = i by omega] at hz
              exact fin z hz
          have cellAt : ∀ i, i < c → ∀ cs, w.cells? 0 (a.add (i * P.cellsOf e)) (P.cellsOf e) = some cs → ∀ q, q < ks.length → ∃ u, w.cell? ((a.add (i * P.cellsOf e)).add q) = some u ∧ cs[q]? = some u := by
            intro i hi cs hcs q hq
            unfold World.cells? at hcs
            split at hcs
            · obtain ⟨u, h1, h2⟩ := mapM_get hcs q q (by rw [List.getElem?_range (by omega)])
              exact ⟨u, h1, h2⟩
            · cases hcs
          by_cases hc0 : c = 0
          · subst hc0
            obtain rfl : l = 0 := by omega
            exact .inr (.inl ⟨a, rfl⟩)
          · obtain ⟨b, o, sp⟩ := a
            have hsp : sp = none := by
              obtain ⟨cs, x, h1, _⟩ := el 0 (by omega)
              obtain ⟨u, h2, _⟩ := cellAt 0 (by omega) cs h1 0 hpos
              simp only [Nat.zero_mul, Addr.add, if_pos rfl] at h2
              cases sp with
              | none => rfl
              | some s =>
                simp only [World.cell?, Option.isSome_some, if_true] at h2
                split at h2 <;> cases h2
            subst hsp
            refine .inr (.inr ⟨b, o, l, c, rfl, hlc, by unfold maxLen at hcm; omega, ?_⟩)
            intro i hi q k hk
            have hq : q < ks.length := by
              have := (List.getElem?_eq_some_iff.1 hk).1
              simpa using this
            obtain ⟨cs, x, h1, h2⟩ := el i (by omega)
            obtain ⟨u, h3, h4⟩ := cellAt i (by omega) cs h1 q hq
            have hkl := trod_sorts hT n f e cs ks x h2 hs
            rw [List.getElem?_map] at hk
            cases hk0 : ks[q]? with
            | none => rw [hk0] at hk; cases hk
            | some k0 =>
              rw [hk0] at hk
              have hk : some (σ k0) = some k := hk
              cases hk
              obtain ⟨u', h5, h6, h7⟩ := hkl.get q k0 hk0
              rw [h4] at h5; cases h5
              rw [Addr.add_lit, Addr.add_lit, hc, hz] at h3
              refine ⟨u, ?_, hR f hf k0 (List.mem_of_getElem? hk0) u h6, h7⟩
              rw [List.length_map]
              exact h3
      · cases hy
  | _ => simp at hy
end
end
end Go.Am
