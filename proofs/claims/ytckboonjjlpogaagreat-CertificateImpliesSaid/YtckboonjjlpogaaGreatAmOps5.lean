/- Operations of the abstract machine that write. -/
import Derived.Test.YtckboonjjlpogaaGreatAmOps4
import Derived.Laws.CopyRow
import Derived.Laws.Append
import Derived.Laws.AppendOwn
set_option linter.unusedVariables false
set_option linter.unusedSimpArgs false
namespace Go.Am
noncomputable section
variable [SemC]

def oneL : List Value → Bool
  | [] => true
  | v :: vs => match v.oneCell' with
    | true => oneL vs
    | false => false
theorem oneL_rel {θ : Th} : ∀ {l l' : List Value}, LR θ l l' → oneL l = true → ∀ v ∈ l', v.oneCell' = true
  | _, _, .nil, _ => by simp
  | _, _, .cons (v' := v') hv hr, h => by
    unfold oneL at h
    split at h
    · rename_i h1
      intro x hx
      rcases List.mem_cons.1 hx with rfl | hx
      · cases hv <;> first | rfl | assumption | (simp [Value.oneCell', apV] at h1)
      · exact oneL_rel hr h x hx
    · cases h

omit [SemC] in
theorem setAll_length : ∀ (vs : List Value) (cs : List Value) (o : Nat), (setAll cs o vs).length = cs.length
  | [], _, _ => rfl
  | v :: vs, cs, o => by simp [setAll, setAll_length vs]
omit [SemC] in
theorem setAll_get : ∀ (vs : List Value) (cs : List Value) (o i : Nat), o + vs.length ≤ cs.length →
    (setAll cs o vs)[i]? = if o ≤ i ∧ i < o + vs.length then vs[i - o]? else cs[i]?
  | [], cs, o, i, _ => by simp [setAll]; intro h1 h2; omega
  | v :: vs, cs, o, i, h => by
    simp only [List.length_cons] at h
    rw [setAll, setAll_get vs _ _ _ (by simp; omega)]
    simp only [List.length_cons]
    by_cases h1 : o + 1 ≤ i ∧ i < o + 1 + vs.length
    · rw [if_pos h1, if_pos (by omega)]
      obtain ⟨m, rfl⟩ : ∃ m, i = o + 1 + m := ⟨i - (o + 1), by omega⟩
      rw [show o + 1 + m - (o + 1) = m by omega, show o + 1 + m - o = m + 1 by omega]
      simp
    · rw [if_neg h1]
      by_cases h2 : i = o
      · subst h2
        rw [if_pos (by omega), List.getElem?_set_self (by omega)]; simp
      · rw [if_neg (by omega), List.getElem?_set_ne (by omega)]

omit [SemC] in
theorem splice_get (cur : Array Value) (k : Nat) (news : List Value) (h : k + news.length ≤ cur.size) (j : Nat) :
    ((cur.toList.take k ++ news ++ cur.toList.drop (k + news.length)).toArray)[j]? = if k ≤ j ∧ j < k + news.length then news[j - k]? else cur[j]? := by
  rw [List.getElem?_toArray]
  by_cases h1 : j < k
  · rw [List.append_assoc, List.getElem?_append_left (by simp; omega), if_neg (by omega), List.getElem?_take, if_pos h1, Array.getElem?_toList]
  · by_cases h2 : j < k + news.length
    · rw [List.append_assoc, List.getElem?_append_right (by simp; omega), List.getElem?_append_left (by simp; omega), if_pos (by omega)]
      congr 1; simp; omega
    · rw [List.getElem?_append_right (by simp; omega), if_neg (by omega), List.getElem?_drop, Array.getElem?_toList]
      congr 1; simp; omega
omit [SemC] in
theorem splice_size (cur : Array Value) (k : Nat) (news : List Value) (h : k + news.length ≤ cur.size) :
    ((cur.toList.take k ++ news ++ cur.toList.drop (k + news.length)).toArray).size = cur.size := by
  simp; omega

/-- Cells of a block are written. -/
theorem write_cells {P : Program} {θ : Th} {H : AH} {w : World} (hR : RH θ H w) {b esz : Nat} {vs : List Value} (hg : H.hp.get b = some (.cells esz vs)) (hb : b < Tr.lim) {p : Pl} (hp : θ b = some p)
    {o : Nat} {xs xs' : List Value} (hx : LR θ xs xs') (h1 : oneL xs = true) (hfit : o + xs.length ≤ vs.length) :
    ∃ w', (storeCells ⟨p.cb, p.off + o, none⟩ xs').run P w = .ok () w' ∧ RH θ ⟨H.hp.set b (some (.cells esz (setAll vs o xs))), H.nx⟩ w' ∧
      Fr θ H w θ ⟨H.hp.set b (some (.cells esz (setAll vs o xs))), H.nx⟩ w' := by
  obtain ⟨q, hq, he, cur, e, c1, c2, c3, c4⟩ := hR.obj b _ hg
  rw [hp] at hq; cases hq
  have hl := hx.length
  have hfit' : p.off + o + xs'.length ≤ cur.size := by omega
  have hst := run_storeCells_at P p.cb (p.off + o) e xs' 0 cur w c1 (by simpa using hfit') (oneL_rel hx h1)
  simp only [Nat.add_zero] at hst
  have hrow := setRow_heap w p.cb cur (cur.toList.take (p.off + o) ++ xs' ++ cur.toList.drop (p.off + o + xs'.length)).toArray e _ c1
  have hoth := fun k (hk : k ≠ p.cb) => setRow_other w p.cb k (cur.toList.take (p.off + o) ++ xs' ++ cur.toList.drop (p.off + o + xs'.length)).toArray hk
  refine ⟨_, hst, ⟨RO.change ⟨hR.obj, hR.inj⟩ hg hp hoth ?_ hb, hR.fresh⟩, ?_⟩
  · refine ⟨he, _, e, hrow, by rw [splice_size _ _ _ hfit']; exact c2, by rw [setAll_length]; exact c3, ?_⟩
    intro i v hv
    rw [setAll_get _ _ _ _ hfit] at hv
    rw [splice_get _ _ _ hfit']
    split at hv
    · rename_i hi
      obtain ⟨v', h2, h3⟩ := hx.get _ _ hv
      refine ⟨v', ?_, h3⟩
      rw [if_pos (by omega), ← h2]
      congr 1; omega
    · rename_i hi
      rw [if_neg (by omega)]
      exact c4 i v hv
  · refine ⟨by simp, rfl, rfl, rfl, ?_, ?_, fun _ _ => rfl, Nat.le_refl _⟩
    · intro k hk hn
      exact hoth k (fun e => hn ⟨b, _, p, hg, rfl, hp, e.symm⟩)
    · intro k _ ho
      exact own_change hg hb ho

/-! ### store -/
def eStore (T : Tbl) (H : AH) (t : TypeId) (a v : Value) : Option (Value × AH) :=
  match a with
  | .pointer (some ⟨b, o, none⟩) => match H.hp.get b with
    | some (.cells esz vs) => match T.ty.get t with
      | some (i, _) => match Nat.beq v.cells.size i.size, Nat.ble (o + i.size) vs.length, oneL v.cells.toList, Nat.blt b Tr.lim with
        | true, true, true, true => some (undef, ⟨H.hp.set b (some (.cells esz (setAll vs o v.cells.toList))), H.nx⟩)
        | _, _, _, _ => none
      | none => none
    | _ => none
  | _ => none

theorem eStore_sound {P : Program} {T : Tbl} (hT : TblOK P T) {θ : Th} {H H' : AH} {w : World} (hR : RH θ H w) {t : TypeId} {a v a' v' u : Value} (ha : VR θ a a') (hv : VR θ v v')
    (h : eStore T H t a v = some (u, H')) : ∃ w', (Instr.storeAt t a' v').run P w = .ok () w' ∧ u = undef ∧ RH θ H' w' ∧ Fr θ H w θ H' w' := by
  unfold eStore at h
  split at h
  · rename_i b o
    split at h
    · rename_i esz vs hg
      split at h
      · rename_i i d ht
        split at h
        · rename_i h1 h2 h3 h4
          have h1' := Nat.eq_of_beq_eq_true h1
          have h2' := Nat.le_of_ble_eq_true h2
          have h4' := blt_spec h4
          cases h
          cases ha with
          | ptr hp' =>
            obtain ⟨w', s1, s2, s3⟩ := write_cells (P := P) hR hg h4' hp' (o := o) hv.cells h3 (by simp; omega)
            refine ⟨w', ?_, rfl, s2, s3⟩
            have hsz := cells_size hv
            simp only [Instr.storeAt, Instr.sureAddr, storeVar, Sem.run_bind, Sem.run_pure, Result.andThen_ok, run_siz hT ht]
            rw [if_neg (by rw [hsz, h1']; simp)]
            exact s1
        · cases h
      · cases h
    · cases h
  · cases h

/-! ### What append and copy read -/
def rdCells (hp : Tr AO) (size : Nat) : Value → Option (Nat × List Value)
  | .slice none _ n => match Nat.beq n 0 with
    | true => some (0, [])
    | false => none
  | .slice (some ⟨b, o, none⟩) n _ => match Nat.beq n 0 with
    | true => some (0, [])
    | false => match hp.get b with
      | some (.cells _ vs) => match Nat.ble (o + n * size) vs.length with
        | true => some (n, (vs.drop o).take (n * size))
        | false => none
      | _ => none
  | .string ⟨⟨bs⟩⟩ => match Nat.beq size 1 with
    | true => some (bs.length, bs.map fun c => .int .u8 c.toNat)
    | false => none
  | _ => none

theorem rdCells_sound {P : Program} {θ : Th} {hp : Tr AO} {w : World} (hR : RO θ hp w.heap) {size : Nat} {x x' : Value} (hx : VR θ x x') {n : Nat} {news : List Value} (h : rdCells hp size x = some (n, news)) :
    ∃ news', LR θ news news' ∧ news'.length = n * size ∧ (∀ w2 : World, (Builtin.lenOf x').run P w2 = .ok n w2) ∧
      (∀ (m : Nat) (w2 : World), m ≤ n → w2.heap = w.heap → (Builtin.firstCells size m x').run P w2 = .ok (news'.take (m * size)).toArray w2) := by
  unfold rdCells at h
  split at h
  · split at h
    · cases h; cases hx
      refine ⟨[], .nil, by simp, fun _ => rfl, fun m w2 hm _ => ?_⟩
      have : m = 0 := by omega
      subst this; simp [Builtin.firstCells]
    · cases h
  · rename_i b o n0 c
    split at h
    · rename_i hn
      have hn' := Nat.eq_of_beq_eq_true hn
      subst hn'
      cases h
      have key : ∀ (a : Addr) (c : Nat) (m : Nat) (w2 : World), m ≤ 0 → (Builtin.firstCells size m (.slice (some a) 0 c)).run P w2 = .ok (([] : List Value).take (m * size)).toArray w2 := by
        intro a c m w2 hm
        have : m = 0 := by omega
        subst this; simp [Builtin.firstCells, loadCells, loadCellsFrom]
      cases hx with
      | sl => exact ⟨[], .nil, by simp, fun _ => rfl, fun m w2 hm _ => key _ _ m w2 hm⟩
      | slU => exact ⟨[], .nil, by simp, fun _ => rfl, fun m w2 hm _ => key _ _ m w2 hm⟩
      | slZ => exact ⟨[], .nil, by simp, fun _ => rfl, fun m w2 hm _ => key _ _ m w2 hm⟩
    · rename_i hn
      have hn' := Nat.ne_of_beq_eq_false hn
      split at h
      · rename_i esz vs hg
        split at h
        · rename_i hle
          have hle' := Nat.le_of_ble_eq_true hle
          cases h
          have key : ∀ (p : Pl) (cap' : Nat), θ b = some p → ∃ news', LR θ ((vs.drop o).take (n * size)) news' ∧ news'.length = n * size ∧
              (∀ w2 : World, (Builtin.lenOf (.slice (some ⟨p.cb, p.off + o, none⟩) n cap')).run P w2 = .ok n w2) ∧
              (∀ (m : Nat) (w2 : World), m ≤ n → w2.heap = w.heap → (Builtin.firstCells size m (.slice (some ⟨p.cb, p.off + o, none⟩) n cap')).run P w2 = .ok (news'.take (m * size)).toArray w2) := by
            intro p cap' hp'
            obtain ⟨cs', hl, hlr, hc⟩ := cells_list hR hg hp' hle'
            refine ⟨cs', hlr, hl, fun _ => rfl, fun m w2 hm hh => ?_⟩
            have hms : m * size ≤ n * size := Nat.mul_le_mul_right _ hm
            have := run_loadCells_list (P := P) w2 ⟨p.cb, p.off + o, none⟩ (cs'.take (m * size)) (fun j v hv => by
              rw [Addr.add_lit]
              rw [List.getElem?_take] at hv
              split at hv
              · have := hc j v hv
                simpa [World.cell?, hh] using this
              · cases hv)
            rw [List.length_take, hl, Nat.min_eq_left hms] at this
            simpa [Builtin.firstCells] using this
          cases hx with
          | sl hp' _ => exact key _ _ hp'
          | slU hp' _ _ => exact key _ _ hp'
          | slZ => exact absurd rfl hn'
        · cases h
      · cases h
  · rename_i bs
    split at h
    · rename_i hs
      have hs' := Nat.eq_of_beq_eq_true hs
      subst hs'
      cases h
      cases hx
      refine ⟨bs.map fun c => .int .u8 c.toNat, ?_, by simp, fun _ => rfl, fun m w2 hm _ => ?_⟩
      · refine LR.of_get rfl fun i x x' h1 h2 => ?_
        rw [h1] at h2; cases h2
        rw [List.getElem?_map, Option.map_eq_some_iff] at h1
        obtain ⟨c, _, rfl⟩ := h1
        exact .int _ _
      · simp only [Builtin.firstCells, Sem.run_pure]
        congr 1
        apply Array.ext'
        rw [extract_bytes]
        simp [List.map_take]
    · cases h
  · cases h

/-! ### append -/
def notInt : TypeDesc → Bool
  | .int _ => false
  | _ => true

section
variable {P : Program} {T : Tbl} (hT : TblOK P T) {t u e : TypeId} {it iu ie : TypeInfo} {du de : TypeDesc} (ht : T.ty.get t = some (it, .slice e)) (hu : T.ty.get u = some (iu, du)) (hn : notInt du = true)
  (he : T.ty.get e = some (ie, de))
include hT ht hu hn he

omit [SemC] in
theorem run_append_room' (ty : TypeId) (w w2 : World) (base : Option Addr) (sLen sCap n : Nat) (x : Value) (news : List Value) (hlen : (Builtin.lenOf x).run P w = .ok n w) (hf : (Builtin.firstCells ie.size n x).run P w = .ok news.toArray w)
    (hroom : sLen + n ≤ sCap) (hst : ∀ a, base = some a → (storeCells (a.add (sLen * ie.size)) news).run P w = .ok () w2) (hnil : base = none → w2 = w) :
    (Builtin.append_ #[t, u] ty #[.slice base sLen sCap, x]).run P w = .ok (.slice base (sLen + n) sCap) w2 := by
  cases du <;> first | (cases hn; done) | skip
  all_goals
    simp only [Builtin.append_, List.getElem?_toArray, List.getElem?_cons_zero, List.getElem?_cons_succ, Sem.run_bind, run_und hT ht, run_und hT hu, Result.andThen_ok, run_siz hT he, Sem.run_pure, Bool.false_eq_true, if_false, hlen, hroom, if_true, Bool.not_false, hf]
    cases base with
    | none => simp [hnil rfl]
    | some a => simp [hst a rfl]

omit [SemC] in
theorem run_append_grow' (ty : TypeId) (w : World) (base : Option Addr) (sLen sCap n : Nat) (x z : Value) (olds news : List Value) (hz0 : ie.zero = some z) (hlen : (Builtin.lenOf x).run P w = .ok n w)
    (hf : (Builtin.firstCells ie.size n x).run P w.drew = .ok news.toArray w.drew) (hold : (Builtin.firstCells ie.size sLen (.slice base sLen sCap)).run P w.drew = .ok olds.toArray w.drew)
    (hgrow : sCap < sLen + n) (hb : (sLen + n) * ie.bytes ≤ 140737488355328) (h63 : sLen + n ≤ 9223372036854775807) :
    (Builtin.append_ #[t, u] ty #[.slice base sLen sCap, x]).run P w = .ok (.slice (some ⟨w.heap.size, 0, none⟩) (sLen + n) (grownCap w (sLen + n) sCap e))
      (w.drew.alloc (.cells (olds.toArray ++ news.toArray ++ Builtin.zeroCells z.cells (grownCap w (sLen + n) sCap e - (sLen + n))) e)) := by
  have h48 := growslice_fits hgrow hb
  have h63' : ¬ (9223372036854775807 < ((sLen : Int) + (n : Int))) := by omega
  have hng : ¬ (sLen + n ≤ sCap) := by omega
  cases du <;> first | (cases hn; done) | skip
  all_goals
    simp only [Builtin.append_, List.getElem?_toArray, List.getElem?_cons_zero, List.getElem?_cons_succ, Sem.run_bind, run_und hT ht, run_und hT hu, Result.andThen_ok, run_siz hT he, Sem.run_pure, Bool.false_eq_true, if_false, hlen, hng, Bool.not_false, if_true, run_inf hT he]
    simp [h63', Question.forced, hold, hf, run_zer hT he _ hz0, newRow, grownCap, run_inf hT he, Nat.not_lt.2 h48]
    congr 2
    apply Array.ext'
    simp
end

def eAppend (T : Tbl) (H : AH) (t u : TypeId) (s x : Value) : Option (Value × AH) :=
  match T.ty.get t, T.ty.get u with
  | some (_, .slice e), some (_, du) => match T.ty.get e with
    | some (ie, _) => match ie.zero with
      | some z => match notInt du, cstL z.cells.toList, Nat.beq z.cells.size ie.size, Nat.blt 0 ie.size, Nat.ble ie.bytes 65536, Nat.blt H.nx Tr.lim with
        | true, true, true, true, true, true => match rdCells H.hp ie.size x with
          | some (n, news) => match oneL news, Nat.ble n 65536 with
            | true, true => match s with
              | .slice none 0 0 => match Nat.beq n 0 with
                | true => some (.slice none 0 0, H)
                | false => some (mkSl n unk H.nx, ⟨H.hp.set H.nx (some (.cells ie.size news)), H.nx + 1⟩)
              | .slice (some ⟨b, o, none⟩) sLen cap => match Nat.ble sLen 65536, Nat.ble sLen cap with
                | true, true => match Nat.beq n 0 with
                  | true => some (.slice (some ⟨b, o, none⟩) sLen cap, H)
                  | false => match H.hp.get b with
                    | some (.cells esz vs) => match Nat.ble (o + sLen * ie.size) vs.length, Nat.blt b Tr.lim with
                      | true, true => match Nat.beq cap unk with
                        | false => match Nat.ble (sLen + n) cap with
                          | true => match Nat.ble (o + (sLen + n) * ie.size) vs.length with
                            | true => some (.slice (some ⟨b, o, none⟩) (sLen + n) cap, ⟨H.hp.set b (some (.cells esz (setAll vs (o + sLen * ie.size) news))), H.nx⟩)
                            | false => none
                          | false => some (mkSl (sLen + n) unk H.nx, ⟨H.hp.set H.nx (some (.cells ie.size ((vs.drop o).take (sLen * ie.size) ++ news))), H.nx + 1⟩)
                        | true => match Nat.beq esz ie.size with
                          | true => some (mkSl (sLen + n) unk H.nx, ⟨(H.hp.set b none).set H.nx (some (.cells ie.size ((vs.drop o).take (sLen * ie.size) ++ news))), H.nx + 1⟩)
                          | false => none
                      | _, _ => none
                    | _ => none
                | _, _ => none
              | _ => none
            | _, _ => none
          | none => none
        | _, _, _, _, _, _ => none
      | none => none
    | none => none
  | _, _ => none

/-- A block is made, in a world that has drawn. -/
theorem grown_ok {θ : Th} {H : AH} {w : World} (hR : RH θ H w) (hp2 : Tr AO) (hs : ∀ b o, hp2.get b = some o → H.hp.get b = some o) {xs xs' : List Value} (hx : LR θ xs xs') (esz e : Nat) (rest : Array Value) (hlim : H.nx < Tr.lim) :
    ∃ θ', θ' H.nx = some ⟨w.heap.size, 0, esz, xs'.length + rest.size, undef⟩ ∧ RH θ' ⟨hp2.set H.nx (some (.cells esz xs)), H.nx + 1⟩ (w.drew.alloc (.cells (xs'.toArray ++ rest) e)) ∧
      Fr θ H w θ' ⟨hp2.set H.nx (some (.cells esz xs)), H.nx + 1⟩ (w.drew.alloc (.cells (xs'.toArray ++ rest) e)) := by
  have hn : θ H.nx = none := hR.fresh _ (Nat.le_refl _)
  refine ⟨upd θ H.nx ⟨w.heap.size, 0, esz, xs'.length + rest.size, undef⟩, upd_same _ _ _, ⟨?_, ?_⟩, ?_⟩
  · have hro : RO θ hp2 w.heap := RO.sub ⟨hR.obj, hR.inj⟩ hs
    refine RO.alloc (p := ⟨w.heap.size, 0, esz, xs'.length + rest.size, undef⟩) hro hlim hn rfl ?_
    have hl := hx.length
    refine ⟨rfl, xs'.toArray ++ rest, e, by simp, by simp, by simp; omega, ?_⟩
    intro i v hv
    obtain ⟨v', h1, h2⟩ := hx.get i v hv
    refine ⟨v', ?_, h2.mono (Ext.upd _ hn)⟩
    have hi : i < xs'.length := (List.getElem?_eq_some_iff.1 h1).1
    rw [Nat.zero_add, Array.getElem?_append_left (by simpa using hi)]
    simpa using h1
  · intro b hb
    simp only at hb
    rw [upd_ne _ _ _ (by omega)]
    exact hR.fresh b (by omega)
  · refine ⟨by show w.heap.size ≤ (w.heap.push _).size; simp, rfl, rfl, rfl, ?_, ?_, ?_, Nat.le_succ _⟩
    · intro k hk _
      exact RowKit.Below.heap_alloc w.drew _ k hk
    · intro k hk ho
      obtain ⟨b, o, p, h1, h0, h2, h3⟩ := ho
      rw [Tr.get_set _ _ _ _ hlim] at h1
      by_cases c : b = H.nx
      · subst c
        rw [upd_same] at h2; cases h2
        simp only at h3; omega
      · rw [if_neg c] at h1
        rw [upd_ne _ _ _ c] at h2
        exact ⟨b, o, p, hs _ _ h1, h0, h2, h3⟩
    · intro b hb
      exact upd_ne _ _ _ (by omega)

omit [SemC] in
theorem zeroCells_size (z : Array Value) (n : Nat) : (Builtin.zeroCells z n).size = n * z.size := by simp [Builtin.zeroCells]

omit [SemC] in
theorem own_set {θ θ' : Th} {hp : Tr AO} {b : Nat} {x : AO} {p : Pl} (hb : b < Tr.lim) (hp' : θ' b = some p) (he : ∀ c, c ≠ b → θ' c = θ c) {k : Nat} (h : own θ' (hp.set b (some x)) k) : k = p.cb ∨ own θ hp k := by
  obtain ⟨c, o, q, h1, h0, h2, h3⟩ := h
  rw [Tr.get_set _ _ _ _ hb] at h1
  by_cases e : c = b
  · subst e; rw [hp'] at h2; cases h2; exact .inl h3.symm
  · rw [if_neg e] at h1; rw [he c e] at h2; exact .inr ⟨c, o, q, h1, h0, h2, h3⟩

/-- A slice whose capacity is not known takes over its block, under a new number. -/
theorem taken_ok {P : Program} {θ : Th} {H : AH} {w : World} (hR : RH θ H w) {b esz : Nat} {vs : List Value} (hg : H.hp.get b = some (.cells esz vs)) (hb : b < Tr.lim) (hlim : H.nx < Tr.lim) {p : Pl} (hp : θ b = some p)
    {o k n : Nat} {xs xs' : List Value} (hx : LR θ xs xs') (h1 : oneL xs = true) (hok : o + k ≤ vs.length) (hroom : p.off + o + n ≤ p.tot) (hkn : k + xs.length ≤ n) :
    ∃ w' θ', (storeCells ⟨p.cb, p.off + o + k, none⟩ xs').run P w = .ok () w' ∧ θ' H.nx = some ⟨p.cb, p.off + o, esz, p.tot, undef⟩ ∧
      RH θ' ⟨(H.hp.set b none).set H.nx (some (.cells esz ((vs.drop o).take k ++ xs))), H.nx + 1⟩ w' ∧
      Fr θ H w θ' ⟨(H.hp.set b none).set H.nx (some (.cells esz ((vs.drop o).take k ++ xs))), H.nx + 1⟩ w' := by
  obtain ⟨q, hq, he, cur, e, c1, c2, c3, c4⟩ := hR.obj b _ hg
  rw [hp] at hq; cases hq
  have hn : θ H.nx = none := hR.fresh _ (Nat.le_refl _)
  have hbn : b ≠ H.nx := fun e => by rw [e] at hp; rw [hn] at hp; cases hp
  have hl := hx.length
  have hfit' : p.off + o + k + xs'.length ≤ cur.size := by omega
  have hst := run_storeCells_at P p.cb (p.off + o + k) e xs' 0 cur w c1 (by simpa using hfit') (oneL_rel hx h1)
  simp only [Nat.add_zero] at hst
  have hrow := setRow_heap w p.cb cur (cur.toList.take (p.off + o + k) ++ xs' ++ cur.toList.drop (p.off + o + k + xs'.length)).toArray e _ c1
  have hoth := fun j (hk : j ≠ p.cb) => setRow_other w p.cb j (cur.toList.take (p.off + o + k) ++ xs' ++ cur.toList.drop (p.off + o + k + xs'.length)).toArray hk
  have hE : Ext θ (upd θ H.nx ⟨p.cb, p.off + o, esz, p.tot, undef⟩) := Ext.upd _ hn
  have hget : ∀ c x, ((H.hp.set b none).set H.nx (some (.cells esz ((vs.drop o).take k ++ xs)))).get c = some x → c ≠ H.nx → H.hp.get c = some x ∧ c ≠ b := by
    intro c x hc hne
    rw [Tr.get_set _ _ _ _ hlim, if_neg hne, Tr.get_set _ _ _ _ hb] at hc
    split at hc
    · cases hc
    · exact ⟨hc, by assumption⟩
  have hnew : ∀ x, ((H.hp.set b none).set H.nx (some (.cells esz ((vs.drop o).take k ++ xs)))).get H.nx = some x → x = .cells esz ((vs.drop o).take k ++ xs) := by
    intro x hc
    rw [Tr.get_set _ _ _ _ hlim, if_pos rfl] at hc
    cases hc; rfl
  refine ⟨_, upd θ H.nx ⟨p.cb, p.off + o, esz, p.tot, undef⟩, hst, upd_same _ _ _, ⟨⟨?_, ?_⟩, ?_⟩, ?_⟩
  · intro c x hc
    by_cases ec : c = H.nx
    · subst ec
      have := hnew x hc
      subst this
      refine ⟨_, upd_same _ _ _, rfl, _, e, hrow, by rw [splice_size _ _ _ hfit']; exact c2, by simp; omega, ?_⟩
      intro i v hv
      simp only
      rw [splice_get _ _ _ hfit']
      have hkl : ((vs.drop o).take k).length = k := by simp; omega
      by_cases hi : i < k
      · rw [List.getElem?_append_left (by omega), List.getElem?_take, if_pos hi, List.getElem?_drop] at hv
        obtain ⟨v', h2, h3⟩ := c4 _ v hv
        refine ⟨v', ?_, h3.mono hE⟩
        rw [if_neg (by omega), ← h2]
        congr 1; omega
      · rw [List.getElem?_append_right (by omega), hkl] at hv
        obtain ⟨v', h2, h3⟩ := hx.get _ _ hv
        have hix : i - k < xs'.length := (List.getElem?_eq_some_iff.1 h2).1
        refine ⟨v', ?_, h3.mono hE⟩
        rw [if_pos (by omega), ← h2]
        congr 1; omega
    · obtain ⟨h2, h3⟩ := hget c x hc ec
      obtain ⟨q, hq, hr⟩ := hR.obj c x h2
      refine ⟨q, by rw [upd_ne _ _ _ ec]; exact hq, ?_⟩
      cases hwx : x.wr with
      | false => exact hr.monoS hE hwx
      | true => exact hr.mono hE (hoth _ (fun e => h3 (hR.inj _ _ _ _ _ _ h2 hg hwx rfl hq hp e)))
  · intro c c' x x' q q' g g' wx wx' e1 e2 ec
    by_cases k1 : c = H.nx
    · subst k1
      rw [upd_same] at e1; cases e1
      by_cases k2 : c' = H.nx
      · exact k2.symm
      · obtain ⟨h2, h3⟩ := hget c' x' g' k2
        rw [upd_ne _ _ _ k2] at e2
        exact absurd (hR.inj _ _ _ _ _ _ hg h2 rfl wx' hp e2 ec) (fun e => h3 e.symm)
    · obtain ⟨h2, h3⟩ := hget c x g k1
      rw [upd_ne _ _ _ k1] at e1
      by_cases k2 : c' = H.nx
      · subst k2
        rw [upd_same] at e2; cases e2
        exact absurd (hR.inj _ _ _ _ _ _ h2 hg wx rfl e1 hp ec) h3
      · obtain ⟨h4, h5⟩ := hget c' x' g' k2
        rw [upd_ne _ _ _ k2] at e2
        exact hR.inj _ _ _ _ _ _ h2 h4 wx wx' e1 e2 ec
  · intro c hc
    simp only at hc
    rw [upd_ne _ _ _ (by omega)]
    exact hR.fresh c (by omega)
  · refine ⟨by simp, rfl, rfl, rfl, ?_, ?_, ?_, Nat.le_succ _⟩
    · intro j _ hj
      exact hoth j (fun e => hj ⟨b, _, p, hg, rfl, hp, e.symm⟩)
    · intro j _ ho
      obtain ⟨c, x, q, h2, h0, h3, h4⟩ := ho
      by_cases ec : c = H.nx
      · subst ec
        rw [upd_same] at h3; cases h3
        exact ⟨b, _, p, hg, rfl, hp, h4⟩
      · rw [upd_ne _ _ _ ec] at h3
        exact ⟨c, x, q, (hget c x h2 ec).1, h0, h3, h4⟩
    · intro c hc
      exact upd_ne _ _ _ (by omega)

theorem mkSl_rel {θ : Th} {b : Nat} {cb esz tot n cap : Nat} (hb : θ b = some ⟨cb, 0, esz, tot, undef⟩) (h1 : n ≤ cap) (h2 : cap * esz ≤ tot) : VR θ (mkSl n unk b) (.slice (some ⟨cb, 0, none⟩) n cap) := by
  have := VR.slU (o := 0) hb h1 (by simpa using h2)
  simpa [mkSl] using this

theorem eAppend_sound {P : Program} {T : Tbl} (hT : TblOK P T) {θ : Th} {H H' : AH} {w : World} (hR : RH θ H w) {t u ty : TypeId} {s x s' x' v : Value} (hs : VR θ s s') (hx : VR θ x x')
    (h : eAppend T H t u s x = some (v, H')) : ∃ v' w' θ', (Builtin.append_ #[t, u] ty #[s', x']).run P w = .ok v' w' ∧ VR θ' v v' ∧ RH θ' H' w' ∧ Fr θ H w θ' H' w' := by
  unfold eAppend at h
  split at h
  · rename_i it e iu du ht hu
    split at h
    · rename_i ie de he
      split at h
      · rename_i z hz
        split at h
        · rename_i h1 h2 h3 h4 h5 h6
          have h3' := Nat.eq_of_beq_eq_true h3
          have h4' := blt_spec h4
          have h5' := Nat.le_of_ble_eq_true h5
          have h6' := blt_spec h6
          split at h
          · rename_i n news hrd
            obtain ⟨news', n1, n2, n3, n4⟩ := rdCells_sound (P := P) ⟨hR.obj, hR.inj⟩ hx hrd
            have n4' : ∀ w2 : World, w2.heap = w.heap → (Builtin.firstCells ie.size n x').run P w2 = .ok news'.toArray w2 := fun w2 hw => by
              have := n4 n w2 (Nat.le_refl _) hw
              rwa [← n2, List.take_length] at this
            have hnl := n1.length
            split at h
            · rename_i h7 h8
              have h8' := Nat.le_of_ble_eq_true h8
              have hby : ∀ k, k ≤ 131072 → k * ie.bytes ≤ 140737488355328 := fun k hk => by
                have := Nat.mul_le_mul hk h5'; omega
              split at h
              · cases hs
                split at h
                · rename_i hn
                  have hn' := Nat.eq_of_beq_eq_true hn
                  subst hn'
                  cases h
                  have hnil : news' = [] := List.eq_nil_of_length_eq_zero (by simpa using n2)
                  subst hnil
                  refine ⟨.slice none 0 0, w, θ, ?_, .slN, hR, Fr.refl _ _ _⟩
                  exact run_append_room' hT ht hu h1 he ty w w none 0 0 0 x' [] (n3 w) (n4' w rfl) (Nat.le_refl _) (fun a e => by cases e) (fun _ => rfl)
                · rename_i hn
                  have hn' := Nat.ne_of_beq_eq_false hn
                  cases h
                  have hg := run_append_grow' hT ht hu h1 he ty w none 0 0 n x' z [] news' hz (n3 w) (n4' w.drew rfl) (by simp [Builtin.firstCells]) (by omega) (hby _ (by omega)) (by omega)
                  simp only [Nat.zero_add] at hg
                  obtain ⟨θ', t1, t2, t3⟩ := grown_ok hR H.hp (fun _ _ h => h) n1 ie.size e (Builtin.zeroCells z.cells (grownCap w n 0 e - n)) h6'
                  have hc := grownCap_ge w n 0 e
                  refine ⟨_, _, θ', hg, mkSl_rel t1 hc ?_, ?_, ?_⟩
                  · rw [zeroCells_size, n2, h3', ← Nat.add_mul]; exact Nat.mul_le_mul_right _ (by omega)
                  · simpa using t2
                  · simpa using t3
              · rename_i b o sLen cap
                split at h
                · rename_i h9 h10
                  have h9' := Nat.le_of_ble_eq_true h9
                  have h10' := Nat.le_of_ble_eq_true h10
                  split at h
                  · rename_i hn
                    have hn' := Nat.eq_of_beq_eq_true hn
                    subst hn'
                    cases h
                    have hnil : news' = [] := List.eq_nil_of_length_eq_zero (by simpa using n2)
                    subst hnil
                    have key : ∀ (a : Addr) (c : Nat), sLen ≤ c → (Builtin.append_ #[t, u] ty #[.slice (some a) sLen c, x']).run P w = .ok (.slice (some a) sLen c) w := fun a c hc =>
                      run_append_room' hT ht hu h1 he ty w w (some a) sLen c 0 x' [] (n3 w) (n4' w rfl) hc (fun a e => by cases e; simp [storeCells]) (fun e => by cases e)
                    cases hs with
                    | sl hp' hc => exact ⟨_, w, θ, key _ _ h10', .sl hp' hc, hR, Fr.refl _ _ _⟩
                    | slU hp' a b => exact ⟨_, w, θ, key _ _ a, .slU hp' a b, hR, Fr.refl _ _ _⟩
                    | slZ hc => exact ⟨_, w, θ, key _ _ (Nat.le_refl _), .slZ hc, hR, Fr.refl _ _ _⟩
                  · rename_i hn
                    have hn' := Nat.ne_of_beq_eq_false hn
                    split at h
                    · rename_i esz vs hg
                      split at h
                      · rename_i h11 h12
                        have h11' := Nat.le_of_ble_eq_true h11
                        have h12' := blt_spec h12
                        obtain ⟨p, hp, hor⟩ := hR.obj b _ hg
                        have hes := hor.1
                        have hne : oneL news = true := h7
                        -- what is old, read off the block
                        have hold : ∀ c, ∃ olds', LR θ ((vs.drop o).take (sLen * ie.size)) olds' ∧ olds'.length = sLen * ie.size ∧
                            ∀ w2 : World, w2.heap = w.heap → (Builtin.firstCells ie.size sLen (.slice (some ⟨p.cb, p.off + o, none⟩) sLen c)).run P w2 = .ok olds'.toArray w2 := by
                          intro c
                          obtain ⟨cs', hl, hlr, hc⟩ := cells_list ⟨hR.obj, hR.inj⟩ hg hp h11'
                          refine ⟨cs', hlr, hl, fun w2 hh => ?_⟩
                          have := run_loadCells_list (P := P) w2 ⟨p.cb, p.off + o, none⟩ cs' (fun j v hv => by
                            rw [Addr.add_lit]
                            have := hc j v hv
                            simpa [World.cell?, hh] using this)
                          rw [hl] at this
                          simpa [Builtin.firstCells] using this
                        -- a new block
                        have grow : ∀ (hp2 : Tr AO), (∀ b o, hp2.get b = some o → H.hp.get b = some o) → ∀ c, c < sLen + n →
                            ∃ v' w' θ', (Builtin.append_ #[t, u] ty #[.slice (some ⟨p.cb, p.off + o, none⟩) sLen c, x']).run P w = .ok v' w' ∧ VR θ' (mkSl (sLen + n) unk H.nx) v' ∧
                              RH θ' ⟨hp2.set H.nx (some (.cells ie.size ((vs.drop o).take (sLen * ie.size) ++ news))), H.nx + 1⟩ w' ∧
                              Fr θ H w θ' ⟨hp2.set H.nx (some (.cells ie.size ((vs.drop o).take (sLen * ie.size) ++ news))), H.nx + 1⟩ w' := by
                          intro hp2 hsub c hc
                          obtain ⟨olds', o1, o2, o3⟩ := hold c
                          have hg2 := run_append_grow' hT ht hu h1 he ty w (some ⟨p.cb, p.off + o, none⟩) sLen c n x' z olds' news' hz (n3 w) (n4' w.drew rfl) (o3 w.drew rfl) hc (hby _ (by omega)) (by omega)
                          obtain ⟨θ', t1, t2, t3⟩ := grown_ok hR hp2 hsub (o1.append n1) ie.size e (Builtin.zeroCells z.cells (grownCap w (sLen + n) c e - (sLen + n))) h6'
                          have hcc := grownCap_ge w (sLen + n) c e
                          refine ⟨_, _, θ', hg2, mkSl_rel t1 hcc ?_, ?_, ?_⟩
                          · rw [zeroCells_size, List.length_append, o2, n2, h3', ← Nat.add_mul, ← Nat.add_mul]; exact Nat.mul_le_mul_right _ (by omega)
                          · simpa using t2
                          · simpa using t3
                        split at h
                        · rename_i hcap
                          have hcap' := Nat.ne_of_beq_eq_false hcap
                          have hsl : ∀ s'', VR θ (.slice (some ⟨b, o, none⟩) sLen cap) s'' → s'' = .slice (some ⟨p.cb, p.off + o, none⟩) sLen cap ∨ (sLen = 0 ∧ cap = 0 ∧ ∃ a, s'' = .slice (some a) 0 0) := by
                            intro s'' hq
                            cases hq with
                            | sl hp' _ => rw [hp] at hp'; cases hp'; exact .inl rfl
                            | slU => exact absurd rfl hcap'
                            | slZ hc => exact .inr ⟨rfl, hc.resolve_left hcap', _, rfl⟩
                          split at h
                          · rename_i h13
                            have h13' := Nat.le_of_ble_eq_true h13
                            split at h
                            · rename_i h14
                              have h14' := Nat.le_of_ble_eq_true h14
                              cases h
                              rcases hsl _ hs with rfl | ⟨q1, q2, _⟩
                              · rw [Nat.add_mul] at h14'
                                obtain ⟨w', s1, s2, s3⟩ := write_cells (P := P) hR hg h12' hp (o := o + sLen * ie.size) n1 h7 (by omega)
                                refine ⟨_, w', θ, ?_, .sl hp hcap', s2, s3⟩
                                refine run_append_room' hT ht hu h1 he ty w w' (some ⟨p.cb, p.off + o, none⟩) sLen cap n x' news' (n3 w) (n4' w rfl) h13' (fun a e => ?_) (fun e => by cases e)
                                cases e
                                rw [Addr.add_lit, Nat.add_assoc]; exact s1
                              · omega
                            · cases h
                          · rename_i h13
                            have h13' : ¬ (sLen + n ≤ cap) := fun hle => by rw [Nat.ble_eq_true_of_le hle] at h13; cases h13
                            cases h
                            rcases hsl _ hs with rfl | ⟨rfl, rfl, a, rfl⟩
                            · exact grow H.hp (fun _ _ h => h) cap (by omega)
                            · have hg2 := run_append_grow' hT ht hu h1 he ty w (some a) 0 0 n x' z [] news' hz (n3 w) (n4' w.drew rfl) (by simp [Builtin.firstCells, loadCells, loadCellsFrom]) (by omega) (hby _ (by omega)) (by omega)
                              obtain ⟨θ', t1, t2, t3⟩ := grown_ok hR H.hp (fun _ _ h => h) n1 ie.size e (Builtin.zeroCells z.cells (grownCap w (0 + n) 0 e - (0 + n))) h6'
                              have hcc := grownCap_ge w (0 + n) 0 e
                              simp only [Nat.zero_mul, List.take_zero, List.nil_append] at hg2 ⊢
                              refine ⟨_, _, θ', hg2, mkSl_rel t1 hcc ?_, ?_, ?_⟩
                              · rw [zeroCells_size, n2, h3', ← Nat.add_mul]; exact Nat.mul_le_mul_right _ (by omega)
                              · simpa using t2
                              · simpa using t3
                        · rename_i hcap
                          have hcap' := Nat.eq_of_beq_eq_true hcap
                          subst hcap'
                          split at h
                          · rename_i hez
                            have hez' := Nat.eq_of_beq_eq_true hez
                            subst hez'
                            cases h
                            have hsub : ∀ c x, (H.hp.set b none).get c = some x → H.hp.get c = some x := fun c x hc => by
                              rw [Tr.get_set _ _ _ _ h12'] at hc
                              split at hc
                              · cases hc
                              · exact hc
                            cases hs with
                            | sl _ hc => exact absurd rfl hc
                            | slU hp' hle hroom =>
                              rename_i q cap'
                              rw [hp] at hp'; cases hp'
                              by_cases hr : sLen + n ≤ cap'
                              · have hmul : (sLen + n) * ie.size ≤ cap' * ie.size := Nat.mul_le_mul_right _ hr
                                rw [Nat.add_mul] at hmul
                                rw [hes] at hroom
                                obtain ⟨w', θ', s1, s2, s3, s4⟩ := taken_ok (P := P) hR hg h12' h6' hp (o := o) (k := sLen * ie.size) (n := cap' * ie.size) n1 h7 h11' hroom (by omega)
                                refine ⟨.slice (some ⟨p.cb, p.off + o, none⟩) (sLen + n) cap', w', θ', ?_, ?_, s3, s4⟩
                                · refine run_append_room' hT ht hu h1 he ty w w' (some ⟨p.cb, p.off + o, none⟩) sLen cap' n x' news' (n3 w) (n4' w rfl) hr (fun a e => ?_) (fun e => by cases e)
                                  cases e
                                  rw [Addr.add_lit]; exact s1
                                · have := VR.slU (o := 0) s2 hr (by simpa using hroom)
                                  simpa [mkSl] using this
                              · exact grow _ hsub cap' (by omega)
                            | slZ hc =>
                              rename_i a
                              have hg2 := run_append_grow' hT ht hu h1 he ty w (some a) 0 0 n x' z [] news' hz (n3 w) (n4' w.drew rfl) (by simp [Builtin.firstCells, loadCells, loadCellsFrom]) (by omega) (hby _ (by omega)) (by omega)
                              obtain ⟨θ', t1, t2, t3⟩ := grown_ok hR _ hsub n1 ie.size e (Builtin.zeroCells z.cells (grownCap w (0 + n) 0 e - (0 + n))) h6'
                              have hcc := grownCap_ge w (0 + n) 0 e
                              simp only [Nat.zero_mul, List.take_zero, List.nil_append] at hg2 ⊢
                              refine ⟨_, _, θ', hg2, mkSl_rel t1 hcc ?_, ?_, ?_⟩
                              · rw [zeroCells_size, n2, h3', ← Nat.add_mul]; exact Nat.mul_le_mul_right _ (by omega)
                              · simpa using t2
                              · simpa using t3
                          · cases h
                      · cases h
                    · cases h
                · cases h
              · cases h
            · cases h
          · cases h
        · cases h
      · cases h
    · cases h
  · cases h
end
end Go.Am
