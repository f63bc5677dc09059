/- Operations of the abstract machine that read, and their soundness. -/
import Derived.Test.YtckboonjjlpogaaGreatAmHeap
set_option linter.unusedVariables false
set_option linter.unusedSimpArgs false
namespace Go.Am
noncomputable section
variable [SemC]

structure Tbl where
  ty : Tr (TypeInfo × TypeDesc)
  fn : Tr Func
  eqs : Tr Unit

structure TblOK (P : Program) (T : Tbl) : Prop where
  ty : ∀ t i d, T.ty.get t = some (i, d) → P.info? t = some i ∧ P.underlying t = some d
  fn : ∀ f x, T.fn.get f = some x → P.funcs[f]? = some x
  eqs : ∀ t, T.eqs.get t = some () → P.stoodInHeld t = false ∧ P.eqGuardType P.depth t = false
  mixed : P.follows .mixedOrders = true

def isAggD : TypeDesc → Bool
  | .struct _ | .array _ _ => true
  | _ => false

section
variable {P : Program} {T : Tbl} (hT : TblOK P T) {t : TypeId} {i : TypeInfo} {d : TypeDesc} (h : T.ty.get t = some (i, d)) (w : World)
include hT h
omit [SemC] in
theorem run_und : (underlying t).run P w = .ok d w := run_underlying (hT.ty t i d h).2 w
omit [SemC] in
theorem run_inf : (typeInfo t).run P w = .ok i w := by simp [typeInfo, (hT.ty t i d h).1]
omit [SemC] in
theorem run_siz : (sizeOf t).run P w = .ok i.size w := by simp [sizeOf, run_inf hT h]
omit [SemC] in
theorem run_ag : (isAgg t).run P w = .ok (isAggD d) w := by
  cases d <;> simp [isAgg, run_und hT h, isAggD]
omit [SemC] in
theorem run_zer {z : Value} (hz : i.zero = some z) : (zeroValue t).run P w = .ok z w := by simp [zeroValue, run_inf hT h, hz]
end

omit [SemC] in
theorem array_extract (l : List Value) (o n : Nat) : (⟨l⟩ : Array Value).extract o (o + n) = ⟨(l.drop o).take n⟩ := by
  apply Array.ext'
  simp

omit [SemC] in
theorem getD_of {l : List Value} {i : Nat} {v : Value} (h : l[i]? = some v) (d : Value) : l.getD i d = v := by simp [List.getD, h]

/-! ### Parts of aggregates -/
def pPart (T : Tbl) (t : TypeId) (cs : List Value) (off : Nat) : Option Value :=
  match T.ty.get t with
  | some (i, d) => match isAggD d with
    | true => some (.agg ⟨(cs.drop off).take i.size⟩)
    | false => cs[off]?
  | none => none

theorem pPart_sound {P : Program} {T : Tbl} (hT : TblOK P T) {θ : Th} {t : TypeId} {cs cs' : List Value} {off : Nat} {v : Value} (hc : LR θ cs cs') (w : World)
    (h : pPart T t cs off = some v) : ∃ v', (part t ⟨cs'⟩ off).run P w = .ok v' w ∧ VR θ v v' := by
  unfold pPart at h
  split at h
  · rename_i i d ht
    split at h
    · rename_i ha
      cases h
      refine ⟨.agg ⟨(cs'.drop off).take i.size⟩, ?_, .agg ((hc.drop off).take i.size)⟩
      simp only [part, Sem.run_bind, run_ag hT ht, Result.andThen_ok, ha, if_true, run_siz hT ht, Sem.run_pure, array_extract]
    · rename_i ha
      obtain ⟨v', h1, h2⟩ := hc.get off v h
      refine ⟨v', ?_, h2⟩
      simp only [part, Sem.run_bind, run_ag hT ht, Result.andThen_ok, ha, Bool.false_eq_true, if_false]
      simp [h1]
  · cases h

/-! ### A load -/
def pLoad (T : Tbl) (hp : Tr AO) (t : TypeId) : Value → Option Value
  | .pointer (some ⟨b, o, none⟩) => match hp.get b with
    | some (.cells _ vs) => match T.ty.get t with
      | some (i, d) => match isAggD d with
        | true => match Nat.ble (o + i.size) vs.length with
          | true => some (.agg ⟨(vs.drop o).take i.size⟩)
          | false => none
        | false => vs[o]?
      | none => none
    | _ => none
  | _ => none

theorem cells_at {θ : Th} {hp : Tr AO} {w : World} (hR : RO θ hp w.heap) {b : Nat} {esz : Nat} {vs : List Value} (hg : hp.get b = some (.cells esz vs)) {p : Pl} (hp' : θ b = some p)
    {i : Nat} {v : Value} (hv : vs[i]? = some v) : ∃ v', w.cell? ⟨p.cb, p.off + i, none⟩ = some v' ∧ VR θ v v' ∧ w.frozen? ⟨p.cb, p.off + i, none⟩ = false := by
  obtain ⟨q, hq, he, cur, e, h1, h2, h3, h4⟩ := hR.obj b _ hg
  rw [hp'] at hq; cases hq
  obtain ⟨v', x, y⟩ := h4 i v hv
  refine ⟨v', ?_, y, ?_⟩
  · simp [World.cell?, h1, x]
  · simp [World.frozen?, h1]

theorem cells_list {θ : Th} {hp : Tr AO} {w : World} (hR : RO θ hp w.heap) {b : Nat} {esz : Nat} {vs : List Value} (hg : hp.get b = some (.cells esz vs)) {p : Pl} (hp' : θ b = some p)
    {o n : Nat} (hn : o + n ≤ vs.length) : ∃ cs', cs'.length = n ∧ LR θ ((vs.drop o).take n) cs' ∧ ∀ j v', cs'[j]? = some v' → w.cell? ⟨p.cb, p.off + o + j, none⟩ = some v' := by
  obtain ⟨q, hq, he, cur, e, h1, h2, h3, h4⟩ := hR.obj b _ hg
  rw [hp'] at hq; cases hq
  refine ⟨(cur.toList.drop (p.off + o)).take n, by simp; omega, LR.of_get (by simp; omega) ?_, ?_⟩
  · intro i x x' hx hx'
    rw [List.getElem?_take] at hx hx'
    split at hx
    · rw [if_pos (by assumption)] at hx'
      rw [List.getElem?_drop] at hx hx'
      obtain ⟨v', y, z⟩ := h4 (o + i) x hx
      rw [show p.off + (o + i) = p.off + o + i by omega] at y
      rw [Array.getElem?_toList, y] at hx'
      cases hx'; exact z
    · cases hx
  · intro j v' hj
    rw [List.getElem?_take] at hj
    split at hj
    · rw [List.getElem?_drop, Array.getElem?_toList] at hj
      simp [World.cell?, h1, hj]
    · cases hj

theorem pLoad_sound {P : Program} {T : Tbl} (hT : TblOK P T) {θ : Th} {hp : Tr AO} {w : World} (hR : RO θ hp w.heap) {t : TypeId} {a a' v : Value} (ha : VR θ a a')
    (h : pLoad T hp t a = some v) : ∃ v', (Instr.loadAt t a').run P w = .ok v' w ∧ VR θ v v' := by
  unfold pLoad at h
  split at h
  · rename_i b o
    split at h
    · rename_i esz vs hg
      cases ha with
      | ptr hp' =>
        rename_i p
        split at h
        · rename_i i d ht
          split at h
          · rename_i hag
            split at h
            · rename_i hle
              cases h
              obtain ⟨cs', hl, hlr, hc⟩ := cells_list hR hg hp' (Nat.le_of_ble_eq_true hle)
              refine ⟨.agg ⟨cs'⟩, ?_, .agg hlr⟩
              have := run_loadCells_list (P := P) w ⟨p.cb, p.off + o, none⟩ cs' (fun j v hv => by rw [Addr.add_lit]; exact hc j v hv)
              simp only [Instr.loadAt, Instr.sureAddr, loadVar, Sem.run_bind, Sem.run_pure, Result.andThen_ok, run_ag hT ht, hag, if_true, run_siz hT ht]
              rw [hl] at this
              rw [this]; rfl
            · cases h
          · rename_i hag
            obtain ⟨v', hc, hr, _⟩ := cells_at hR hg hp' h
            refine ⟨v', ?_, hr⟩
            simp [Instr.loadAt, Instr.sureAddr, loadVar, run_ag hT ht, hag, hc]
        · cases h
    · cases h
  · cases h

/-! ### Addresses -/
def pField (T : Tbl) (s : TypeId) (f : Nat) : Value → Option Value
  | .agg ⟨cs⟩ => match T.ty.get s with
    | some (_, .struct fs) => match fs[f]? with
      | some fd => pPart T fd.type cs fd.offset
      | none => none
    | _ => none
  | _ => none
theorem pField_sound {P : Program} {T : Tbl} (hT : TblOK P T) {θ : Th} {s : TypeId} {f : Nat} {a a' v : Value} (ha : VR θ a a') (w : World)
    (h : pField T s f a = some v) : ∃ v', (Instr.field s a' f).run P w = .ok v' w ∧ VR θ v v' := by
  unfold pField at h
  split at h
  · split at h
    · rename_i cs _ fs ht
      split at h
      · rename_i fd hf
        cases ha with
        | agg hl =>
          obtain ⟨v', h1, h2⟩ := pPart_sound hT hl w h
          refine ⟨v', ?_, h2⟩
          simp [Instr.field, run_und hT ht, hf, asAgg, h1]
      · cases h
    · cases h
  · cases h

def pFieldAddr (T : Tbl) (s : TypeId) (f : Nat) : Value → Option Value
  | .pointer (some ⟨b, o, none⟩) => match T.ty.get s with
    | some (_, .struct fs) => match fs[f]? with
      | some fd => match T.ty.get fd.type with
        | some (i, _) => match Nat.beq i.size 0 with
          | false => some (.pointer (some ⟨b, o + fd.offset, none⟩))
          | true => none
        | none => none
      | none => none
    | _ => none
  | _ => none
theorem pFieldAddr_sound {P : Program} {T : Tbl} (hT : TblOK P T) {θ : Th} {s : TypeId} {f : Nat} {a a' v : Value} (ha : VR θ a a') (w : World)
    (h : pFieldAddr T s f a = some v) : ∃ v', (Instr.fieldAt s a' f).run P w = .ok v' w ∧ VR θ v v' := by
  unfold pFieldAddr at h
  split at h
  · split at h
    · rename_i b o _ fs ht
      split at h
      · rename_i fd hf
        split at h
        · rename_i i d htf
          split at h
          · rename_i hz
            cases h
            cases ha with
            | ptr hp' =>
              rename_i p
              refine ⟨_, ?_, .ptr hp'⟩
              have hz' : i.size ≠ 0 := Nat.ne_of_beq_eq_false hz
              simp [Instr.fieldAt, run_und hT ht, hf, Instr.sureAddr, fieldPlace, run_siz hT htf, hz', Addr.add_lit, Nat.add_assoc]
          · cases h
        · cases h
      · cases h
    · cases h
  · cases h

def pIndexAddr (T : Tbl) (t : TypeId) : Value → Value → Option Value
  | .slice (some ⟨b, o, none⟩) len _, .int _ (.ofNat n) => match T.ty.get t with
    | some (_, .slice e) => match T.ty.get e with
      | some (i, _) => match Nat.blt n len with
        | true => some (.pointer (some ⟨b, o + n * i.size, none⟩))
        | false => none
      | none => none
    | _ => none
  | .pointer (some ⟨b, o, none⟩), .int _ (.ofNat n) => match T.ty.get t with
    | some (_, .array len e) => match T.ty.get e with
      | some (i, _) => match Nat.blt n len with
        | true => some (.pointer (some ⟨b, o + n * i.size, none⟩))
        | false => none
      | none => none
    | _ => none
  | _, _ => none
omit [SemC] in
theorem blt_spec {a b : Nat} (h : Nat.blt a b = true) : a < b := Nat.le_of_ble_eq_true h
theorem pIndexAddr_sound {P : Program} {T : Tbl} (hT : TblOK P T) {θ : Th} {t : TypeId} {a a' i i' v : Value} (ha : VR θ a a') (hi : VR θ i i') (w : World)
    (h : pIndexAddr T t a i = some v) : ∃ v', (Instr.indexAt t a' i').run P w = .ok v' w ∧ VR θ v v' := by
  unfold pIndexAddr at h
  split at h
  · rename_i b o len cap k n
    split at h
    · rename_i e ht
      split at h
      · rename_i ie de hte
        split at h
        · rename_i hlt
          cases h
          have hn := blt_spec hlt
          cases hi
          have key : ∀ (p : Pl) (cap' : Nat), θ b = some p → (Instr.indexAt t (.slice (some ⟨p.cb, p.off + o, none⟩) len cap') (.int k (Int.ofNat n))).run P w = .ok (.pointer (some ⟨p.cb, p.off + (o + n * ie.size), none⟩)) w := by
            intro p cap' _
            simp [Instr.indexAt, run_und hT ht, asIntOf, hn, run_siz hT hte, Addr.add_lit, Nat.add_assoc]
          cases ha with
          | sl hp' _ => exact ⟨_, key _ _ hp', .ptr hp'⟩
          | slU hp' _ _ => exact ⟨_, key _ _ hp', .ptr hp'⟩
          | slZ => omega
        · cases h
      · cases h
    · cases h
  · rename_i b o k n
    split at h
    · rename_i len e ht
      split at h
      · rename_i ie de hte
        split at h
        · rename_i hlt
          cases h
          have hn := blt_spec hlt
          cases hi
          cases ha with
          | ptr hp' =>
            rename_i p
            refine ⟨_, ?_, .ptr hp'⟩
            simp [Instr.indexAt, run_und hT ht, asIntOf, hn, run_siz hT hte, Addr.add_lit, Nat.add_assoc, Instr.sureAddr]
        · cases h
      · cases h
    · cases h
  · cases h

def pIndex (T : Tbl) (t : TypeId) : Value → Value → Option Value
  | .agg ⟨cs⟩, .int _ (.ofNat n) => match T.ty.get t with
    | some (_, .array len e) => match T.ty.get e with
      | some (i, _) => match Nat.blt n len with
        | true => pPart T e cs (n * i.size)
        | false => none
      | none => none
    | _ => none
  | .string ⟨⟨bs⟩⟩, .int _ (.ofNat n) => match T.ty.get t with
    | some (_, .string) => match bs[n]? with
      | some c => some (.int .u8 c.toNat)
      | none => none
    | _ => none
  | _, _ => none
theorem pIndex_sound {P : Program} {T : Tbl} (hT : TblOK P T) {θ : Th} {t : TypeId} {a a' i i' v : Value} (ha : VR θ a a') (hi : VR θ i i') (w : World)
    (h : pIndex T t a i = some v) : ∃ v', (Instr.index t a' i').run P w = .ok v' w ∧ VR θ v v' := by
  unfold pIndex at h
  split at h
  · rename_i cs k n
    split at h
    · rename_i len e ht
      split at h
      · rename_i ie de hte
        split at h
        · rename_i hlt
          have hn := blt_spec hlt
          cases hi
          cases ha with
          | agg hl =>
            obtain ⟨v', h1, h2⟩ := pPart_sound hT hl w h
            refine ⟨v', ?_, h2⟩
            simp [Instr.index, run_und hT ht, asIntOf, hn, run_siz hT hte, h1]
        · cases h
      · cases h
    · cases h
  · rename_i bs k n
    split at h
    · rename_i ht
      split at h
      · rename_i c hc
        cases h
        cases hi
        cases ha
        refine ⟨_, ?_, .int _ _⟩
        have hn : n < bs.length := (List.getElem?_eq_some_iff.1 hc).1
        have hcc : (⟨⟨bs⟩⟩ : ByteArray)[n]? = some c := by
          rw [getElem?_pos _ n (by simpa [ByteArray.size] using hn)]
          obtain ⟨h1, h2⟩ := List.getElem?_eq_some_iff.1 hc
          congr 1
        simp [Instr.index, run_und hT ht, asIntOf, hcc]
      · cases h
    · cases h
  · cases h
end
end Go.Am
