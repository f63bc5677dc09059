/- CertificateImplies: the sorts of its data, and what its functions are to answer. -/
import Derived.Test.YtckboonjjlpogaaGreatSy6
set_option linter.unusedVariables false
set_option linter.unusedSimpArgs false
namespace Go.Am
open Go.RowKit
noncomputable section

/-! ### Sorts: type 4's own number stands for the decisions of decisions -/
def segK : List SK := [.int .i64, .int .i64, .int .i64, .int .i64, .bool, .int .i64, .int .i64, .bool]
def msgK : List SK := [.int .i64, .int .i64, .int .i64, .int .i64, .int .i64, .int .i64, .int .i64, .int .i64, .int .i64, .int .i64]
def serK : List SK := [.str, .str, .int .i64, .int .i64, .int .i64, .int .i64, .slice 3]
def factD (d : TypeId) : List SK := [.int .i64, .int .i64, .int .i64, .bool, .int .i64, .int .i64, .bool, .int .i64, .int .i64, .slice 74,
  .str, .str, .int .i64, .int .i64, .int .i64, .int .i64, .slice 3, .int .i64, .slice 3, .int .i64, .str, .slice 71, .slice 71, .slice d, .slice 3]
def factK : List SK := factD 37
def factL : List SK := factD 4
def kn : TypeId → List SK := fun t => match Nat.beq t 37, Nat.beq t 74, Nat.beq t 71, Nat.beq t 3, Nat.beq t 4 with
  | true, _, _, _, _ => factL
  | _, true, _, _, _ => segK
  | _, _, true, _, _ => msgK
  | _, _, _, true, _ => [.int .i64]
  | _, _, _, _, true => [.other]
  | _, _, _, _, _ => []

/-! ### Terms -/
def sy (n : Nat) : TM := .v (.chan (some n))
def cn (n : Nat) : TM := .v (nv n)
def eqX (t : TypeId) (x y : TM) : BX := .a (.ap 0 [cn t, x, y])
def ltX (x y : TM) : BX := .a (.ap 1 [x, y])
def geX (x y : TM) : BX := .not (ltX x y)
def leX (x y : TM) : BX := .not (ltX y x)
def lnX (x : TM) : TM := .ap 5 [x]
def adX (x y : TM) : TM := .ap 2 [x, y]
def ceX (s i : TM) (e k : Nat) : TM := .ap 6 [s, i, cn e, cn k]
def elL (s i : TM) (e : TypeId) : Nat → Nat → List TM
  | _, 0 => []
  | k, n + 1 => ceX s i e k :: elL s i e (k + 1) n
def syL : Nat → Nat → List TM
  | _, 0 => []
  | k, n + 1 => sy k :: syL (k + 1) n
def aggX (k n : Nat) : TM := .agg (syL k n)
def allX : List BX → BX
  | [] => .tt
  | [x] => x
  | x :: y :: l => .and x (allX (y :: l))
/-- The question that is asked of each row. -/
def rowX (e : TypeId) (n : Nat) (p q I : Nat) : BX := eqX e (.agg (elL (sy p) (sy I) e 0 n)) (.agg (elL (sy q) (sy I) e 0 n))
def intX (p q I : Nat) : BX := eqX 3 (ceX (sy p) (sy I) 3 0) (ceX (sy q) (sy I) 3 0)
def decX (p q I : Nat) : BX := .a (.ap 25 [.agg (elL (sy p) (sy I) 37 0 25), .agg (elL (sy q) (sy I) 37 0 25)])
def fewX (p I : Nat) : BX := .not (.or (ltX (cn 0) (lnX (ceX (sy p) (sy I) 37 23))) (ltX (cn 4) (adX (adX (adX (adX (adX (lnX (ceX (sy p) (sy I) 37 9)) (lnX (ceX (sy p) (sy I) 37 18)))
  (lnX (ceX (sy p) (sy I) 37 16))) (lnX (ceX (sy p) (sy I) 37 21))) (lnX (ceX (sy p) (sy I) 37 22))) (lnX (ceX (sy p) (sy I) 37 24)))))

def lpR (slot : Tmp) (e n tag : Nat) : LP := ⟨slot, 0, rowX e n 0 1, tag, [sy 0, sy 1]⟩
def lpI (slot : Tmp) : LP := ⟨slot, 0, intX 0 1, 31, [sy 0, sy 1]⟩
def lpD (slot : Tmp) (p q : Nat) : LP := ⟨slot, p, decX p q, 33, [sy p, sy q]⟩
def lpF : LP := ⟨3, 23, fewX 23, 35, [sy 23]⟩

/-! ### What is answered -/
def eqLX (tag : Nat) (p q : Nat) : BX := .and (eqX 3 (lnX (sy p)) (lnX (sy q))) (.a (.ap tag [sy p, sy q]))
def sameX : BX := allX [eqX 9 (sy 0) (sy 7), eqX 9 (sy 1) (sy 8), eqX 3 (sy 2) (sy 9), eqX 28 (aggX 3 2) (aggX 10 2)]
def serX : BX := allX [.a (.ap 34 [aggX 0 7, aggX 7 7]), eqX 3 (sy 5) (sy 12), .a (.ap 17 [sy 6, sy 13])]
def evX : BX := .and (eqX 25 (aggX 1 3) (aggX 26 3)) (eqX 25 (aggX 4 3) (aggX 29 3))
def wiX : BX := .and (geX (sy 7) (sy 32)) (leX (sy 8) (sy 33))
def implX : BX :=
  .ite (.and (eqX 3 (sy 25) (cn 1)) (.or (eqX 3 (sy 0) (cn 1)) (eqX 3 (sy 0) (cn 2)))) (.and evX (geX (sy 7) (sy 32)))
  (.ite (.not (eqX 3 (sy 0) (sy 25))) .ff
  (.ite (eqX 3 (sy 0) (cn 2)) (.and evX wiX)
  (.ite (eqX 3 (sy 0) (cn 3)) (.and (eqX 25 (aggX 1 3) (aggX 26 3)) (.a (.ap 16 [sy 9, sy 34])))
  (.ite (eqX 3 (sy 0) (cn 4)) (allX [.a (.ap 19 [aggX 10 7, aggX 35 7]), eqX 3 (sy 17) (sy 42), .a (.ap 17 [sy 18, sy 43])])
  (.ite (eqX 3 (sy 0) (cn 5)) (allX [eqX 3 (sy 19) (sy 44), eqX 9 (sy 20) (sy 45), wiX]) .ff)))))
def equalX (d : BX) : BX := allX [eqX 3 (sy 0) (sy 25), eqX 25 (aggX 1 3) (aggX 26 3), eqX 25 (aggX 4 3) (aggX 29 3), eqX 3 (sy 7) (sy 32), eqX 3 (sy 8) (sy 33),
  .a (.ap 16 [sy 9, sy 34]), .a (.ap 19 [aggX 10 7, aggX 35 7]), eqX 3 (sy 17) (sy 42), .a (.ap 17 [sy 18, sy 43]), eqX 3 (sy 19) (sy 44), eqX 9 (sy 20) (sy 45),
  .a (.ap 18 [sy 21, sy 46]), .a (.ap 18 [sy 22, sy 47]), .a (.ap 17 [sy 24, sy 49]), d]
def fnV : TM := .v (.func (.func 9) #[] #[])
def d9 : BX := .a (.ap 20 [sy 23, sy 48, fnV])
def d10 : BX := eqLX 33 23 48
def fewAX : BX := allX [.a (.ap 35 [sy 23]), leX (lnX (sy 23)) (cn 4), leX (lnX (sy 9)) (cn 4), leX (lnX (sy 18)) (cn 4), leX (lnX (sy 16)) (cn 4), leX (lnX (sy 21)) (cn 4), leX (lnX (sy 22)) (cn 4), leX (lnX (sy 24)) (cn 4)]

/-! ### Tables -/
def addR (f : FuncId) (r : Row) (B : Tab) : Tab := fun g => match Nat.beq g f with
  | true => some r
  | false => B g
def noT : Tab := fun _ => none
def asS (e : TypeId) : List AS := [.one (.slice e), .one (.slice e)]
def asF (l : List SK) : List AS := [.agg l, .agg l]
def r16 : Row := ⟨16, asS 74, .bool⟩
def r17 : Row := ⟨17, asS 3, .bool⟩
def r18 : Row := ⟨18, asS 71, .bool⟩
def r34 : Row := ⟨34, asF serK, .bool⟩
def r19 : Row := ⟨19, asF serK, .bool⟩
def r20 : Row := ⟨20, [.one (.slice 37), .one (.slice 37), .fn 9], .bool⟩
def r21 : Row := ⟨21, asF factK, .bool⟩
def r22 : Row := ⟨22, asF factK, .bool⟩
def r25 : Row := ⟨25, asF factL, .bool⟩
def r23 : Row := ⟨23, [.agg factK], .bool⟩
def r24 : Row := ⟨24, [], .boolK true⟩
def bSer : Tab := addR 46 r34 (addR 22 r17 noT)
def bAll : Tab := addR 20 r16 (addR 23 r16 (addR 22 r17 (addR 24 r17 (addR 25 r18 (addR 27 r18 (addR 21 r19 noT))))))
def b26 : Tab := addR 9 r25 noT
def b9 : Tab := addR 26 r20 bAll
def b10 : Tab := addR 10 r25 bAll
def bLaw : Tab := addR 5 r24 (addR 6 r23 (addR 7 r21 (addR 8 r21 (addR 9 r22 (addR 10 r22 noT)))))
def asLaw : List AS := [.agg factK, .agg factK, .agg [.int .i8, .int .i8, .int .i8]]
end
end Go.Am
