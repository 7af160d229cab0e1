/- The plain data of the program, and an interpreter for its Go functions over values without memory. -/
import Derived.WalkKit
import Derived.Below
namespace Go.Proofs.YtbjkpogfgijmaaaGreat
open Go
set_option linter.unusedVariables false
set_option linter.unusedSimpArgs false

/-! ### The program's structs as plain data -/
structure IntD where
  neg : Bool
  limbs : List Int
  deriving Inhabited
structure RatD where
  num : IntD
  den : IntD
  deriving Inhabited
structure RootD where
  A : RatD
  B : RatD
  C : RatD
  deriving Inhabited
structure QuadD where
  A : RatD
  B : RatD
  C : RatD
  D : RatD
  M : RatD
  N : RatD
  deriving Inhabited
structure IvD where
  Low : RatD
  High : RatD
  deriving Inhabited
structure VecD where
  X : RatD
  Y : RatD
  deriving Inhabited
structure PointD where
  AX : RatD
  BX : RatD
  AY : RatD
  BY : RatD
  C : RatD
  deriving Inhabited
structure LineD where
  A : RatD
  B : RatD
  C : RatD
  deriving Inhabited
structure CircleD where
  X : RatD
  Y : RatD
  Q : RatD
  deriving Inhabited
structure CurveD where
  Arc : Bool
  Line : LineD
  Circle : CircleD
  Cw : Bool
  From : PointD
  To : PointD
  deriving Inhabited
structure PosD where
  X : Int
  Y : Int
  Z : Int
  deriving Inhabited
structure PartD where
  Length : Int
  Speed : Int
  Corner : Int
  deriving Inhabited
structure MotionD where
  From : PosD
  To : PosD
  Rate : Int
  Tool : Int
  Block : Int
  deriving Inhabited
structure SurdD where
  A : Int
  B : Int
  C : Int
  D : Int
  E : Int
  F : Int
  deriving Inhabited

/-- What a slice's elements can be. -/
inductive ETy where
  | i (k : IntKind)
  | rat | root | point | curve | part | motion
  deriving DecidableEq
@[reducible] def ETy.T : ETy → Type
  | .i _ => Int
  | .rat => RatD
  | .root => RootD
  | .point => PointD
  | .curve => CurveD
  | .part => PartD
  | .motion => MotionD
def ETy.dflt : (e : ETy) → e.T
  | .i _ => (0 : Int)
  | .rat => default
  | .root => default
  | .point => default
  | .curve => default
  | .part => default
  | .motion => default

/-- A variable or a row of the call's own: by the slot that first held it, and the region in which it was made. -/
abbrev BId := Nat × Nat

/-- What one cell of memory can hold, as plain data that nobody changes. -/
inductive PL where
  | int (k : IntKind) (n : Int)
  | bool (b : Bool)
  | sl (e : ETy) (xs : List e.T)
  | nil
/-- What a slot or a variable of the call can hold. -/
inductive Leaf where
  | p (x : PL)
  | ref (b : BId) (off : Nat)
  | eref (b : BId) (i off : Nat)
  | own (b : BId)
  | osl (b : BId) (lo hi : Nat)
  | imm (ls : List PL) (off : Nat)
  | clo (f : FuncId) (caps : List (List PL))
  | fresh (e : ETy) (et : TypeId) (xs : List e.T)
  | undef
  | void
inductive AV where
  | lf (l : Leaf)
  | st (ls : List Leaf)
  | tup (vs : List AV)

def IntD.lv (a : IntD) : List PL := [.bool a.neg, .sl (.i .u32) a.limbs]
def RatD.lv (a : RatD) : List PL := a.num.lv ++ a.den.lv
def RootD.lv (a : RootD) : List PL := a.A.lv ++ a.B.lv ++ a.C.lv
def QuadD.lv (a : QuadD) : List PL := a.A.lv ++ a.B.lv ++ a.C.lv ++ a.D.lv ++ a.M.lv ++ a.N.lv
def IvD.lv (a : IvD) : List PL := a.Low.lv ++ a.High.lv
def VecD.lv (a : VecD) : List PL := a.X.lv ++ a.Y.lv
def PointD.lv (a : PointD) : List PL := a.AX.lv ++ a.BX.lv ++ a.AY.lv ++ a.BY.lv ++ a.C.lv
def LineD.lv (a : LineD) : List PL := a.A.lv ++ a.B.lv ++ a.C.lv
def CircleD.lv (a : CircleD) : List PL := a.X.lv ++ a.Y.lv ++ a.Q.lv
def CurveD.lv (a : CurveD) : List PL := .bool a.Arc :: (a.Line.lv ++ a.Circle.lv ++ .bool a.Cw :: (a.From.lv ++ a.To.lv))
def PosD.lv (a : PosD) : List PL := [.int .i64 a.X, .int .i64 a.Y, .int .i64 a.Z]
def PartD.lv (a : PartD) : List PL := [.int .i64 a.Length, .int .i64 a.Speed, .int .i64 a.Corner]
def MotionD.lv (a : MotionD) : List PL := a.From.lv ++ a.To.lv ++ [.int .i64 a.Rate, .int .i64 a.Tool, .int .i64 a.Block]
def SurdD.lv (a : SurdD) : List PL := [.int .i16 a.A, .int .i16 a.B, .int .u16 a.C, .int .u8 a.D, .int .u8 a.E, .int .u8 a.F]

def ETy.sz : ETy → Nat
  | .i _ => 1
  | .rat => 4
  | .root => 12
  | .point => 20
  | .curve => 66
  | .part => 3
  | .motion => 9
def ETy.enc : (e : ETy) → e.T → List PL
  | .i k, n => [.int k n]
  | .rat, a => RatD.lv a
  | .root, a => RootD.lv a
  | .point, a => PointD.lv a
  | .curve, a => CurveD.lv a
  | .part, a => PartD.lv a
  | .motion, a => MotionD.lv a
/-- A struct's cells. -/
def lvs (l : List PL) : List Leaf := l.map .p
/-- The pure cells, if all are. -/
def pls : List Leaf → Option (List PL)
  | [] => some []
  | .p x :: r => (pls r).bind fun y => some (x :: y)
  | _ :: _ => none
theorem ETy.enc_len (e : ETy) (x : e.T) : (e.enc x).length = e.sz := by
  cases e <;> rfl

/-! ### Reading plain data back -/
def castE {e' e : ETy} (h : e' = e) (xs : List e'.T) : List e.T := h ▸ xs
@[simp] theorem castE_self {e : ETy} (h : e = e) (xs : List e.T) : castE h xs = xs := rfl
def dSl (e : ETy) : PL → Option (List e.T)
  | .nil => some []
  | .sl e' xs => if h : e' = e then some (castE h xs) else none
  | _ => none
def dInt (k : IntKind) : PL → Option Int
  | .int k' n => if k' = k then some n else none
  | _ => none
def dBool : PL → Option Bool
  | .bool b => some b
  | _ => none
def dIntD : List PL → Option IntD
  | [a, b] => (dBool a).bind fun x => (dSl (.i .u32) b).bind fun y => some ⟨x, y⟩
  | _ => none
def dRat (l : List PL) : Option RatD := (dIntD (l.take 2)).bind fun x => (dIntD (l.drop 2)).bind fun y => some ⟨x, y⟩
def dRoot (l : List PL) : Option RootD := (dRat (l.take 4)).bind fun x => (dRat ((l.drop 4).take 4)).bind fun y => (dRat (l.drop 8)).bind fun z => some ⟨x, y, z⟩
def dQuad (l : List PL) : Option QuadD := (dRat (l.take 4)).bind fun a => (dRat ((l.drop 4).take 4)).bind fun b => (dRat ((l.drop 8).take 4)).bind fun c =>
  (dRat ((l.drop 12).take 4)).bind fun d => (dRat ((l.drop 16).take 4)).bind fun m => (dRat (l.drop 20)).bind fun n => some ⟨a, b, c, d, m, n⟩
def dIv (l : List PL) : Option IvD := (dRat (l.take 4)).bind fun x => (dRat (l.drop 4)).bind fun y => some ⟨x, y⟩
def dVec (l : List PL) : Option VecD := (dRat (l.take 4)).bind fun x => (dRat (l.drop 4)).bind fun y => some ⟨x, y⟩
def dPoint (l : List PL) : Option PointD := (dRat (l.take 4)).bind fun a => (dRat ((l.drop 4).take 4)).bind fun b => (dRat ((l.drop 8).take 4)).bind fun c =>
  (dRat ((l.drop 12).take 4)).bind fun d => (dRat (l.drop 16)).bind fun m => some ⟨a, b, c, d, m⟩
def dLine (l : List PL) : Option LineD := (dRat (l.take 4)).bind fun x => (dRat ((l.drop 4).take 4)).bind fun y => (dRat (l.drop 8)).bind fun z => some ⟨x, y, z⟩
def dCircle (l : List PL) : Option CircleD := (dRat (l.take 4)).bind fun x => (dRat ((l.drop 4).take 4)).bind fun y => (dRat (l.drop 8)).bind fun z => some ⟨x, y, z⟩
def dCurve : List PL → Option CurveD
  | a :: l => (dBool a).bind fun arc => (dLine (l.take 12)).bind fun line => (dCircle ((l.drop 12).take 12)).bind fun circ =>
    match l.drop 24 with
    | c :: m => (dBool c).bind fun cw => (dPoint (m.take 20)).bind fun p => (dPoint (m.drop 20)).bind fun q => some ⟨arc, line, circ, cw, p, q⟩
    | [] => none
  | [] => none
def dPos : List PL → Option PosD
  | [a, b, c] => (dInt .i64 a).bind fun x => (dInt .i64 b).bind fun y => (dInt .i64 c).bind fun z => some ⟨x, y, z⟩
  | _ => none
def dPart : List PL → Option PartD
  | [a, b, c] => (dInt .i64 a).bind fun x => (dInt .i64 b).bind fun y => (dInt .i64 c).bind fun z => some ⟨x, y, z⟩
  | _ => none
def dMotion (l : List PL) : Option MotionD := (dPos (l.take 3)).bind fun p => (dPos ((l.drop 3).take 3)).bind fun q =>
  match l.drop 6 with
  | [a, b, c] => (dInt .i64 a).bind fun x => (dInt .i64 b).bind fun y => (dInt .i64 c).bind fun z => some ⟨p, q, x, y, z⟩
  | _ => none
def dSurd : List PL → Option SurdD
  | [a, b, c, d, e, f] => (dInt .i16 a).bind fun x => (dInt .i16 b).bind fun y => (dInt .u16 c).bind fun z => (dInt .u8 d).bind fun u => (dInt .u8 e).bind fun v => (dInt .u8 f).bind fun w => some ⟨x, y, z, u, v, w⟩
  | _ => none
def ETy.dec : (e : ETy) → List PL → Option e.T
  | .i k, l => match l with
    | [a] => dInt k a
    | _ => none
  | .rat, l => dRat l
  | .root, l => dRoot l
  | .point, l => dPoint l
  | .curve, l => dCurve l
  | .part, l => dPart l
  | .motion, l => dMotion l

end Go.Proofs.YtbjkpogfgijmaaaGreat
