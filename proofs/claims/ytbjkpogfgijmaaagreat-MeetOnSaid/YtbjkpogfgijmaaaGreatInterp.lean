/- An interpreter for the loaded functions over plain data: what an operation, a region, a piece of code and a function come to. -/
import Derived.Test.YtbjkpogfgijmaaaGreatData
namespace Go.Proofs.YtbjkpogfgijmaaaGreat
open Go
set_option linter.unusedVariables false
set_option linter.unusedSimpArgs false

/-- What the interpreter knows of a type. -/
inductive TD where
  | int (k : IntKind)
  | bool
  | slice (e : ETy) (et : TypeId)
  | struct (fs : List (Nat × Nat × Bool))
  | array (n : Nat) (esz : Nat) (eagg : Bool)
  | other
structure TI where
  td : TD
  size : Nat
  agg : Bool
  bytes : Nat
  zero : List PL

inductive Blk where
  | var (ls : List Leaf)
  | arr (e : ETy) (et : TypeId) (xs : List e.T)

structure St where
  tm : List (Nat × AV)
  bk : List (BId × Option Blk)
  ep : Nat

def bidEq (a b : BId) : Bool := Nat.beq a.1 b.1 && Nat.beq a.2 b.2
def lk : List (Nat × AV) → Nat → AV
  | [], _ => .lf .undef
  | (k, v) :: r, t => bif Nat.beq k t then v else lk r t
def lkb : List (BId × Option Blk) → BId → Option Blk
  | [], _ => none
  | (k, v) :: r, t => bif bidEq k t then v else lkb r t

def cst : Value → AV
  | .int k n => .lf (.p (.int k n))
  | .bool b => .lf (.p (.bool b))
  | .slice none 0 0 => .lf (.p .nil)
  | _ => .lf .undef
def evA (tm : List (Nat × AV)) : Operand → AV
  | .tmp t => lk tm t
  | .const v => cst v
  | .func f => .lf (.clo f [])
  | .global _ => .lf .undef

structure Ev where
  val : AV
  blk : List (BId × Option Blk)
  use : List BId

/-- A piece of code that only answers. -/
def ans (v : AV) : Ev := ⟨v, [], []⟩
def ansL (l : Leaf) : Ev := ⟨.lf l, [], []⟩
def ansP (x : PL) : Ev := ⟨.lf (.p x), [], []⟩

inductive Slot : Type 1 where
  | val (t : Nat) (T : Type) (enc : T → AV) (dec : AV → Option T)
  | arr (t : Nat) (e : ETy) (et : TypeId)
  | var (t : Nat) (T : Type) (enc : T → List PL) (dec : List PL → Option T)
def Slot.T : Slot → Type
  | .val _ T _ _ => T
  | .arr _ e _ => List e.T
  | .var _ T _ _ => T
def SV : List Slot → Type
  | [] => Unit
  | s :: r => s.T × SV r

inductive Ex where
  | normal
  | exit (id : Nat)
  | ret

/-- How a loop is left: the ways, and what is then known. -/
def SX : List (Ex × List Slot) → Type
  | [] => Empty
  | [x] => SV x.2
  | x :: y :: r => SV x.2 ⊕ SX (y :: r)

inductive LoopAnn : Type 1 where
  | unroll (n : Nat)
  | norm (k : Nat) (l : List Slot) (outs : List (Ex × List Slot))

structure Ctx where
  nt : Nat
  ty : TypeId → Option TI
  call : {R : Type} → FuncId → List AV → (AV → Option R) → Option R
  mutf : FuncId → Bool
  mcall : {R : Type} → FuncId → List Int → List AV → (AV → List Int → Option R) → Option R
  loops : Nat → LoopAnn
  nb : Bool
  u32 : TypeId
  cut : Bool

/-! ### Arithmetic -/
def intBin {R : Type} (op : BinOp) (k : IntKind) (a : Int) (k' : IntKind) (b : Int) (K : PL → Option R) : Option R :=
  match op with
  | .shr => bif decide (b < 0) then none else K (.int k (a.fdiv (2 ^ (min b.toNat k.bits))))
  | .shl => bif decide (b < 0) then none else K (.int k (k.wrap (a * 2 ^ (min b.toNat k.bits))))
  | .add => if k = k' then K (.int k (k.wrap (a + b))) else none
  | .sub => if k = k' then K (.int k (k.wrap (a - b))) else none
  | .mul => if k = k' then K (.int k (k.wrap (a * b))) else none
  | .quo => if k = k' then (bif b == 0 then none else K (.int k (k.wrap (a.tdiv b)))) else none
  | .rem => if k = k' then (bif b == 0 then none else K (.int k (a.tmod b))) else none
  | .eql => if k = k' then K (.bool (a == b)) else none
  | .neq => if k = k' then K (.bool (a != b)) else none
  | .lss => if k = k' then K (.bool (decide (a < b))) else none
  | .leq => if k = k' then K (.bool (decide (a ≤ b))) else none
  | .gtr => if k = k' then K (.bool (decide (a > b))) else none
  | .geq => if k = k' then K (.bool (decide (a ≥ b))) else none
  | _ => none
def isBoolTy (ty : TypeId → Option TI) (t : TypeId) : Bool := match ty t with
  | some ⟨.bool, _, _, _, _⟩ => true
  | _ => false
def evBin {R : Type} (ty : TypeId → Option TI) (t : TypeId) (op : BinOp) (x y : AV) (K : PL → Option R) : Option R :=
  match x, y with
  | .lf (.p (.int k a)), .lf (.p (.int k' b)) => intBin op k a k' b K
  | .lf (.p (.bool a)), .lf (.p (.bool b)) => bif isBoolTy ty t then (match op with
    | .eql => K (.bool (a == b))
    | .neq => K (.bool (!(a == b)))
    | _ => none) else none
  | _, _ => none
def evUn {R : Type} (op : UnOp) (x : AV) (K : PL → Option R) : Option R :=
  match op, x with
  | .not, .lf (.p (.bool b)) => K (.bool (!b))
  | .neg, .lf (.p (.int k n)) => K (.int k (k.wrap (0 - n)))
  | _, _ => none

/-! ### Values and cells -/
def AV.cells? : AV → Option (List Leaf)
  | .lf .undef => none
  | .lf .void => none
  | .lf (.fresh _ _ _) => none
  | .lf l => some [l]
  | .st ls => some ls
  | .tup _ => none
/-- A variable's value out of its cells. -/
def ofCells (agg : Bool) (ls : List Leaf) : Option AV := bif agg then some (.st ls) else match ls with
  | [l] => some (.lf l)
  | _ => none
def splice (ls : List Leaf) (off : Nat) (new : List Leaf) : List Leaf := ls.take off ++ new ++ ls.drop (off + new.length)
/-- The struct's cells with the parts filled in. -/
def fillL (fs : List (Nat × Nat × Bool)) : List (Nat × AV) → List Leaf → Option (List Leaf)
  | [], ls => some ls
  | (i, v) :: r, ls => match fs[i]?, v.cells? with
    | some (off, sz, _), some c => bif Nat.beq c.length sz && Nat.ble (off + sz) ls.length then fillL fs r (splice ls off c) else none
    | _, _ => none
/-- The elements of a slice literal without gaps. -/
def elemsOf (e : ETy) : Nat → List (Nat × AV) → Option (List e.T)
  | _, [] => some []
  | n, (i, v) :: r => bif Nat.beq i n then ((v.cells?.bind pls).bind e.dec).bind fun x => (elemsOf e (n + 1) r).bind fun xs => some (x :: xs) else none

/-- An own slice's elements: block, from, to. -/
def ownRange (bk : BId → Option Blk) : AV → Option (BId × Nat × Nat × TypeId × (e : ETy) × List e.T)
  | .lf (.own b) => match bk b with
    | some (.arr e et xs) => some (b, 0, xs.length, et, ⟨e, xs⟩)
    | _ => none
  | .lf (.osl b lo hi) => match bk b with
    | some (.arr e et xs) => some (b, lo, hi, et, ⟨e, xs⟩)
    | _ => none
  | _ => none

/-- What is handed on: own rows as what they hold. -/
def frzL (bk : BId → Option Blk) : Leaf → Option (Leaf × List BId)
  | .p x => some (.p x, [])
  | .own b => match bk b with
    | some (.arr e _ xs) => some (.p (.sl e xs), [b])
    | _ => none
  | .osl b lo hi => match bk b with
    | some (.arr e _ xs) => some (.p (.sl e ((xs.take hi).drop lo)), [b])
    | _ => none
  | .imm ls off => some (.imm ls off, [])
  | .clo f c => some (.clo f c, [])
  | _ => none
def frzLs (bk : BId → Option Blk) : List Leaf → Option (List Leaf × List BId)
  | [] => some ([], [])
  | l :: r => (frzL bk l).bind fun x => (frzLs bk r).bind fun y => some (x.1 :: y.1, x.2 ++ y.2)
def frzA (bk : BId → Option Blk) : AV → Option (AV × List BId)
  | .lf l => (frzL bk l).bind fun x => some (.lf x.1, x.2)
  | .st ls => (frzLs bk ls).bind fun x => some (.st x.1, x.2)
  | .tup _ => none
def frzAs (bk : BId → Option Blk) : List AV → Option (List AV × List BId)
  | [] => some ([], [])
  | l :: r => (frzA bk l).bind fun x => (frzAs bk r).bind fun y => some (x.1 :: y.1, x.2 ++ y.2)
/-- A result's parts. -/
def frzR (bk : BId → Option Blk) : AV → Option (AV × List BId)
  | .tup vs => (frzAs bk vs).bind fun x => some (.tup x.1, x.2)
  | v => frzA bk v

def Leaf.scal : Leaf → Bool
  | .p (.int ..) => true
  | .p (.bool _) => true
  | _ => false
def AV.scal1 : AV → Bool
  | .lf l => l.scal
  | .st ls => ls.all Leaf.scal
  | .tup _ => false
def AV.scal : AV → Bool
  | .tup vs => vs.all AV.scal1
  | v => v.scal1

/-- A result that is a row made for the caller. -/
def thaw (id : BId) : AV → AV × List (BId × Option Blk)
  | .lf (.fresh e et xs) => (.lf (.own id), [(id, some (.arr e et xs))])
  | .tup (.lf (.fresh e et xs) :: r) => (.tup (.lf (.own id) :: r), [(id, some (.arr e et xs))])
  | v => (v, [])

def dead (l : List BId) : List (BId × Option Blk) := l.map fun b => (b, none)

/-! ### Operations -/
def ixOk (i : Int) (n : Nat) : Bool := decide (0 ≤ i) && decide (i < (n : Int))

def evIndexAddr {R : Type} (C : Ctx) (bk : BId → Option Blk) (t : TypeId) (x ix : AV) (K : Ev → Option R) : Option R :=
  match ix with
  | .lf (.p (.int _ i)) => match C.ty t with
    | some ⟨.slice e' _, _, _, _, _⟩ => match x with
      | .lf (.p (.sl e xs)) => bif Nat.beq e'.sz e.sz && ixOk i xs.length then K (ansL (.imm (e.enc (xs.getD i.toNat e.dflt)) 0)) else none
      | .lf (.own b) => match bk b with
        | some (.arr e _ xs) => bif Nat.beq e'.sz e.sz && ixOk i xs.length then K ⟨.lf (.eref b i.toNat 0), [], [b]⟩ else none
        | _ => none
      | .lf (.osl b lo hi) => match bk b with
        | some (.arr e _ xs) => bif Nat.beq e'.sz e.sz && (ixOk i (hi - lo) && decide (hi ≤ xs.length)) then K ⟨.lf (.eref b (lo + i.toNat) 0), [], [b]⟩ else none
        | _ => none
      | _ => none
    | some ⟨.array n esz _, _, _, _, _⟩ => match x with
      | .lf (.ref b off) => bif ixOk i n then K (ansL (.ref b (off + i.toNat * esz))) else none
      | _ => none
    | _ => none
  | _ => none

def evFieldAddr {R : Type} (C : Ctx) (t : TypeId) (x : AV) (j : Nat) (K : Ev → Option R) : Option R :=
  match C.ty t with
  | some ⟨.struct fs, _, _, _, _⟩ => match fs[j]? with
    | some (fo, fsz, _) => bif Nat.beq fsz 0 then none else match x with
      | .lf (.ref b off) => K (ansL (.ref b (off + fo)))
      | .lf (.eref b i off) => K (ansL (.eref b i (off + fo)))
      | .lf (.imm ls off) => K (ansL (.imm ls (off + fo)))
      | _ => none
    | none => none
  | _ => none

def cut {T : Type} (ls : List T) (off n : Nat) : List T := (ls.drop off).take n

def evLoad {R : Type} (C : Ctx) (bk : BId → Option Blk) (t : TypeId) (x : AV) (K : Ev → Option R) : Option R :=
  match C.ty t with
  | some i => match x with
    | .lf (.ref b off) => match bk b with
      | some (.var ls) => bif Nat.ble (off + i.size) ls.length then (ofCells i.agg (cut ls off i.size)).bind fun v => K ⟨v, [], [b]⟩ else none
      | _ => none
    | .lf (.eref b ix off) => match bk b with
      | some (.arr e et xs) => bif Nat.ble (off + i.size) e.sz then (ofCells i.agg (lvs (cut (e.enc (xs.getD ix e.dflt)) off i.size))).bind fun v => K ⟨v, [], [b]⟩ else none
      | _ => none
    | .lf (.imm ls off) => bif Nat.ble (off + i.size) ls.length then (ofCells i.agg (lvs (cut ls off i.size))).bind fun v => K (ans v) else none
    | _ => none
  | none => none

def evStore {R : Type} (C : Ctx) (bk : BId → Option Blk) (t : TypeId) (x v : AV) (K : Ev → Option R) : Option R :=
  match C.ty t, v.cells? with
  | some i, some c => bif Nat.beq c.length i.size then (match x with
    | .lf (.ref b off) => match bk b with
      | some (.var ls) => bif Nat.ble (off + i.size) ls.length then K ⟨.lf .undef, [(b, some (.var (splice ls off c)))], [b]⟩ else none
      | _ => none
    | .lf (.eref b ix off) => match bk b with
      | some (.arr e et xs) => bif Nat.beq off 0 && Nat.beq i.size e.sz then ((pls c).bind e.dec).bind fun y => K ⟨.lf .undef, [(b, some (.arr e et (xs.set ix y)))], [b]⟩ else none
      | _ => none
    | _ => none) else none
  | _, _ => none

/-- A bound of a slice expression. -/
def bnd (ev : Operand → AV) : Option Operand → Option (Option Int)
  | none => some none
  | some x => match ev x with
    | .lf (.p (.int _ n)) => some (some n)
    | _ => none
def tk {T : Type} (xs : List T) : Option Int → List T
  | none => xs
  | some h => xs.take h.toNat
def dp {T : Type} (xs : List T) : Option Int → List T
  | none => xs
  | some l => xs.drop l.toNat
def sliceOk (n : Int) : Option Int → Option Int → Option Int → Bool
  | none, none, none => true
  | some l, none, none => decide (0 ≤ l) && decide (l ≤ n)
  | none, some h, none => decide (0 ≤ h) && decide (h ≤ n)
  | some l, some h, none => decide (0 ≤ l) && (decide (l ≤ h) && decide (h ≤ n))
  | none, some h, some m => decide (0 ≤ h) && (decide (h ≤ m) && decide (m ≤ n))
  | some l, some h, some m => decide (0 ≤ l) && (decide (l ≤ h) && (decide (h ≤ m) && decide (m ≤ n)))
  | _, none, some _ => false
def loN : Option Int → Nat
  | none => 0
  | some l => l.toNat
def hiN (n : Nat) : Option Int → Nat
  | none => n
  | some h => h.toNat
def evSlice {R : Type} (C : Ctx) (id : Option BId) (ev : Operand → AV) (bk : BId → Option Blk) (t : TypeId) (x : AV) (lo hi mx : Option Operand) (K : Ev → Option R) : Option R :=
  match C.ty t with
  | some ⟨.slice e' _, _, _, _, _⟩ =>
    (bnd ev lo).bind fun l => (bnd ev hi).bind fun h => (bnd ev mx).bind fun m => match x with
      | .lf (.p (.sl e xs)) => bif Nat.beq e'.sz e.sz && sliceOk xs.length l h m then K (ansP (.sl e (dp (tk xs h) l))) else none
      | .lf (.own b) => match m, bk b with
        | none, some (.arr e et xs) => bif Nat.beq e'.sz e.sz && sliceOk xs.length l h none then (match l, id, C.cut && C.nb with
            | none, some id, true => K ⟨.lf (.own id), [(b, none), (id, some (.arr e et (tk xs h)))], [id, b]⟩
            | _, _, _ => K ⟨.lf (.osl b (loN l) (hiN xs.length h)), [], [b]⟩) else none
        | _, _ => none
      | _ => none
  | _ => none

def evBuild {R : Type} (C : Ctx) (t : TypeId) (parts : List (Nat × AV)) (K : Ev → Option R) : Option R :=
  match C.ty t with
  | some ⟨.struct fs, _, _, _, z⟩ => (fillL fs parts (lvs z)).bind fun ls => K (ans (.st ls))
  | _ => none

def freezing (bk : BId → Option Blk) : List (Nat × AV) → Option (List (Nat × AV) × List BId)
  | [] => some ([], [])
  | (i, v) :: r => (frzA bk v).bind fun x => (freezing bk r).bind fun y => some ((i, x.1) :: y.1, x.2 ++ y.2)

def appFin {R : Type} (id : BId) (e : ETy) (et : TypeId) (by' : Nat) (K : Ev → Option R) (xs : List e.T) (del : List BId) (ys : List e.T) (u : List BId) : Option R :=
  bif Nat.blt 0 by' && decide ((xs.length + ys.length) * by' ≤ 140737488355328) then K ⟨.lf (.own id), dead del ++ [(id, some (.arr e et (xs ++ ys)))], id :: (del ++ u)⟩ else none
def appGo {R : Type} (bk : BId → Option Blk) (id : BId) (e : ETy) (et : TypeId) (by' : Nat) (y : AV) (K : Ev → Option R) (xs : List e.T) (del : List BId) : Option R :=
  match y with
  | .lf (.p (.sl e' ys)) => if h : e' = e then appFin id e et by' K xs del (castE h ys) [] else none
  | .lf (.p .nil) => appFin id e et by' K xs del [] []
  | .lf (.own b') => match bk b' with
    | some (.arr e' _ ys) => if h : e' = e then appFin id e et by' K xs del (castE h ys) [b'] else none
    | _ => none
  | _ => none
def evAppend {R : Type} (C : Ctx) (bk : BId → Option Blk) (id : BId) (t : TypeId) (x y : AV) (K : Ev → Option R) : Option R :=
  match C.ty t with
  | some ⟨.slice e et, _, _, _, _⟩ => match C.ty et with
    | some ei => match x with
      | .lf (.p .nil) => appGo bk id e et ei.bytes y K [] []
      | .lf (.own b) => match bk b with
        | some (.arr e' et' xs) => if h : e' = e then (bif Nat.beq et' et then appGo bk id e et ei.bytes y K (castE h xs) [b] else none) else none
        | _ => none
      | _ => none
    | none => none
  | _ => none

def evLen {R : Type} (bk : BId → Option Blk) (x : AV) (K : Ev → Option R) : Option R :=
  match x with
  | .lf (.p (.sl _ xs)) => K (ansP (.int .i64 (xs.length : Int)))
  | .lf (.p .nil) => K (ansP (.int .i64 0))
  | .lf (.own b) => match bk b with
    | some (.arr _ _ xs) => K ⟨.lf (.p (.int .i64 (xs.length : Int))), [], [b]⟩
    | _ => none
  | .lf (.osl _ lo hi) => K (ansP (.int .i64 ((hi - lo : Nat) : Int)))
  | _ => none

def minL (k : IntKind) : Int → List AV → Option Int
  | x, [] => some x
  | x, .lf (.p (.int _ y)) :: r => minL k (if y < x then y else x) r
  | _, _ => none
def maxL (k : IntKind) : Int → List AV → Option Int
  | x, [] => some x
  | x, .lf (.p (.int _ y)) :: r => maxL k (if y > x then y else x) r
  | _, _ => none

def sliceTy (ty : TypeId → Option TI) (t : Option TypeId) : Bool := match t with
  | some t => match ty t with
    | some ⟨.slice _ _, _, _, _, _⟩ => true
    | _ => false
  | none => false

def evBuiltin {R : Type} (C : Ctx) (bk : BId → Option Blk) (id : BId) (b : Builtin) (ats : List TypeId) (args : List AV) (K : Ev → Option R) : Option R :=
  match b, args with
  | .len, [x] => bif sliceTy C.ty ats.head? then evLen bk x K else none
  | .append, [x, y] => match ats with
    | [t, t'] => bif Nat.beq t t' && C.nb then evAppend C bk id t x y K else none
    | _ => none
  | .min, .lf (.p (.int k x)) :: r => (minL k x r).bind fun v => K (ansP (.int k v))
  | .max, .lf (.p (.int k x)) :: r => (maxL k x r).bind fun v => K (ansP (.int k v))
  | _, _ => none

def capAVs (caps : List (List PL)) : List AV := caps.map fun l => .lf (.imm l 0)

def evCallF {R : Type} (C : Ctx) (bk : BId → Option Blk) (id : BId) (f : FuncId) (caps : List (List PL)) (args : List AV) (K : Ev → Option R) : Option R :=
  bif C.mutf f then
    match caps, args with
    | [], a :: rest => match ownRange bk a with
      | some (b, lo, hi, et, ⟨e, xs⟩) => if h : e = .i .u32 then
          bif Nat.beq et C.u32 && (decide (lo < hi) && decide (hi ≤ xs.length)) then
          (frzAs bk rest).bind fun rs => match rs.2 with
            | [] => C.mcall f (((castE h xs).take hi).drop lo) rs.1 fun out seg =>
                K ⟨out, [(b, some (.arr (.i .u32) et ((castE h xs).take lo ++ seg ++ (castE h xs).drop hi)))], [b]⟩
            | _ => none
          else none
        else none
      | none => none
    | _, _ => none
  else (frzAs bk args).bind fun as => bif C.nb || as.2.isEmpty then C.call f (as.1 ++ capAVs caps) fun r =>
    bif r.scal then K ⟨r, [], as.2⟩ else
      let th := thaw id r
      K ⟨th.1, th.2 ++ dead as.2, id :: as.2⟩
    else none

/-- Variables that a closure holds: from here on they stay as they are. -/
def capsOf (bk : BId → Option Blk) : List AV → Option (List (List PL) × List BId)
  | [] => some ([], [])
  | .lf (.ref b 0) :: r => match bk b with
    | some (.var ls) => (pls ls).bind fun f => (capsOf bk r).bind fun y => some (f :: y.1, b :: y.2)
    | _ => none
  | _ => none
def zeroIs (k : IntKind) : List PL → Bool
  | [.int k' n] => decide (k' = k) && (n == 0)
  | _ => false
def evOp {R : Type} (C : Ctx) (ev : Operand → AV) (bk : BId → Option Blk) (ep : Nat) (o : Oper) (K : Ev → Option R) : Option R :=
  match o.op with
  | .move x => K (ans (ev x))
  | .assign x => K (ans (ev x))
  | .pick c a b => match ev c with
    | .lf (.p (.bool t)) => bif t then K (ans (ev a)) else K (ans (ev b))
    | _ => none
  | .alloc t => match o.dst, C.ty t with
    | some d, some i => K ⟨.lf (.ref (d, ep) 0), [((d, ep), some (.var (lvs i.zero)))], [(d, ep)]⟩
    | _, _ => none
  | .box _ x => match o.dst, (ev x).cells? with
    | some d, some c => K ⟨.lf (.ref (d, ep) 0), [((d, ep), some (.var c))], [(d, ep)]⟩
    | _, _ => none
  | .build t parts => (freezing bk (parts.toList.map fun p => (p.1, ev p.2))).bind fun fp => bif C.nb || fp.2.isEmpty then evBuild C t fp.1 (fun e => K ⟨e.val, dead fp.2, fp.2⟩) else none
  | .buildSlice t n parts => match o.dst, C.ty t with
    | some d, some ⟨.slice e et, _, _, _, _⟩ => (elemsOf e 0 (parts.toList.map fun p => (p.1, ev p.2))).bind fun xs =>
        bif Nat.beq xs.length n && Nat.ble (n * e.sz) 16777216 then K ⟨.lf (.own (d, ep)), [((d, ep), some (.arr e et xs))], [(d, ep)]⟩ else none
    | _, _ => none
  | .load t x => evLoad C bk t (ev x) K
  | .store t x v => evStore C bk t (ev x) (ev v) K
  | .binOp op t x y _ => evBin C.ty t op (ev x) (ev y) fun l => K (ansP l)
  | .unOp op _ x => evUn op (ev x) fun l => K (ansP l)
  | .convert s t x => match C.ty s, C.ty t, ev x with
    | some _, some ⟨.int k, _, _, _, _⟩, .lf (.p (.int _ n)) => K (ansP (.int k (k.wrap n)))
    | _, _, _ => none
  | .makeFunc (.func f) first caps => match first.toList with
    | [] => (capsOf bk (caps.toList.map ev)).bind fun c => bif C.nb || c.2.isEmpty then K ⟨.lf (.clo f c.1), dead c.2, c.2⟩ else none
    | _ => none
  | .makeSlice t l c => match o.dst, C.ty t, ev l, ev c with
    | some d, some ⟨.slice (.i k) et, _, _, _, _⟩, .lf (.p (.int .i64 n)), .lf (.p (.int .i64 m)) => match C.ty et with
      | some ei => bif zeroIs k ei.zero && (Nat.blt 0 ei.bytes && (decide (0 ≤ n) && (decide (n ≤ m) && decide (m * (ei.bytes : Int) ≤ 281474976710656)))) then
          K ⟨.lf (.own (d, ep)), [((d, ep), some (.arr (.i k) et (List.replicate n.toNat (0 : Int))))], [(d, ep)]⟩ else none
      | none => none
    | _, _, _, _ => none
  | .slice t x lo hi mx => evSlice C (o.dst.map fun d => (d, ep)) ev bk t (ev x) lo hi mx K
  | .fieldAddr t x j => evFieldAddr C t (ev x) j K
  | .field t x j => match C.ty t, ev x with
    | some ⟨.struct fs, _, _, _, _⟩, .st ls => match fs[j]? with
      | some (off, sz, agg) => bif Nat.ble (off + sz) ls.length then (ofCells agg (cut ls off sz)).bind fun v => K (ans v) else none
      | none => none
    | _, _ => none
  | .indexAddr t x i => evIndexAddr C bk t (ev x) (ev i) K
  | .index t x i => match C.ty t, ev x, ev i with
    | some ⟨.array n esz eagg, _, _, _, _⟩, .st ls, .lf (.p (.int _ j)) => bif ixOk j n && Nat.beq ls.length (n * esz) then (ofCells eagg (cut ls (j.toNat * esz) esz)).bind fun v => K (ans v) else none
    | _, _, _ => none
  | .extract x j => match ev x with
    | .tup vs => match vs[j]? with
      | some v => K (ans v)
      | none => none
    | _ => none
  | .call c => match c.callee with
    | .builtin b => match o.dst with
      | some d => evBuiltin C bk (d, ep) b c.argTypes.toList (c.args.toList.map ev) K
      | none => none
    | .value f => match o.dst, ev f with
      | some d, .lf (.clo g caps) => evCallF C bk (d, ep) g caps (c.args.toList.map ev) K
      | _, _ => none
    | _ => none
  | _ => none

/-! ### Regions -/
def putT (tm : List (Nat × AV)) (d : Option Tmp) (v : AV) : List (Nat × AV) := match d with
  | some d => (d, v) :: tm
  | none => tm
def St.app (s : St) (d : Option Tmp) (e : Ev) : St := ⟨putT s.tm d e.val, e.blk ++ s.bk, s.ep⟩
def skipEv : Ev := ⟨.lf .void, [], []⟩
/-- What an operation looks at and what it changes among the call's own blocks. -/
def Ev.foot (e : Ev) : List BId × List BId := (e.use, e.blk.map (·.1))

def dstAt (ops : List Oper) (j : Nat) : Option Tmp := (ops[j]?).bind (·.dst)

def evOps {R : Type} (C : Ctx) (all : List Oper) : List Oper → St → List (List BId × List BId) → (St → List (List BId × List BId) → Option R) → Option R
  | [], st, tr, K => K st tr
  | o :: r, st, tr, K => match o.guard with
    | none => evOp C (evA st.tm) (lkb st.bk) st.ep o fun e => evOps C all r (st.app o.dst e) (e.foot :: tr) K
    | some (j, want) => match dstAt all j with
      | none => none
      | some t => match lk st.tm t with
        | .lf (.p (.bool b)) =>
          let st1 : St := ⟨(t, .lf (.p (.bool true))) :: st.tm, st.bk, st.ep⟩
          let st0 : St := ⟨(t, .lf (.p (.bool false))) :: st.tm, st.bk, st.ep⟩
          bif b then
            (bif want then evOp C (evA st1.tm) (lkb st.bk) st.ep o fun e => evOps C all r (st1.app o.dst e) (e.foot :: tr) K
             else evOps C all r (st1.app o.dst skipEv) (skipEv.foot :: tr) K)
          else
            (bif want then evOps C all r (st0.app o.dst skipEv) (skipEv.foot :: tr) K
             else evOp C (evA st0.tm) (lkb st.bk) st.ep o fun e => evOps C all r (st0.app o.dst e) (e.foot :: tr) K)
        | .lf .void => evOps C all r (st.app o.dst skipEv) (skipEv.foot :: tr) K
        | _ => none

/-! ### The order of a region's operations -/
def tmpsOf (l : List Operand) : List Tmp := l.filterMap fun x => match x with
  | .tmp t => some t
  | _ => none
def readsOf (all : List Oper) (o : Oper) : List Tmp := tmpsOf o.op.operands.toList ++ (match o.guard with
  | some (j, _) => (dstAt all j).toList
  | none => [])
def befAdd (acc : List Nat) (o : Oper) : Nat := o.after.toList.foldl (fun s e => if Region.binds .any e then s ||| 2 ^ e.on ||| acc.getD e.on 0 else s) 0
def bef : List Nat → List Oper → List Nat
  | acc, [] => acc
  | acc, o :: r => bef (acc ++ [befAdd acc o]) r
def tMem (t : Tmp) (l : List Tmp) : Bool := l.any (Nat.beq t)
def bMem (b : BId) (l : List BId) : Bool := l.any (bidEq b)
def oMem (d : Option Tmp) (l : List Tmp) : Bool := match d with
  | some d => tMem d l
  | none => false
def oEq : Option Tmp → Option Tmp → Bool
  | some a, some b => Nat.beq a b
  | _, _ => false
structure Foot where
  dst : Option Tmp
  rd : List Tmp
  use : List BId
  wr : List BId
def footOf (all : List Oper) (o : Oper) (f : List BId × List BId) : Foot := ⟨o.dst, readsOf all o, f.1, f.2⟩
/-- Do two operations touch the same place, one of them changing it? -/
def clash (a b : Foot) : Bool :=
  oMem a.dst b.rd || oMem b.dst a.rd || oEq a.dst b.dst ||
  a.wr.any (fun x => bMem x b.use || bMem x b.wr) || b.wr.any (fun x => bMem x a.use)
def feet (all : List Oper) : List Oper → List (List BId × List BId) → List Foot
  | o :: r, f :: fs => footOf all o f :: feet all r fs
  | _, _ => []
def ordRow (bits : Nat) (f : Foot) : Nat → List Foot → Bool
  | _, [] => true
  | i, g :: r => (bits.testBit i || !clash g f) && ordRow bits f (i + 1) r
/-- Each operation waits for those before it in the text that it clashes with. -/
def ordB : List Nat → List Foot → List Foot → Bool
  | b :: bs, done, f :: r => ordRow b f 0 done && ordB bs (done ++ [f]) r
  | _, _, [] => true
  | [], _, _ :: _ => false

def dstsB (nt : Nat) : List Oper → List Tmp → Bool
  | [], _ => true
  | o :: r, seen => match o.dst with
    | some d => Nat.blt d nt && !tMem d seen && dstsB nt r (d :: seen)
    | none => dstsB nt r seen
/-- The edges lead back, and a guard is an edge. -/
def edgesB : Nat → List Oper → Bool
  | _, [] => true
  | i, o :: r => o.after.toList.all (fun e => !Region.binds .any e || Nat.blt e.on i) && (match o.guard with
      | some (j, _) => o.after.toList.any (fun e => Region.binds .any e && Nat.beq e.on j)
      | none => true) && edgesB (i + 1) r

def evRegion {R : Type} (C : Ctx) (ops : List Oper) (draw : Bool) (st : St) (K : St → Option R) : Option R :=
  bif dstsB C.nt ops [] then
    evOps C ops ops ⟨st.tm, st.bk, st.ep + 1⟩ [] fun s tr =>
      bif draw then (bif edgesB 0 ops && ordB (bef [] ops) [] (feet ops ops tr.reverse) then K s else none) else K s
  else none

/-! ### Loops: what is carried from round to round -/
def rvS (mu : Bool) (st : St) : (l : List Slot) → List BId → Option (SV l)
  | [], _ => some ()
  | .val t _ _ dec :: r, u => (dec (lk st.tm t)).bind fun x => (rvS mu st r u).bind fun y => some (x, y)
  | .arr t e et :: r, u => match lk st.tm t with
    | .lf (.p .nil) => bif mu && Nat.beq t 0 then none else (rvS mu st r u).bind fun y => some (([] : List e.T), y)
    | .lf (.own b) => bif bMem b u || (mu && (Nat.beq t 0 && !bidEq b (0, 0))) then none else match lkb st.bk b with
      | some (.arr e' et' xs) => if h : e' = e then (bif Nat.beq et' et then (rvS mu st r (b :: u)).bind fun y => some (castE h xs, y) else none) else none
      | _ => none
    | _ => none
  | .var t _ _ dec :: r, u => match lk st.tm t with
    | .lf (.ref b 0) => bif bMem b u || (mu && Nat.beq t 0) then none else match lkb st.bk b with
      | some (.var ls) => ((pls ls).bind dec).bind fun x => (rvS mu st r (b :: u)).bind fun y => some (x, y)
      | _ => none
    | _ => none
def mkT : (l : List Slot) → SV l → List (Nat × AV)
  | [], _ => []
  | .val t _ enc _ :: r, v => (t, enc v.1) :: mkT r v.2
  | .arr t _ _ :: r, v => (t, .lf (.own (t, 0))) :: mkT r v.2
  | .var t _ _ _ :: r, v => (t, .lf (.ref (t, 0) 0)) :: mkT r v.2
def mkB : (l : List Slot) → SV l → List (BId × Option Blk)
  | [], _ => []
  | .val _ _ _ _ :: r, v => mkB r v.2
  | .arr t e et :: r, v => ((t, 0), some (.arr e et v.1)) :: mkB r v.2
  | .var t _ enc _ :: r, v => ((t, 0), some (.var (lvs (enc v.1)))) :: mkB r v.2
def mkS (l : List Slot) (v : SV l) : St := ⟨mkT l v, mkB l v, 0⟩

def loopU {R : Type} (body : St → (Ex → St → Option R) → Option R) (K : Ex → St → Option R) : Nat → St → Option R
  | 0, _ => none
  | n + 1, st => body st fun e s => match e with
    | .normal => loopU body K n s
    | e => K e s
/-- A loop's rounds. -/
def iter {S X : Type} (B : S → Option (S ⊕ X)) : Nat → S → Option X
  | 0, _ => none
  | n + 1, s => (B s).bind fun y => match y with
    | .inl s' => iter B n s'
    | .inr x => some x
def exEq : Ex → Ex → Bool
  | .normal, .normal => true
  | .exit a, .exit b => Nat.beq a b
  | .ret, .ret => true
  | _, _ => false
def colX (mu : Bool) : (outs : List (Ex × List Slot)) → Ex → St → Option (SX outs)
  | [], _, _ => none
  | [x], e, s => bif exEq x.1 e then rvS mu s x.2 [] else none
  | x :: y :: r, e, s => bif exEq x.1 e then (rvS mu s x.2 []).bind fun v => some (.inl v) else (colX mu (y :: r) e s).bind fun v => some (.inr v)
def colB (mu : Bool) (l : List Slot) (outs : List (Ex × List Slot)) (e : Ex) (s : St) : Option (SV l ⊕ SX outs) := match e with
  | .normal => (rvS mu s l []).bind fun v => some (.inl v)
  | e => (colX mu outs e s).bind fun v => some (.inr v)
def exK {R : Type} : (outs : List (Ex × List Slot)) → SX outs → (Ex → St → Option R) → Option R
  | [], _, _ => none
  | [x], v, K => K x.1 (mkS x.2 v)
  | x :: y :: r, v, K => match v with
    | .inl v => K x.1 (mkS x.2 v)
    | .inr v => exK (y :: r) v K

def cI (C : Ctx) : Code → {R : Type} → Nat → St → (Ex → St → Option R) → Option R
  | .skip, _, _, st, K => K .normal st
  | .region _ ops draw, _, _, st, K => evRegion C ops.toList draw st (K .normal)
  | .seq a b, _, d, st, K => cI C a d st fun e s => match e with
    | .normal => cI C b d s K
    | e => K e s
  | .cond c a b, _, d, st, K => match evA st.tm c with
    | .lf (.p (.bool t)) => bif t then cI C a d st K else cI C b d st K
    | _ => none
  | .block id b, _, _, st, K => cI C b id st fun e s => match e with
    | .exit i => bif Nat.beq i id then K .normal s else K (.exit i) s
    | e => K e s
  | .loop b, _, d, st, K => match C.loops d with
    | .unroll n => loopU (fun s K' => cI C b d s K') K n st
    | .norm n l outs => (rvS (!C.nb) st l []).bind fun v => (iter (fun v => cI C b d (mkS l v) (colB (!C.nb) l outs)) n v).bind fun x => exK outs x K
  | .exit id, _, _, st, K => K (.exit id) st
  | .ret, _, _, st, K => K .ret st
  | _, _, _, _, _ => none

/-! ### Functions -/
def resV (C : TypeId → Option TI) (st : St) : ResultVar → Option AV
  | .tmp t => some (lk st.tm t)
  | .cell a t => match lk st.tm a with
    | .lf (.ref b 0) => match lkb st.bk b, C t with
      | some (.var ls), some i => bif Nat.beq ls.length i.size then ofCells i.agg ls else none
      | _, _ => none
    | _ => none
def resVs (C : TypeId → Option TI) (st : St) : List ResultVar → Option (List AV)
  | [] => some []
  | r :: rs => (resV C st r).bind fun x => (resVs C st rs).bind fun y => some (x :: y)
def resOf : List AV → AV
  | [v] => v
  | vs => .tup vs
/-- The first result, if it is a row of the call's own, is handed over as such. -/
def giveV (bk : BId → Option Blk) (ge : ETy) (gt : TypeId) : AV → Option (AV × List BId)
  | .lf (.own b) => match bk b with
    | some (.arr e et xs) => some (.lf (.fresh e et xs), [])
    | _ => none
  | .tup (.lf (.own b) :: r) => match bk b with
    | some (.arr e et xs) => (frzAs bk r).bind fun y => match y.2 with
      | [] => some (.tup (.lf (.fresh e et xs) :: y.1), [])
      | _ => none
    | _ => none
  | .tup (.lf (.p .nil) :: r) => (frzAs bk r).bind fun y => match y.2 with
      | [] => some (.tup (.lf (.fresh ge gt []) :: y.1), [])
      | _ => none
  | _ => none
def numbered : Nat → List AV → List (Nat × AV)
  | _, [] => []
  | n, v :: r => (n, v) :: numbered (n + 1) r
def outV (C : Ctx) (rs : List ResultVar) (give : Option (ETy × TypeId)) (st : St) : Option AV :=
  (resVs C.ty st rs).bind fun vs => (match give with | some (ge, gt) => giveV (lkb st.bk) ge gt (resOf vs) | none => frzR (lkb st.bk) (resOf vs)).bind fun r => some r.1
def runF {R : Type} (C : Ctx) (code : Code) (rs : List ResultVar) (give : Option (ETy × TypeId)) (args : List AV) (dec : AV → Option R) : Option R :=
  cI C code 0 ⟨numbered 0 args, [], 0⟩ fun e st => match e with
    | .exit _ => none
    | _ => (outV C rs give st).bind dec
/-- A function that writes into the row that its first argument leads to. -/
def runM {R : Type} (C : Ctx) (code : Code) (rs : List ResultVar) (seg : List Int) (args : List AV) (dec : AV → List Int → Option R) : Option R :=
  cI C code 0 ⟨numbered 0 (.lf (.own (0, 0)) :: args), [((0, 0), some (.arr (.i .u32) C.u32 seg))], 0⟩ fun e st => match e with
    | .exit _ => none
    | _ => (resVs C.ty st rs).bind fun vs => bif (resOf vs).scal then (match lkb st.bk (0, 0) with
        | some (.arr (.i .u32) _ seg') => bif Nat.beq seg'.length seg.length then dec (resOf vs) seg' else none
        | _ => none) else none

end Go.Proofs.YtbjkpogfgijmaaaGreat
