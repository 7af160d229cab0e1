/- WRITTEN BY gen.py: the program's functions as functions of plain data. -/
import Derived.Test.YtbjkpogfgijmaaaGreatPure0
namespace Go.Proofs.YtbjkpogfgijmaaaGreat
open Go
set_option linter.unusedVariables false
set_option linter.unusedSimpArgs false
def swarflaw48_LookaheadGreatest (k : Nat) (a0 : List PartD) (a1 : Int) (a2 : (Int × Int)) : Option Bool :=
  (swarflaw48_awake k).bind fun x1 =>
  bif !x1 then
    some false
  else
    bif decide ((a0.length : Int) > 60) then
      some true
    else
      (swarfref48_Valid k a0 a1).bind fun x2 =>
      bif x2 != 0 then
        some true
      else
        (swarflaw48_of k a0).bind fun x3 =>
        (lookahead_Speeds k x3 a1).bind fun x4 =>
        bif x4.2 != 0 then
          some false
        else
          (swarfref48_Feasible k a0 a1 x4.1).bind fun x5 =>
          bif !x5 then
            some false
          else
            (swarflaw48_of k a0).bind fun x6 =>
            (lookahead_Feasible k x6 a1 x4.1).bind fun x7 =>
            bif !x7 then
              some false
            else
              bif (x4.1.length : Int) == 0 then
                none
              else
                bif ixOk ((IntKind.i64.wrap (a2.1)).tmod (x4.1.length : Int)) x4.1.length then
                  bif ixOk ((IntKind.i64.wrap (a2.1)).tmod (x4.1.length : Int)) x4.1.length then
                    (swarfref48_Feasible k a0 a1 (x4.1.set (((IntKind.i64.wrap (a2.1)).tmod (x4.1.length : Int)).toNat) (IntKind.i64.wrap ((x4.1.getD (((IntKind.i64.wrap (a2.1)).tmod (x4.1.length : Int)).toNat) 0) + (IntKind.i64.wrap (1 + (IntKind.i64.wrap (a2.2)))))))).bind fun x8 =>
                    bif !x8 then
                      (swarflaw48_of k a0).bind fun x9 =>
                      (lookahead_Feasible k x9 a1 (x4.1.set (((IntKind.i64.wrap (a2.1)).tmod (x4.1.length : Int)).toNat) (IntKind.i64.wrap ((x4.1.getD (((IntKind.i64.wrap (a2.1)).tmod (x4.1.length : Int)).toNat) 0) + (IntKind.i64.wrap (1 + (IntKind.i64.wrap (a2.2)))))))).bind fun x10 =>
                      some (!x10)
                    else
                      some false
                  else
                    none
                else
                  none
def swarfref03_Small (k : Nat) (a0 : RootD) (a1 : Int) : Option Bool :=
  (swarfref02_Small k a0.A a1).bind fun x1 =>
  bif x1 then
    (swarfref02_Small k a0.B a1).bind fun x2 =>
    bif x2 then
      (swarfref02_Small k a0.C a1).bind fun x3 =>
      bif x3 then
        (swarfref03_Valid k a0).bind fun x4 =>
        some x4
      else
        some false
    else
      some false
  else
    some false
def swarflaw03_small_L0 (k : Nat) (t5 : List RootD) (t6 : Int) (t7 : Int) : Option ((List RootD × Int × Int × Unit) ⊕ ((Unit) ⊕ (Bool × Unit))) :=
  bif decide (t7 < t6) then
    bif ixOk t7 t5.length then
      (swarfref03_Small k (⟨(⟨(((t5.getD t7.toNat default).A).num), (((t5.getD t7.toNat default).A).den)⟩ : RatD), (⟨(((t5.getD t7.toNat default).B).num), (((t5.getD t7.toNat default).B).den)⟩ : RatD), (⟨(((t5.getD t7.toNat default).C).num), (((t5.getD t7.toNat default).C).den)⟩ : RatD)⟩ : RootD) 4).bind fun x1 =>
      bif !x1 then
        some (.inr (.inr (false, ())))
      else
        some (.inl (t5, t6, IntKind.i64.wrap (t7 + 1), ()))
    else
      none
  else
    some (.inr (.inl (())))
def swarflaw03_small (k : Nat) (a0 : List RootD) : Option Bool :=
  (iter (fun (x3 : (List RootD × Int × Int × Unit)) => swarflaw03_small_L0 k x3.1 x3.2.1 x3.2.2.1) k (a0, (a0.length : Int), 0, ())).bind fun x2 =>
  match x2 with
  | .inl x4 =>
    some true
  | .inr x5 =>
    some x5.1
def swarfref02_Floor (k : Nat) (a0 : RatD) : Option IntD :=
  (swarfref01_DivMod k a0.num a0.den).bind fun x1 =>
  some x1.1
def swarfref03_square (k : Nat) (a0 : RatD) : Option RatD :=
  (swarfref02_Mul k a0 a0).bind fun x1 =>
  some x1
def swarfref03_Floor (k : Nat) (a0 : RootD) : Option IntD :=
  (swarfref02_Sign k a0.B).bind fun x1 =>
  bif x1 == 0 then
    (swarfref02_Floor k a0.A).bind fun x2 =>
    some x2
  else
    (swarfref03_square k a0.B).bind fun x3 =>
    (swarfref02_Mul k x3 a0.C).bind fun x4 =>
    (swarfref01_Mul k a0.A.num x4.den).bind fun x5 =>
    (swarfref01_Mul k a0.A.den a0.A.den).bind fun x6 =>
    (swarfref01_Mul k x4.num x4.den).bind fun x7 =>
    (swarfref01_Mul k x7 x6).bind fun x8 =>
    (swarfref01_Sqrt k x8).bind fun x9 =>
    (swarfref02_Sign k a0.B).bind fun x10 =>
    bif decide (x10 < 0) then
      (swarfref01_FromInt64 k 1).bind fun x11 =>
      (swarfref01_Add k x9.1 x11).bind fun x12 =>
      (swarfref01_Neg k x12).bind fun x13 =>
      (swarfref01_Add k x5 x13).bind fun x14 =>
      (swarfref01_Mul k a0.A.den x4.den).bind fun x15 =>
      (swarfref01_DivMod k x14 x15).bind fun x16 =>
      some x16.1
    else
      (swarfref01_Add k x5 x9.1).bind fun x17 =>
      (swarfref01_Mul k a0.A.den x4.den).bind fun x18 =>
      (swarfref01_DivMod k x17 x18).bind fun x19 =>
      some x19.1
def swarfref02_Make (k : Nat) (a0 : IntD) (a1 : IntD) : Option (RatD × Int) :=
  (swarfref01_Sign k a1).bind fun x1 =>
  bif x1 == 0 then
    some ((⟨(⟨false, []⟩ : IntD), (⟨false, []⟩ : IntD)⟩ : RatD), 6)
  else
    (swarfref02_Of k a0 a1).bind fun x2 =>
    some (x2, 0)
def swarfref02_Neg (k : Nat) (a0 : RatD) : Option RatD :=
  (swarfref01_Neg k a0.num).bind fun x1 =>
  some (⟨x1, a0.den⟩ : RatD)
def swarfref03_AddRat (k : Nat) (a0 : RootD) (a1 : RatD) : Option RootD :=
  (swarfref02_Add k a0.A a1).bind fun x1 =>
  some (⟨x1, a0.B, a0.C⟩ : RootD)
def swarfref02_Sub (k : Nat) (a0 : RatD) (a1 : RatD) : Option RatD :=
  (swarfref02_Neg k a1).bind fun x1 =>
  (swarfref02_Add k a0 x1).bind fun x2 =>
  some x2
def swarfref03_norm (k : Nat) (a0 : RootD) : Option RatD :=
  (swarfref03_square k a0.A).bind fun x1 =>
  (swarfref03_square k a0.B).bind fun x2 =>
  (swarfref02_Mul k x2 a0.C).bind fun x3 =>
  (swarfref02_Sub k x1 x3).bind fun x4 =>
  some x4
def swarfref03_Sign (k : Nat) (a0 : RootD) : Option Int :=
  (swarfref02_Sign k a0.A).bind fun x1 =>
  (swarfref02_Sign k a0.B).bind fun x2 =>
  bif x1 == x2 then
    some x1
  else
    bif x2 == 0 then
      some x1
    else
      bif x1 == 0 then
        some x2
      else
        (swarfref03_norm k a0).bind fun x3 =>
        (swarfref02_Sign k x3).bind fun x4 =>
        bif decide (x4 > 0) then
          some x1
        else
          some x2
def swarfref03_CmpRat (k : Nat) (a0 : RootD) (a1 : RatD) : Option Int :=
  (swarfref02_Neg k a1).bind fun x1 =>
  (swarfref03_AddRat k a0 x1).bind fun x2 =>
  (swarfref03_Sign k x2).bind fun x3 =>
  some x3
def swarflaw03_RootFloor (k : Nat) (a0 : RootD) : Option Bool :=
  (swarflaw03_awake k).bind fun x1 =>
  bif !x1 then
    (swarflaw03_awake k).bind fun x2 =>
    some x2
  else
    (swarflaw03_small k ([a0] : List RootD)).bind fun x3 =>
    bif !x3 then
      (swarflaw03_awake k).bind fun x4 =>
      some x4
    else
      (root_Floor k a0).bind fun x5 =>
      (swarfref03_Floor k a0).bind fun x6 =>
      (swarfref01_Same k x5 x6).bind fun x7 =>
      bif !x7 then
        some false
      else
        (swarfref01_FromInt64 k 1).bind fun x8 =>
        (swarfref02_Make k x5 x8).bind fun x9 =>
        bif x9.2 == 0 then
          (swarfref03_CmpRat k a0 x9.1).bind fun x10 =>
          bif decide (x10 ≥ 0) then
            (swarfref02_FromInt64 k 1).bind fun x11 =>
            (swarfref02_Add k x9.1 x11).bind fun x12 =>
            (swarfref03_CmpRat k a0 x12).bind fun x13 =>
            some (decide (x13 < 0))
          else
            some false
        else
          some false
def root_Neg (k : Nat) (a0 : RootD) : Option RootD :=
  (rational_Neg k a0.A).bind fun x1 =>
  (rational_Neg k a0.B).bind fun x2 =>
  some (⟨x1, x2, a0.C⟩ : RootD)
def swarfref03_Neg (k : Nat) (a0 : RootD) : Option RootD :=
  (swarfref02_Neg k a0.A).bind fun x1 =>
  (swarfref02_Neg k a0.B).bind fun x2 =>
  some (⟨x1, x2, a0.C⟩ : RootD)
def swarfref03_Scale (k : Nat) (a0 : RootD) (a1 : RatD) : Option RootD :=
  (swarfref02_Mul k a0.A a1).bind fun x1 =>
  (swarfref02_Mul k a0.B a1).bind fun x2 =>
  (swarfref03_reduced k x1 x2 a0.C).bind fun x3 =>
  some x3
def swarflaw03_RootSign (k : Nat) (a0 : RootD) (a1 : RatD) : Option Bool :=
  (swarflaw03_awake k).bind fun x1 =>
  bif !x1 then
    (swarflaw03_awake k).bind fun x2 =>
    some x2
  else
    (swarflaw03_small k ([a0] : List RootD)).bind fun x3 =>
    bif !x3 then
      (swarflaw03_awake k).bind fun x4 =>
      some x4
    else
      (swarfref02_Small k a1 4).bind fun x5 =>
      bif !x5 then
        (swarflaw03_awake k).bind fun x6 =>
        some x6
      else
        (root_Sign k a0).bind fun x7 =>
        (swarfref03_Sign k a0).bind fun x8 =>
        bif x7 == x8 then
          (root_Neg k a0).bind fun x9 =>
          (swarfref03_Neg k a0).bind fun x10 =>
          (swarfref03_Same k x9 x10).bind fun x11 =>
          bif x11 then
            (root_Scale k a0 a1).bind fun x12 =>
            (swarfref03_Scale k a0 a1).bind fun x13 =>
            (swarfref03_Same k x12 x13).bind fun x14 =>
            bif x14 then
              (root_Scale k a0 a1).bind fun x15 =>
              (root_Sign k x15).bind fun x16 =>
              (swarfref02_Sign k a1).bind fun x17 =>
              some (x16 == (IntKind.i64.wrap (x7 * x17)))
            else
              some false
          else
            some false
        else
          some false
def rational_Make (k : Nat) (a0 : IntD) (a1 : IntD) : Option (RatD × Int) :=
  (integer_Sign k a1).bind fun x1 =>
  bif x1 == 0 then
    some ((⟨(⟨false, []⟩ : IntD), (⟨false, []⟩ : IntD)⟩ : RatD), 6)
  else
    (rational_reduce k a0 a1).bind fun x2 =>
    some (x2, 0)
def root_Enclose_L0 (k : Nat) (t2 : RootD) (t4 : IvD) (t6 : IntD) (t22 : Int) (t23 : Int) : Option ((RootD × IvD × IntD × Int × Int × Unit) ⊕ (RootD × IvD × IntD × Unit)) :=
  bif decide (t23 < t22) then
    (integer_Add k t6 t6).bind fun x2 =>
    some (.inl (t2, t4, x2, t22, IntKind.i64.wrap (t23 + 1), ()))
  else
    some (.inr (t2, t4, t6, ()))
def root_Enclose (k : Nat) (a0 : RootD) (a1 : Int) : Option (IvD × Int) :=
  bif decide (a1 < 0) then
    some ((⟨(⟨(⟨false, []⟩ : IntD), (⟨false, []⟩ : IntD)⟩ : RatD), (⟨(⟨false, []⟩ : IntD), (⟨false, []⟩ : IntD)⟩ : RatD)⟩ : IvD), 1)
  else
    bif decide (a1 > 256) then
      some ((⟨(⟨(⟨false, []⟩ : IntD), (⟨false, []⟩ : IntD)⟩ : RatD), (⟨(⟨false, []⟩ : IntD), (⟨false, []⟩ : IntD)⟩ : RatD)⟩ : IvD), 1)
    else
      (integer_FromInt64 k 1).bind fun x1 =>
      (iter (fun (x4 : (RootD × IvD × IntD × Int × Int × Unit)) => root_Enclose_L0 k x4.1 x4.2.1 x4.2.2.1 x4.2.2.2.1 x4.2.2.2.2.1) k (a0, (⟨(⟨(⟨false, []⟩ : IntD), (⟨false, []⟩ : IntD)⟩ : RatD), (⟨(⟨false, []⟩ : IntD), (⟨false, []⟩ : IntD)⟩ : RatD)⟩ : IvD), x1, a1, 0, ())).bind fun x3 =>
      (integer_FromInt64 k 1).bind fun x5 =>
      (rational_Make k x3.2.2.1 x5).bind fun x6 =>
      (root_Scale k x3.1 x6.1).bind fun x7 =>
      (root_Floor k x7).bind fun x8 =>
      (rational_Make k x8 x3.2.2.1).bind fun x9 =>
      (integer_FromInt64 k 1).bind fun x10 =>
      (integer_Add k x8 x10).bind fun x11 =>
      (rational_Make k x11 x3.2.2.1).bind fun x12 =>
      some ((⟨x9.1, x12.1⟩ : IvD), 0)
def swarfref03_one (k : Nat) : Option RatD :=
  (swarfref02_FromInt64 k 1).bind fun x1 =>
  some x1
def swarfref03_Power_L0 (k : Nat) (t0 : Int) (t2 : RatD) (t3 : RatD) (t4 : Int) : Option ((Int × RatD × RatD × Int × Unit) ⊕ (RatD × RatD × Unit)) :=
  bif decide (t4 < t0) then
    (swarfref02_Add k t3 t3).bind fun x2 =>
    some (.inl (t0, t2, x2, IntKind.i64.wrap (t4 + 1), ()))
  else
    some (.inr (t2, t3, ()))
def swarfref03_Power (k : Nat) (a0 : Int) : Option RatD :=
  (swarfref03_one k).bind fun x1 =>
  (iter (fun (x4 : (Int × RatD × RatD × Int × Unit)) => swarfref03_Power_L0 k x4.1 x4.2.1 x4.2.2.1 x4.2.2.2.1) k (a0, (⟨(⟨false, []⟩ : IntD), (⟨false, []⟩ : IntD)⟩ : RatD), x1, 0, ())).bind fun x3 =>
  some x3.2.1
def swarfref02_Cmp (k : Nat) (a0 : RatD) (a1 : RatD) : Option Int :=
  (swarfref01_Mul k a0.num a1.den).bind fun x1 =>
  (swarfref01_Mul k a1.num a0.den).bind fun x2 =>
  (swarfref01_Cmp k x1 x2).bind fun x3 =>
  some x3
def swarflaw03_RootEnclose (k : Nat) (a0 : RootD) (a1 : Int) : Option Bool :=
  (swarflaw03_awake k).bind fun x1 =>
  bif !x1 then
    (swarflaw03_awake k).bind fun x2 =>
    some x2
  else
    (swarflaw03_small k ([a0] : List RootD)).bind fun x3 =>
    bif !x3 then
      (swarflaw03_awake k).bind fun x4 =>
      some x4
    else
      (root_Enclose k a0 a1).bind fun x5 =>
      bif decide (a1 < 0) then
        bif x5.2 == 1 then
          some ((IntKind.i64.wrap ((x5.1.Low.den.limbs.length : Int) + (x5.1.High.den.limbs.length : Int))) == 0)
        else
          some false
      else
        bif decide (a1 > 256) then
          bif x5.2 == 1 then
            some ((IntKind.i64.wrap ((x5.1.Low.den.limbs.length : Int) + (x5.1.High.den.limbs.length : Int))) == 0)
          else
            some false
        else
          bif x5.2 != 0 then
            some false
          else
            (swarfref02_Valid k x5.1.Low).bind fun x6 =>
            bif !x6 then
              some false
            else
              (swarfref02_Valid k x5.1.High).bind fun x7 =>
              bif !x7 then
                some false
              else
                (swarfref02_Sub k x5.1.High x5.1.Low).bind fun x8 =>
                (swarfref03_CmpRat k a0 x5.1.Low).bind fun x9 =>
                bif decide (x9 ≥ 0) then
                  (swarfref03_CmpRat k a0 x5.1.High).bind fun x10 =>
                  bif decide (x10 ≤ 0) then
                    (swarfref03_Power k a1).bind fun x11 =>
                    (swarfref02_Mul k x8 x11).bind fun x12 =>
                    (swarfref02_FromInt64 k 1).bind fun x13 =>
                    (swarfref02_Cmp k x12 x13).bind fun x14 =>
                    some (decide (x14 ≤ 0))
                  else
                    some false
                else
                  some false
def swarfref03_common (k : Nat) (a0 : RootD) (a1 : RootD) : Option (RatD × Bool) :=
  (swarfref02_Sign k a0.B).bind fun x1 =>
  bif x1 == 0 then
    some (a1.C, true)
  else
    (swarfref02_Sign k a1.B).bind fun x2 =>
    bif x2 == 0 then
      some (a0.C, true)
    else
      (swarfref02_Cmp k a0.C a1.C).bind fun x3 =>
      some (a0.C, x3 == 0)
def swarfref03_Add (k : Nat) (a0 : RootD) (a1 : RootD) : Option (RootD × Int) :=
  (swarfref03_common k a0 a1).bind fun x1 =>
  bif !x1.2 then
    some ((⟨(⟨(⟨false, []⟩ : IntD), (⟨false, []⟩ : IntD)⟩ : RatD), (⟨(⟨false, []⟩ : IntD), (⟨false, []⟩ : IntD)⟩ : RatD), (⟨(⟨false, []⟩ : IntD), (⟨false, []⟩ : IntD)⟩ : RatD)⟩ : RootD), 1)
  else
    (swarfref02_Add k a0.A a1.A).bind fun x2 =>
    (swarfref02_Add k a0.B a1.B).bind fun x3 =>
    (swarfref03_reduced k x2 x3 x1.1).bind fun x4 =>
    some (x4, 0)
def swarflaw03_RootSum (k : Nat) (a0 : RootD) (a1 : RootD) : Option Bool :=
  (swarflaw03_awake k).bind fun x1 =>
  bif !x1 then
    (swarflaw03_awake k).bind fun x2 =>
    some x2
  else
    (swarflaw03_small k ([a0, a1] : List RootD)).bind fun x3 =>
    bif !x3 then
      (swarflaw03_awake k).bind fun x4 =>
      some x4
    else
      (root_Add k a0 a1).bind fun x5 =>
      (swarfref03_Add k a0 a1).bind fun x6 =>
      (root_Add k a1 a0).bind fun x7 =>
      (swarflaw03_same k x5.1 x5.2 x6.1 x6.2).bind fun x8 =>
      bif x8 then
        (swarflaw03_same k x5.1 x5.2 x7.1 x7.2).bind fun x9 =>
        some x9
      else
        some false
def swarfref03_Mul (k : Nat) (a0 : RootD) (a1 : RootD) : Option (RootD × Int) :=
  (swarfref03_common k a0 a1).bind fun x1 =>
  bif !x1.2 then
    some ((⟨(⟨(⟨false, []⟩ : IntD), (⟨false, []⟩ : IntD)⟩ : RatD), (⟨(⟨false, []⟩ : IntD), (⟨false, []⟩ : IntD)⟩ : RatD), (⟨(⟨false, []⟩ : IntD), (⟨false, []⟩ : IntD)⟩ : RatD)⟩ : RootD), 1)
  else
    (swarfref02_Mul k a0.A a1.A).bind fun x2 =>
    (swarfref02_Mul k a0.B a1.B).bind fun x3 =>
    (swarfref02_Mul k x3 x1.1).bind fun x4 =>
    (swarfref02_Add k x2 x4).bind fun x5 =>
    (swarfref02_Mul k a0.A a1.B).bind fun x6 =>
    (swarfref02_Mul k a0.B a1.A).bind fun x7 =>
    (swarfref02_Add k x6 x7).bind fun x8 =>
    (swarfref03_reduced k x5 x8 x1.1).bind fun x9 =>
    some (x9, 0)
def swarflaw03_RootMul (k : Nat) (a0 : RootD) (a1 : RootD) : Option Bool :=
  (swarflaw03_awake k).bind fun x1 =>
  bif !x1 then
    (swarflaw03_awake k).bind fun x2 =>
    some x2
  else
    (swarflaw03_small k ([a0, a1] : List RootD)).bind fun x3 =>
    bif !x3 then
      (swarflaw03_awake k).bind fun x4 =>
      some x4
    else
      (root_Mul k a0 a1).bind fun x5 =>
      (swarfref03_Mul k a0 a1).bind fun x6 =>
      (root_Mul k a1 a0).bind fun x7 =>
      (swarflaw03_same k x5.1 x5.2 x6.1 x6.2).bind fun x8 =>
      bif x8 then
        (swarflaw03_same k x5.1 x5.2 x7.1 x7.2).bind fun x9 =>
        bif x9 then
          bif x5.2 != 0 then
            some true
          else
            (root_Sign k x5.1).bind fun x10 =>
            (swarfref03_Sign k a0).bind fun x11 =>
            (swarfref03_Sign k a1).bind fun x12 =>
            some (x10 == (IntKind.i64.wrap (x11 * x12)))
        else
          some false
      else
        some false
def swarfref02_Div (k : Nat) (a0 : RatD) (a1 : RatD) : Option (RatD × Int) :=
  (swarfref01_Mul k a0.num a1.den).bind fun x1 =>
  (swarfref01_Mul k a0.den a1.num).bind fun x2 =>
  (swarfref02_Make k x1 x2).bind fun x3 =>
  some (x3.1, x3.2)
def swarfref03_Inv (k : Nat) (a0 : RootD) : Option (RootD × Int) :=
  (swarfref03_Sign k a0).bind fun x1 =>
  bif x1 == 0 then
    some ((⟨(⟨(⟨false, []⟩ : IntD), (⟨false, []⟩ : IntD)⟩ : RatD), (⟨(⟨false, []⟩ : IntD), (⟨false, []⟩ : IntD)⟩ : RatD), (⟨(⟨false, []⟩ : IntD), (⟨false, []⟩ : IntD)⟩ : RatD)⟩ : RootD), 6)
  else
    (swarfref03_one k).bind fun x2 =>
    (swarfref03_norm k a0).bind fun x3 =>
    (swarfref02_Div k x2 x3).bind fun x4 =>
    (swarfref02_Mul k a0.A x4.1).bind fun x5 =>
    (swarfref02_Mul k a0.B x4.1).bind fun x6 =>
    (swarfref02_Neg k x6).bind fun x7 =>
    (swarfref03_reduced k x5 x7 a0.C).bind fun x8 =>
    some (x8, 0)
def swarflaw03_RootInv (k : Nat) (a0 : RootD) : Option Bool :=
  (swarflaw03_awake k).bind fun x1 =>
  bif !x1 then
    (swarflaw03_awake k).bind fun x2 =>
    some x2
  else
    (swarflaw03_small k ([a0] : List RootD)).bind fun x3 =>
    bif !x3 then
      (swarflaw03_awake k).bind fun x4 =>
      some x4
    else
      (root_Inv k a0).bind fun x5 =>
      (swarfref03_Inv k a0).bind fun x6 =>
      (swarflaw03_same k x5.1 x5.2 x6.1 x6.2).bind fun x7 =>
      bif !x7 then
        bif x5.2 == x6.2 then
          some (x5.2 == 6)
        else
          some false
      else
        bif x5.2 != 0 then
          bif x5.2 == x6.2 then
            some (x5.2 == 6)
          else
            some false
        else
          (root_Mul k a0 x5.1).bind fun x8 =>
          (root_Inv k x5.1).bind fun x9 =>
          bif x8.2 == 0 then
            bif x9.2 == 0 then
              (swarfref03_Int k 1).bind fun x10 =>
              (swarfref03_Same k x8.1 x10).bind fun x11 =>
              bif x11 then
                (swarfref03_Same k x9.1 a0).bind fun x12 =>
                some x12
              else
                some false
            else
              some false
          else
            some false
def lookahead_Total_L0 (k : Nat) (t1 : Int) (t2 : Int) (t8 : Int) (t26 : List MotionD) (t27 : Int) (t28 : Int) : Option ((Int × Int × Int × List MotionD × Int × Int × Unit) ⊕ ((Int × Unit) ⊕ (Int × Int × Unit))) :=
  bif decide (t28 < t27) then
    bif ixOk t28 t26.length then
      (lookahead_within k ((t26.getD t28.toNat default).Rate) 0 1000000).bind fun x3 =>
      bif !x3 then
        some (.inr (.inr (0, 1, ())))
      else
        bif ((t26.getD t28.toNat default).Rate) == 0 then
          (lookahead_Length k ((t26.getD t28.toNat default).From) ((t26.getD t28.toNat default).To)).bind fun x4 =>
          bif x4.2 != 0 then
            some (.inr (.inr (0, x4.2, ())))
          else
            (lookahead_Straight k x4.1 t1 t2).bind fun x5 =>
            bif x5.2 != 0 then
              some (.inr (.inr (0, x5.2, ())))
            else
              some (.inl (t1, t2, IntKind.i64.wrap (t8 + x5.1), t26, t27, IntKind.i64.wrap (t28 + 1), ()))
        else
          (lookahead_Length k ((t26.getD t28.toNat default).From) ((t26.getD t28.toNat default).To)).bind fun x6 =>
          bif x6.2 != 0 then
            some (.inr (.inr (0, x6.2, ())))
          else
            (lookahead_Straight k x6.1 ((t26.getD t28.toNat default).Rate) t2).bind fun x7 =>
            bif x7.2 != 0 then
              some (.inr (.inr (0, x7.2, ())))
            else
              some (.inl (t1, t2, IntKind.i64.wrap (t8 + x7.1), t26, t27, IntKind.i64.wrap (t28 + 1), ()))
    else
      none
  else
    some (.inr (.inl (t8, ())))
def lookahead_Total (k : Nat) (a0 : List MotionD) (a1 : Int) (a2 : Int) : Option (Int × Int) :=
  bif decide ((a0.length : Int) > 20000) then
    some (0, 3)
  else
    (lookahead_within k a1 1 1000000).bind fun x1 =>
    bif !x1 then
      some (0, 1)
    else
      (lookahead_within k a2 1 100000000).bind fun x2 =>
      bif !x2 then
        some (0, 1)
      else
        (iter (fun (x9 : (Int × Int × Int × List MotionD × Int × Int × Unit)) => lookahead_Total_L0 k x9.1 x9.2.1 x9.2.2.1 x9.2.2.2.1 x9.2.2.2.2.1 x9.2.2.2.2.2.1) k (a1, a2, 0, a0, (a0.length : Int), 0, ())).bind fun x8 =>
        match x8 with
        | .inl x10 =>
          some (x10.1, 0)
        | .inr x11 =>
          some (x11.1, x11.2.1)
def swarfref02_Over (k : Nat) (a0 : RatD) (a1 : RatD) : Option RatD :=
  (swarfref02_Div k a0 a1).bind fun x1 =>
  some x1.1
def swarfref48_reach (k : Nat) (a0 : Int) (a1 : Int) (a2 : Int) : Option RatD :=
  (swarfref02_Frac k a0 1000).bind fun x1 =>
  (swarfref02_FromInt64 k a1).bind fun x2 =>
  (swarfref02_FromInt64 k a2).bind fun x3 =>
  (swarfref02_Mul k x1 x3).bind fun x4 =>
  (swarfref02_Add k x2 x2).bind fun x5 =>
  (swarfref02_Cmp k x4 x5).bind fun x6 =>
  bif decide (x6 ≥ 0) then
    (swarfref02_Mul k x2 x1).bind fun x7 =>
    (swarfref02_Mul k x2 x2).bind fun x8 =>
    (swarfref02_Over k x8 x3).bind fun x9 =>
    (swarfref02_Sub k x7 x9).bind fun x10 =>
    some x10
  else
    (swarfref02_Frac k 1 4).bind fun x11 =>
    (swarfref02_Mul k x3 x11).bind fun x12 =>
    (swarfref02_Mul k x1 x1).bind fun x13 =>
    (swarfref02_Mul k x12 x13).bind fun x14 =>
    some x14
def swarfref48_Straight_L0 (k : Nat) (t0 : Int) (t1 : Int) (t2 : Int) (t8 : Int) (t9 : Int) : Option ((Int × Int × Int × Int × Int × Unit) ⊕ (Int × Unit)) :=
  bif decide (t8 < t9) then
    (swarfref48_reach k (IntKind.i64.wrap ((IntKind.i64.wrap (t8 + t9)).tdiv 2)) t1 t2).bind fun x4 =>
    (swarfref02_FromInt64 k t0).bind fun x5 =>
    (swarfref02_Cmp k x4 x5).bind fun x6 =>
    bif decide (x6 ≥ 0) then
      some (.inl (t0, t1, t2, t8, IntKind.i64.wrap ((IntKind.i64.wrap (t8 + t9)).tdiv 2), ()))
    else
      some (.inl (t0, t1, t2, IntKind.i64.wrap ((IntKind.i64.wrap ((IntKind.i64.wrap (t8 + t9)).tdiv 2)) + 1), t9, ()))
  else
    some (.inr (t8, ()))
def swarfref48_Straight (k : Nat) (a0 : Int) (a1 : Int) (a2 : Int) : Option (Int × Int) :=
  (swarfref48_Long k a0).bind fun x1 =>
  bif !x1 then
    some (0, 1)
  else
    (swarfref48_Speed k a1).bind fun x2 =>
    bif !x2 then
      some (0, 1)
    else
      bif decide (a1 < 1) then
        some (0, 1)
      else
        (swarfref48_Accel k a2).bind fun x3 =>
        bif !x3 then
          some (0, 1)
        else
          (iter (fun (x8 : (Int × Int × Int × Int × Int × Unit)) => swarfref48_Straight_L0 k x8.1 x8.2.1 x8.2.2.1 x8.2.2.2.1 x8.2.2.2.2.1) k (a0, a1, a2, 0, 1000000000000, ())).bind fun x7 =>
          some (x7.1, 0)
def swarfref48_Total_L0 (k : Nat) (t0 : List MotionD) (t1 : Int) (t2 : Int) (t8 : Int) (t9 : Int) : Option ((List MotionD × Int × Int × Int × Int × Unit) ⊕ ((Int × Unit) ⊕ (Int × Int × Unit))) :=
  bif decide (t9 < (t0.length : Int)) then
    bif ixOk t9 t0.length then
      (swarfref48_Speed k ((t0.getD t9.toNat default).Rate)).bind fun x3 =>
      bif !x3 then
        some (.inr (.inr (0, 1, ())))
      else
        bif ixOk t9 t0.length then
          bif ixOk t9 t0.length then
            (swarfref48_Length k ((t0.getD t9.toNat default).From) ((t0.getD t9.toNat default).To)).bind fun x4 =>
            bif x4.2 != 0 then
              some (.inr (.inr (0, x4.2, ())))
            else
              bif ixOk t9 t0.length then
                bif ((t0.getD t9.toNat default).Rate) == 0 then
                  (swarfref48_Straight k x4.1 t1 t2).bind fun x5 =>
                  some (.inl (t0, t1, t2, IntKind.i64.wrap (t8 + x5.1), IntKind.i64.wrap (t9 + 1), ()))
                else
                  (swarfref48_Straight k x4.1 ((t0.getD t9.toNat default).Rate) t2).bind fun x6 =>
                  some (.inl (t0, t1, t2, IntKind.i64.wrap (t8 + x6.1), IntKind.i64.wrap (t9 + 1), ()))
              else
                none
          else
            none
        else
          none
    else
      none
  else
    some (.inr (.inl (t8, ())))
def swarfref48_Total (k : Nat) (a0 : List MotionD) (a1 : Int) (a2 : Int) : Option (Int × Int) :=
  bif decide ((a0.length : Int) > 20000) then
    some (0, 3)
  else
    (swarfref48_Speed k a1).bind fun x1 =>
    bif !x1 then
      some (0, 1)
    else
      bif decide (a1 < 1) then
        some (0, 1)
      else
        (swarfref48_Accel k a2).bind fun x2 =>
        bif !x2 then
          some (0, 1)
        else
          (iter (fun (x8 : (List MotionD × Int × Int × Int × Int × Unit)) => swarfref48_Total_L0 k x8.1 x8.2.1 x8.2.2.1 x8.2.2.2.1 x8.2.2.2.2.1) k (a0, a1, a2, 0, 0, ())).bind fun x7 =>
          match x7 with
          | .inl x9 =>
            some (x9.1, 0)
          | .inr x10 =>
            some (x10.1, x10.2.1)
def swarflaw48_LookaheadTotal (k : Nat) (a0 : List MotionD) (a1 : Int) (a2 : Int) : Option Bool :=
  (swarflaw48_awake k).bind fun x1 =>
  bif !x1 then
    some false
  else
    bif decide ((a0.length : Int) > 20) then
      bif decide ((a0.length : Int) ≤ 20000) then
        some true
      else
        (lookahead_Total k a0 a1 a2).bind fun x2 =>
        (swarfref48_Total k a0 a1 a2).bind fun x3 =>
        bif x2.1 == x3.1 then
          some (x2.2 == x3.2)
        else
          some false
    else
      (lookahead_Total k a0 a1 a2).bind fun x4 =>
      (swarfref48_Total k a0 a1 a2).bind fun x5 =>
      bif x4.1 == x5.1 then
        some (x4.2 == x5.2)
      else
        some false
def swarflaw09_num (k : Nat) (a0 : Int) : Option RatD :=
  (swarfref02_FromInt64 k a0).bind fun x1 =>
  some x1
def swarflaw09_line (k : Nat) (a0 : Int) (a1 : Int) (a2 : Int) : Option LineD :=
  (swarflaw09_num k a0).bind fun x1 =>
  (swarflaw09_num k a1).bind fun x2 =>
  (swarflaw09_num k a2).bind fun x3 =>
  some (⟨x1, x2, x3⟩ : LineD)
def meet_mul (k : Nat) (a0 : RatD) (a1 : RatD) : Option RatD :=
  (rational_Mul k a0 a1).bind fun x1 =>
  some x1
def meet_sub (k : Nat) (a0 : RatD) (a1 : RatD) : Option RatD :=
  (rational_Sub k a0 a1).bind fun x1 =>
  some x1
def support_mul (k : Nat) (a0 : RatD) (a1 : RatD) : Option RatD :=
  (rational_Mul k a0 a1).bind fun x1 =>
  some x1
def support_equal (k : Nat) (a0 : RatD) (a1 : RatD) : Option Bool :=
  (rational_Cmp k a0 a1).bind fun x1 =>
  some (x1 == 0)
def support_SameLine (k : Nat) (a0 : LineD) (a1 : LineD) : Option Bool :=
  (support_mul k a0.A a1.B).bind fun x1 =>
  (support_mul k a1.A a0.B).bind fun x2 =>
  (support_equal k x1 x2).bind fun x3 =>
  bif x3 then
    (support_mul k a0.A a1.C).bind fun x4 =>
    (support_mul k a1.A a0.C).bind fun x5 =>
    (support_equal k x4 x5).bind fun x6 =>
    bif x6 then
      (support_mul k a0.B a1.C).bind fun x7 =>
      (support_mul k a1.B a0.C).bind fun x8 =>
      (support_equal k x7 x8).bind fun x9 =>
      some x9
    else
      some false
  else
    some false
def meet_div (k : Nat) (a0 : RatD) (a1 : RatD) : Option RatD :=
  (rational_Div k a0 a1).bind fun x1 =>
  some x1.1
def point_zero (k : Nat) : Option RatD :=
  (rational_FromInt64 k 0).bind fun x1 =>
  some x1
def point_At (k : Nat) (a0 : VecD) : Option PointD :=
  (point_zero k).bind fun x1 =>
  (point_zero k).bind fun x2 =>
  (point_zero k).bind fun x3 =>
  some (⟨a0.X, x1, a0.Y, x2, x3⟩ : PointD)
def meet_Lines (k : Nat) (a0 : LineD) (a1 : LineD) : Option (List PointD × Int) :=
  (meet_mul k a0.A a1.B).bind fun x1 =>
  (meet_mul k a1.A a0.B).bind fun x2 =>
  (meet_sub k x1 x2).bind fun x3 =>
  (rational_Sign k x3).bind fun x4 =>
  bif x4 == 0 then
    (support_SameLine k a0 a1).bind fun x5 =>
    bif x5 then
      some ([], 10)
    else
      some ([], 0)
  else
    (meet_mul k a0.C a1.B).bind fun x6 =>
    (meet_mul k a1.C a0.B).bind fun x7 =>
    (meet_sub k x6 x7).bind fun x8 =>
    (meet_div k x8 x3).bind fun x9 =>
    (meet_mul k a0.A a1.C).bind fun x10 =>
    (meet_mul k a1.A a0.C).bind fun x11 =>
    (meet_sub k x10 x11).bind fun x12 =>
    (meet_div k x12 x3).bind fun x13 =>
    (point_At k (⟨x9, x13⟩ : VecD)).bind fun x14 =>
    some (([x14] : List PointD), 0)
def swarflaw09_circle (k : Nat) (a0 : Int) (a1 : Int) (a2 : Int) : Option CircleD :=
  (swarflaw09_num k a0).bind fun x1 =>
  (swarflaw09_num k a1).bind fun x2 =>
  (swarflaw09_num k a2).bind fun x3 =>
  some (⟨x1, x2, x3⟩ : CircleD)
def support_add (k : Nat) (a0 : RatD) (a1 : RatD) : Option RatD :=
  (rational_Add k a0 a1).bind fun x1 =>
  some x1
def support_sub (k : Nat) (a0 : RatD) (a1 : RatD) : Option RatD :=
  (rational_Sub k a0 a1).bind fun x1 =>
  some x1
def support_over (k : Nat) (a0 : RatD) (a1 : RatD) : Option RatD :=
  (rational_Div k a0 a1).bind fun x1 =>
  bif x1.2 != 0 then
    (rational_FromInt64 k 0).bind fun x2 =>
    some x2
  else
    some x1.1
def support_Foot (k : Nat) (a0 : LineD) (a1 : VecD) : Option VecD :=
  (support_mul k a0.A a1.X).bind fun x1 =>
  (support_mul k a0.B a1.Y).bind fun x2 =>
  (support_add k x1 x2).bind fun x3 =>
  (support_sub k x3 a0.C).bind fun x4 =>
  (support_mul k a0.A a0.A).bind fun x5 =>
  (support_mul k a0.B a0.B).bind fun x6 =>
  (support_add k x5 x6).bind fun x7 =>
  (support_over k x4 x7).bind fun x8 =>
  (support_mul k x8 a0.A).bind fun x9 =>
  (support_sub k a1.X x9).bind fun x10 =>
  (support_mul k x8 a0.B).bind fun x11 =>
  (support_sub k a1.Y x11).bind fun x12 =>
  some (⟨x10, x12⟩ : VecD)
def meet_add (k : Nat) (a0 : RatD) (a1 : RatD) : Option RatD :=
  (rational_Add k a0 a1).bind fun x1 =>
  some x1
def meet_depth (k : Nat) (a0 : LineD) (a1 : CircleD) : Option (RatD × VecD) :=
  (support_Foot k a0 (⟨a1.X, a1.Y⟩ : VecD)).bind fun x1 =>
  (meet_sub k x1.X a1.X).bind fun x2 =>
  (meet_sub k x1.Y a1.Y).bind fun x3 =>
  (meet_mul k x2 x2).bind fun x4 =>
  (meet_mul k x3 x3).bind fun x5 =>
  (meet_add k x4 x5).bind fun x6 =>
  (meet_sub k a1.Q x6).bind fun x7 =>
  (meet_mul k a0.A a0.A).bind fun x8 =>
  (meet_mul k a0.B a0.B).bind fun x9 =>
  (meet_add k x8 x9).bind fun x10 =>
  (meet_div k x7 x10).bind fun x11 =>
  some (x11, x1)
def point_reduced (k : Nat) (a0 : PointD) : Option PointD :=
  (rational_Sign k a0.BX).bind fun x1 =>
  bif x1 == 0 then
    (rational_Sign k a0.BY).bind fun x2 =>
    bif x2 == 0 then
      (point_zero k).bind fun x3 =>
      some (⟨a0.AX, a0.BX, a0.AY, a0.BY, x3⟩ : PointD)
    else
      some a0
  else
    some a0
def point_Make (k : Nat) (a0 : RootD) (a1 : RootD) : Option (PointD × Int) :=
  (rational_Sign k a0.B).bind fun x1 =>
  bif x1 == 0 then
    (point_reduced k (⟨a0.A, a0.B, a1.A, a1.B, a1.C⟩ : PointD)).bind fun x2 =>
    some (x2, 0)
  else
    (rational_Sign k a1.B).bind fun x3 =>
    bif x3 != 0 then
      (rational_Cmp k a0.C a1.C).bind fun x4 =>
      bif x4 != 0 then
        some ((⟨(⟨(⟨false, []⟩ : IntD), (⟨false, []⟩ : IntD)⟩ : RatD), (⟨(⟨false, []⟩ : IntD), (⟨false, []⟩ : IntD)⟩ : RatD), (⟨(⟨false, []⟩ : IntD), (⟨false, []⟩ : IntD)⟩ : RatD), (⟨(⟨false, []⟩ : IntD), (⟨false, []⟩ : IntD)⟩ : RatD), (⟨(⟨false, []⟩ : IntD), (⟨false, []⟩ : IntD)⟩ : RatD)⟩ : PointD), 1)
      else
        (point_reduced k (⟨a0.A, a0.B, a1.A, a1.B, a0.C⟩ : PointD)).bind fun x5 =>
        some (x5, 0)
    else
      (point_reduced k (⟨a0.A, a0.B, a1.A, a1.B, a0.C⟩ : PointD)).bind fun x6 =>
      some (x6, 0)
def meet_surd (k : Nat) (a0 : RatD) (a1 : RatD) (a2 : RatD) (a3 : RatD) (a4 : RatD) : Option PointD :=
  (root_Make k a0 a1 a4).bind fun x1 =>
  (root_Make k a2 a3 a4).bind fun x2 =>
  (point_Make k x1.1 x2.1).bind fun x3 =>
  some x3.1
def meet_LineCircle (k : Nat) (a0 : LineD) (a1 : CircleD) : Option (List PointD) :=
  (meet_depth k a0 a1).bind fun x1 =>
  (rational_Sign k x1.1).bind fun x2 =>
  bif x2 == (-1) then
    some []
  else
    bif x2 == 0 then
      (point_At k x1.2).bind fun x3 =>
      some ([x3] : List PointD)
    else
      (rational_Neg k a0.A).bind fun x4 =>
      (rational_Sign k a0.B).bind fun x5 =>
      bif decide (x5 < 0) then
        (rational_Neg k a0.B).bind fun x6 =>
        (rational_Neg k x4).bind fun x7 =>
        (rational_Neg k x6).bind fun x8 =>
        (rational_Neg k x7).bind fun x9 =>
        (meet_surd k x1.2.X x8 x1.2.Y x9 x1.1).bind fun x10 =>
        (meet_surd k x1.2.X x6 x1.2.Y x7 x1.1).bind fun x11 =>
        some ([x10, x11] : List PointD)
      else
        bif x5 == 0 then
          (rational_Sign k x4).bind fun x12 =>
          bif decide (x12 < 0) then
            (rational_Neg k a0.B).bind fun x13 =>
            (rational_Neg k x4).bind fun x14 =>
            (rational_Neg k x13).bind fun x15 =>
            (rational_Neg k x14).bind fun x16 =>
            (meet_surd k x1.2.X x15 x1.2.Y x16 x1.1).bind fun x17 =>
            (meet_surd k x1.2.X x13 x1.2.Y x14 x1.1).bind fun x18 =>
            some ([x17, x18] : List PointD)
          else
            (rational_Neg k a0.B).bind fun x19 =>
            (rational_Neg k x4).bind fun x20 =>
            (meet_surd k x1.2.X x19 x1.2.Y x20 x1.1).bind fun x21 =>
            (meet_surd k x1.2.X a0.B x1.2.Y x4 x1.1).bind fun x22 =>
            some ([x21, x22] : List PointD)
        else
          (rational_Neg k a0.B).bind fun x23 =>
          (rational_Neg k x4).bind fun x24 =>
          (meet_surd k x1.2.X x23 x1.2.Y x24 x1.1).bind fun x25 =>
          (meet_surd k x1.2.X a0.B x1.2.Y x4 x1.1).bind fun x26 =>
          some ([x25, x26] : List PointD)
def support_SameCircle (k : Nat) (a0 : CircleD) (a1 : CircleD) : Option Bool :=
  (support_equal k a0.X a1.X).bind fun x1 =>
  bif x1 then
    (support_equal k a0.Y a1.Y).bind fun x2 =>
    bif x2 then
      (support_equal k a0.Q a1.Q).bind fun x3 =>
      some x3
    else
      some false
  else
    some false
def meet_concentric (k : Nat) (a0 : CircleD) (a1 : CircleD) : Option Bool :=
  (rational_Cmp k a0.X a1.X).bind fun x1 =>
  bif x1 == 0 then
    (rational_Cmp k a0.Y a1.Y).bind fun x2 =>
    some (x2 == 0)
  else
    some false
def meet_Radical_1 (k : Nat) (a0 : CircleD) : Option RatD :=
  (meet_mul k a0.X a0.X).bind fun x1 =>
  (meet_mul k a0.Y a0.Y).bind fun x2 =>
  (meet_add k x1 x2).bind fun x3 =>
  (meet_sub k x3 a0.Q).bind fun x4 =>
  some x4
def meet_Radical (k : Nat) (a0 : CircleD) (a1 : CircleD) : Option (LineD × Int) :=
  (meet_concentric k a0 a1).bind fun x1 =>
  bif x1 then
    some ((⟨(⟨(⟨false, []⟩ : IntD), (⟨false, []⟩ : IntD)⟩ : RatD), (⟨(⟨false, []⟩ : IntD), (⟨false, []⟩ : IntD)⟩ : RatD), (⟨(⟨false, []⟩ : IntD), (⟨false, []⟩ : IntD)⟩ : RatD)⟩ : LineD), 6)
  else
    (rational_FromInt64 k 2).bind fun x2 =>
    (meet_sub k a1.X a0.X).bind fun x3 =>
    (meet_mul k x2 x3).bind fun x4 =>
    (meet_sub k a1.Y a0.Y).bind fun x5 =>
    (meet_mul k x2 x5).bind fun x6 =>
    (meet_Radical_1 k a1).bind fun x7 =>
    (meet_Radical_1 k a0).bind fun x8 =>
    (meet_sub k x7 x8).bind fun x9 =>
    some ((⟨x4, x6, x9⟩ : LineD), 0)
def meet_Circles (k : Nat) (a0 : CircleD) (a1 : CircleD) : Option (List PointD × Int) :=
  (support_SameCircle k a0 a1).bind fun x1 =>
  bif x1 then
    some ([], 10)
  else
    (meet_concentric k a0 a1).bind fun x2 =>
    bif x2 then
      some ([], 0)
    else
      (meet_Radical k a0 a1).bind fun x3 =>
      (meet_LineCircle k x3.1 a0).bind fun x4 =>
      some (x4, 0)
def swarfref07_Vec (k : Nat) (a0 : Int) (a1 : Int) : Option VecD :=
  (swarfref02_FromInt64 k a0).bind fun x1 =>
  (swarfref02_FromInt64 k a1).bind fun x2 =>
  some (⟨x1, x2⟩ : VecD)
def swarfref07_zero (k : Nat) : Option RatD :=
  (swarfref02_FromInt64 k 0).bind fun x1 =>
  some x1
def swarfref07_At (k : Nat) (a0 : VecD) : Option PointD :=
  (swarfref07_zero k).bind fun x1 =>
  (swarfref07_zero k).bind fun x2 =>
  (swarfref07_zero k).bind fun x3 =>
  some (⟨a0.X, x1, a0.Y, x2, x3⟩ : PointD)
def swarflaw09_at (k : Nat) (a0 : Int) (a1 : Int) : Option PointD :=
  (swarfref07_Vec k a0 a1).bind fun x1 =>
  (swarfref07_At k x1).bind fun x2 =>
  some x2
def swarfref07_coordinate (k : Nat) (a0 : RatD) (a1 : RatD) (a2 : RatD) : Option RootD :=
  (swarfref02_Sign k a1).bind fun x1 =>
  bif x1 == 0 then
    (swarfref03_FromRat k a0).bind fun x2 =>
    some x2
  else
    some (⟨a0, a1, a2⟩ : RootD)
def swarfref07_X (k : Nat) (a0 : PointD) : Option RootD :=
  (swarfref07_coordinate k a0.AX a0.BX a0.C).bind fun x1 =>
  some x1
def swarfref05_Sub (k : Nat) (a0 : RootD) (a1 : RootD) : Option QuadD :=
  (swarfref02_Sub k a0.A a1.A).bind fun x1 =>
  (swarfref02_Neg k a1.B).bind fun x2 =>
  (swarfref02_FromInt64 k 0).bind fun x3 =>
  some (⟨x1, a0.B, x2, x3, a0.C, a1.C⟩ : QuadD)
def swarfref05_two (k : Nat) (a0 : RatD) (a1 : RatD) (a2 : RatD) : Option Int :=
  (swarfref02_Sign k a0).bind fun x1 =>
  (swarfref02_Sign k a1).bind fun x2 =>
  (swarfref02_Sign k a2).bind fun x3 =>
  bif x1 == 0 then
    bif x1 == 0 then
      some (IntKind.i64.wrap (x2 * x3))
    else
      some x1
  else
    bif (IntKind.i64.wrap (x2 * x3)) == 0 then
      bif x1 == 0 then
        some (IntKind.i64.wrap (x2 * x3))
      else
        some x1
    else
      bif x1 == (IntKind.i64.wrap (x2 * x3)) then
        bif x1 == 0 then
          some (IntKind.i64.wrap (x2 * x3))
        else
          some x1
      else
        (swarfref02_Mul k a0 a0).bind fun x4 =>
        (swarfref02_Mul k a1 a1).bind fun x5 =>
        (swarfref02_Mul k x5 a2).bind fun x6 =>
        (swarfref02_Cmp k x4 x6).bind fun x7 =>
        some (IntKind.i64.wrap (x1 * x7))
def swarfref05_Sign (k : Nat) (a0 : QuadD) : Option Int :=
  (swarfref02_Sign k a0.M).bind fun x1 =>
  bif decide (x1 < 0) then
    some 0
  else
    (swarfref02_Sign k a0.N).bind fun x2 =>
    bif decide (x2 < 0) then
      some 0
    else
      (swarfref05_two k a0.A a0.B a0.M).bind fun x3 =>
      (swarfref05_two k a0.C a0.D a0.M).bind fun x4 =>
      (swarfref02_Sign k a0.N).bind fun x5 =>
      bif x3 == 0 then
        bif x3 == 0 then
          some (IntKind.i64.wrap (x4 * x5))
        else
          some x3
      else
        bif (IntKind.i64.wrap (x4 * x5)) == 0 then
          bif x3 == 0 then
            some (IntKind.i64.wrap (x4 * x5))
          else
            some x3
        else
          bif x3 == (IntKind.i64.wrap (x4 * x5)) then
            bif x3 == 0 then
              some (IntKind.i64.wrap (x4 * x5))
            else
              some x3
          else
            (swarfref02_Mul k a0.C a0.C).bind fun x6 =>
            (swarfref02_Mul k a0.D a0.D).bind fun x7 =>
            (swarfref02_Mul k x7 a0.M).bind fun x8 =>
            (swarfref02_Add k x6 x8).bind fun x9 =>
            (swarfref02_Mul k a0.N x9).bind fun x10 =>
            (swarfref02_Mul k a0.A a0.A).bind fun x11 =>
            (swarfref02_Mul k a0.B a0.B).bind fun x12 =>
            (swarfref02_Mul k x12 a0.M).bind fun x13 =>
            (swarfref02_Add k x11 x13).bind fun x14 =>
            (swarfref02_Sub k x14 x10).bind fun x15 =>
            (swarfref02_Mul k a0.A a0.B).bind fun x16 =>
            (swarfref02_Mul k a0.C a0.D).bind fun x17 =>
            (swarfref02_Mul k a0.N x17).bind fun x18 =>
            (swarfref02_Sub k x16 x18).bind fun x19 =>
            (swarfref02_Add k x19 x19).bind fun x20 =>
            (swarfref05_two k x15 x20 a0.M).bind fun x21 =>
            some (IntKind.i64.wrap (x3 * x21))
def swarfref05_Cmp (k : Nat) (a0 : RootD) (a1 : RootD) : Option Int :=
  (swarfref05_Sub k a0 a1).bind fun x1 =>
  (swarfref05_Sign k x1).bind fun x2 =>
  some x2
def swarfref07_Y (k : Nat) (a0 : PointD) : Option RootD :=
  (swarfref07_coordinate k a0.AY a0.BY a0.C).bind fun x1 =>
  some x1
def swarfref07_Compare (k : Nat) (a0 : PointD) (a1 : PointD) : Option Int :=
  (swarfref07_X k a0).bind fun x1 =>
  (swarfref07_X k a1).bind fun x2 =>
  (swarfref05_Cmp k x1 x2).bind fun x3 =>
  bif x3 != 0 then
    some x3
  else
    (swarfref07_Y k a0).bind fun x4 =>
    (swarfref07_Y k a1).bind fun x5 =>
    (swarfref05_Cmp k x4 x5).bind fun x6 =>
    some x6
def swarfref07_Equal (k : Nat) (a0 : PointD) (a1 : PointD) : Option Bool :=
  (swarfref07_Compare k a0 a1).bind fun x1 =>
  some (x1 == 0)
def swarfref09_Same_L0 (k : Nat) (t0 : List PointD) (t1 : List PointD) (t5 : Int) : Option ((List PointD × List PointD × Int × Unit) ⊕ ((Unit) ⊕ (Bool × Unit))) :=
  bif decide (t5 < (t0.length : Int)) then
    bif ixOk t5 t0.length then
      bif ixOk t5 t1.length then
        (swarfref07_Equal k (⟨(⟨(((t0.getD t5.toNat default).AX).num), (((t0.getD t5.toNat default).AX).den)⟩ : RatD), (⟨(((t0.getD t5.toNat default).BX).num), (((t0.getD t5.toNat default).BX).den)⟩ : RatD), (⟨(((t0.getD t5.toNat default).AY).num), (((t0.getD t5.toNat default).AY).den)⟩ : RatD), (⟨(((t0.getD t5.toNat default).BY).num), (((t0.getD t5.toNat default).BY).den)⟩ : RatD), (⟨(((t0.getD t5.toNat default).C).num), (((t0.getD t5.toNat default).C).den)⟩ : RatD)⟩ : PointD) (⟨(⟨(((t1.getD t5.toNat default).AX).num), (((t1.getD t5.toNat default).AX).den)⟩ : RatD), (⟨(((t1.getD t5.toNat default).BX).num), (((t1.getD t5.toNat default).BX).den)⟩ : RatD), (⟨(((t1.getD t5.toNat default).AY).num), (((t1.getD t5.toNat default).AY).den)⟩ : RatD), (⟨(((t1.getD t5.toNat default).BY).num), (((t1.getD t5.toNat default).BY).den)⟩ : RatD), (⟨(((t1.getD t5.toNat default).C).num), (((t1.getD t5.toNat default).C).den)⟩ : RatD)⟩ : PointD)).bind fun x1 =>
        bif !x1 then
          some (.inr (.inr (false, ())))
        else
          some (.inl (t0, t1, IntKind.i64.wrap (t5 + 1), ()))
      else
        none
    else
      none
  else
    some (.inr (.inl (())))
def swarfref09_Same (k : Nat) (a0 : List PointD) (a1 : List PointD) : Option Bool :=
  bif (a0.length : Int) != (a1.length : Int) then
    some false
  else
    (iter (fun (x3 : (List PointD × List PointD × Int × Unit)) => swarfref09_Same_L0 k x3.1 x3.2.1 x3.2.2.1) k (a0, a1, 0, ())).bind fun x2 =>
    match x2 with
    | .inl x4 =>
      some true
    | .inr x5 =>
      some x5.1
def meet_Touches (k : Nat) (a0 : LineD) (a1 : CircleD) : Option Bool :=
  (meet_depth k a0 a1).bind fun x1 =>
  (rational_Sign k x1.1).bind fun x2 =>
  some (x2 == 0)
def swarflaw09_awake (k : Nat) : Option Bool :=
  (swarflaw09_line k 1 1 3).bind fun x1 =>
  (swarflaw09_line k 1 (-1) 1).bind fun x2 =>
  (meet_Lines k x1 x2).bind fun x3 =>
  (swarflaw09_line k 0 1 1).bind fun x4 =>
  (swarflaw09_circle k 0 0 2).bind fun x5 =>
  (meet_LineCircle k x4 x5).bind fun x6 =>
  (swarflaw09_line k 1 1 2).bind fun x7 =>
  (swarflaw09_circle k 0 0 2).bind fun x8 =>
  (meet_LineCircle k x7 x8).bind fun x9 =>
  (swarflaw09_circle k 0 0 1).bind fun x10 =>
  (swarflaw09_circle k 1 0 1).bind fun x11 =>
  (meet_Circles k x10 x11).bind fun x12 =>
  (swarflaw09_circle k 0 0 1).bind fun x13 =>
  (swarflaw09_circle k 0 0 1).bind fun x14 =>
  (meet_Circles k x13 x14).bind fun x15 =>
  bif x3.2 == 0 then
    (swarflaw09_at k 2 1).bind fun x16 =>
    (swarfref09_Same k x3.1 ([x16] : List PointD)).bind fun x17 =>
    bif x17 then
      (swarflaw09_at k (-1) 1).bind fun x18 =>
      (swarflaw09_at k 1 1).bind fun x19 =>
      (swarfref09_Same k x6 ([x18, x19] : List PointD)).bind fun x20 =>
      bif x20 then
        (swarflaw09_at k 1 1).bind fun x21 =>
        (swarfref09_Same k x9 ([x21] : List PointD)).bind fun x22 =>
        bif x22 then
          bif x12.2 == 0 then
            bif (x12.1.length : Int) == 2 then
              bif x15.2 == 10 then
                (swarflaw09_line k 1 1 2).bind fun x23 =>
                (swarflaw09_circle k 0 0 2).bind fun x24 =>
                (meet_Touches k x23 x24).bind fun x25 =>
                some x25
              else
                some false
            else
              some false
          else
            some false
        else
          some false
      else
        some false
    else
      some false
  else
    some false
def swarfref05_Few_L0 (k : Nat) (t0 : List RatD) (t3 : Int) : Option ((List RatD × Int × Unit) ⊕ ((Unit) ⊕ (Bool × Unit))) :=
  bif decide (t3 < (t0.length : Int)) then
    bif ixOk t3 t0.length then
      bif decide (((((t0.getD t3.toNat default).num).limbs).length : Int) > 2) then
        some (.inr (.inr (false, ())))
      else
        bif ixOk t3 t0.length then
          bif decide (((((t0.getD t3.toNat default).den).limbs).length : Int) > 2) then
            some (.inr (.inr (false, ())))
          else
            bif ixOk t3 t0.length then
              (swarfref02_Valid k (⟨((t0.getD t3.toNat default).num), ((t0.getD t3.toNat default).den)⟩ : RatD)).bind fun x1 =>
              bif !x1 then
                some (.inr (.inr (false, ())))
              else
                some (.inl (t0, IntKind.i64.wrap (t3 + 1), ()))
            else
              none
        else
          none
    else
      none
  else
    some (.inr (.inl (())))
def swarfref05_Few (k : Nat) (a0 : List RatD) : Option Bool :=
  (iter (fun (x3 : (List RatD × Int × Unit)) => swarfref05_Few_L0 k x3.1 x3.2.1) k (a0, 0, ())).bind fun x2 =>
  match x2 with
  | .inl x4 =>
    some true
  | .inr x5 =>
    some x5.1
def swarfref09_Line (k : Nat) (a0 : LineD) : Option Bool :=
  (swarfref05_Few k ([a0.A, a0.B, a0.C] : List RatD)).bind fun x1 =>
  bif x1 then
    (swarfref02_Sign k a0.A).bind fun x2 =>
    bif x2 != 0 then
      some true
    else
      (swarfref02_Sign k a0.B).bind fun x3 =>
      some (x3 != 0)
  else
    some false
def swarfref09_mul (k : Nat) (a0 : RatD) (a1 : RatD) : Option RatD :=
  (swarfref02_Mul k a0 a1).bind fun x1 =>
  some x1
def swarfref09_sub (k : Nat) (a0 : RatD) (a1 : RatD) : Option RatD :=
  (swarfref02_Sub k a0 a1).bind fun x1 =>
  some x1
def swarfref09_Cross (k : Nat) (a0 : LineD) (a1 : LineD) : Option RatD :=
  (swarfref09_mul k a0.A a1.B).bind fun x1 =>
  (swarfref09_mul k a1.A a0.B).bind fun x2 =>
  (swarfref09_sub k x1 x2).bind fun x3 =>
  some x3
def swarfref09_over (k : Nat) (a0 : RatD) (a1 : RatD) : Option RatD :=
  (swarfref02_Div k a0 a1).bind fun x1 =>
  some x1.1
def swarfref09_Lines (k : Nat) (a0 : LineD) (a1 : LineD) : Option (List PointD × Int) :=
  (swarfref09_Cross k a0 a1).bind fun x1 =>
  (swarfref09_mul k a0.C a1.B).bind fun x2 =>
  (swarfref09_mul k a1.C a0.B).bind fun x3 =>
  (swarfref09_sub k x2 x3).bind fun x4 =>
  (swarfref09_mul k a0.A a1.C).bind fun x5 =>
  (swarfref09_mul k a1.A a0.C).bind fun x6 =>
  (swarfref09_sub k x5 x6).bind fun x7 =>
  (swarfref02_Sign k x1).bind fun x8 =>
  bif x8 != 0 then
    (swarfref09_over k x4 x1).bind fun x9 =>
    (swarfref09_over k x7 x1).bind fun x10 =>
    (swarfref07_At k (⟨x9, x10⟩ : VecD)).bind fun x11 =>
    some (([x11] : List PointD), 0)
  else
    (swarfref02_Sign k x4).bind fun x12 =>
    bif x12 == 0 then
      (swarfref02_Sign k x7).bind fun x13 =>
      bif x13 == 0 then
        some ([], 10)
      else
        some ([], 0)
    else
      some ([], 0)
def swarfref07_Valid (k : Nat) (a0 : PointD) : Option Bool :=
  (swarfref02_Valid k a0.AX).bind fun x1 =>
  bif !x1 then
    some false
  else
    (swarfref02_Valid k a0.AY).bind fun x2 =>
    bif !x2 then
      some false
    else
      (swarfref02_Valid k a0.BX).bind fun x3 =>
      bif !x3 then
        some false
      else
        (swarfref02_Valid k a0.BY).bind fun x4 =>
        bif !x4 then
          some false
        else
          (swarfref02_Valid k a0.C).bind fun x5 =>
          bif !x5 then
            some false
          else
            (swarfref02_Sign k a0.BX).bind fun x6 =>
            bif x6 == 0 then
              (swarfref02_Sign k a0.BY).bind fun x7 =>
              bif x7 == 0 then
                (swarfref02_Sign k a0.C).bind fun x8 =>
                some (x8 == 0)
              else
                (swarfref02_Sqrt k a0.C).bind fun x9 =>
                (swarfref02_Sign k a0.C).bind fun x10 =>
                bif decide (x10 > 0) then
                  some (!x9.2)
                else
                  some false
            else
              (swarfref02_Sqrt k a0.C).bind fun x11 =>
              (swarfref02_Sign k a0.C).bind fun x12 =>
              bif decide (x12 > 0) then
                some (!x11.2)
              else
                some false
def swarfref09_Good_L0 (k : Nat) (t0 : List PointD) (t3 : Int) : Option ((List PointD × Int × Unit) ⊕ ((Unit) ⊕ (Bool × Unit))) :=
  bif decide (t3 < (t0.length : Int)) then
    bif ixOk t3 t0.length then
      (swarfref07_Valid k (⟨(⟨(((t0.getD t3.toNat default).AX).num), (((t0.getD t3.toNat default).AX).den)⟩ : RatD), (⟨(((t0.getD t3.toNat default).BX).num), (((t0.getD t3.toNat default).BX).den)⟩ : RatD), (⟨(((t0.getD t3.toNat default).AY).num), (((t0.getD t3.toNat default).AY).den)⟩ : RatD), (⟨(((t0.getD t3.toNat default).BY).num), (((t0.getD t3.toNat default).BY).den)⟩ : RatD), (⟨(((t0.getD t3.toNat default).C).num), (((t0.getD t3.toNat default).C).den)⟩ : RatD)⟩ : PointD)).bind fun x1 =>
      bif !x1 then
        some (.inr (.inr (false, ())))
      else
        some (.inl (t0, IntKind.i64.wrap (t3 + 1), ()))
    else
      none
  else
    some (.inr (.inl (())))
def swarfref09_Good (k : Nat) (a0 : List PointD) : Option Bool :=
  (iter (fun (x3 : (List PointD × Int × Unit)) => swarfref09_Good_L0 k x3.1 x3.2.1) k (a0, 0, ())).bind fun x2 =>
  match x2 with
  | .inl x4 =>
    some true
  | .inr x5 =>
    some x5.1
def swarflaw09_same (k : Nat) (a0 : List PointD) (a1 : Int) (a2 : List PointD) (a3 : Int) : Option Bool :=
  bif a1 == a3 then
    (swarfref09_Good k a0).bind fun x1 =>
    bif x1 then
      (swarfref09_Same k a0 a2).bind fun x2 =>
      some x2
    else
      some false
  else
    some false
def swarflaw09_MeetLines (k : Nat) (a0 : LineD) (a1 : LineD) : Option Bool :=
  (swarflaw09_awake k).bind fun x1 =>
  bif !x1 then
    (swarflaw09_awake k).bind fun x2 =>
    some x2
  else
    (swarfref09_Line k a0).bind fun x3 =>
    bif !x3 then
      (swarflaw09_awake k).bind fun x4 =>
      some x4
    else
      (swarfref09_Line k a1).bind fun x5 =>
      bif !x5 then
        (swarflaw09_awake k).bind fun x6 =>
        some x6
      else
        (meet_Lines k a0 a1).bind fun x7 =>
        (swarfref09_Lines k a0 a1).bind fun x8 =>
        (swarflaw09_same k x7.1 x7.2 x8.1 x8.2).bind fun x9 =>
        some x9
def swarfref09_Circle (k : Nat) (a0 : CircleD) : Option Bool :=
  (swarfref05_Few k ([a0.X, a0.Y, a0.Q] : List RatD)).bind fun x1 =>
  bif x1 then
    (swarfref02_Sign k a0.Q).bind fun x2 =>
    some (decide (x2 > 0))
  else
    some false
def swarfref09_add (k : Nat) (a0 : RatD) (a1 : RatD) : Option RatD :=
  (swarfref02_Add k a0 a1).bind fun x1 =>
  some x1
def swarfref09_Value (k : Nat) (a0 : LineD) (a1 : RatD) (a2 : RatD) : Option RatD :=
  (swarfref09_mul k a0.A a1).bind fun x1 =>
  (swarfref09_mul k a0.B a2).bind fun x2 =>
  (swarfref09_add k x1 x2).bind fun x3 =>
  (swarfref09_sub k x3 a0.C).bind fun x4 =>
  some x4
def swarfref09_Norm (k : Nat) (a0 : LineD) : Option RatD :=
  (swarfref09_mul k a0.A a0.A).bind fun x1 =>
  (swarfref09_mul k a0.B a0.B).bind fun x2 =>
  (swarfref09_add k x1 x2).bind fun x3 =>
  some x3
def swarfref09_Room (k : Nat) (a0 : LineD) (a1 : CircleD) : Option RatD :=
  (swarfref09_Value k a0 a1.X a1.Y).bind fun x1 =>
  (swarfref09_Norm k a0).bind fun x2 =>
  (swarfref09_mul k x2 a1.Q).bind fun x3 =>
  (swarfref09_mul k x1 x1).bind fun x4 =>
  (swarfref09_sub k x3 x4).bind fun x5 =>
  some x5
def swarfref09_neg (k : Nat) (a0 : RatD) : Option RatD :=
  (swarfref02_Neg k a0).bind fun x1 =>
  some x1
def swarfref09_Reduced (k : Nat) (a0 : RatD) (a1 : RatD) (a2 : RatD) (a3 : RatD) (a4 : RatD) : Option PointD :=
  (swarfref02_Sqrt k a4).bind fun x1 =>
  bif x1.2 then
    (swarfref09_mul k a1 x1.1).bind fun x2 =>
    (swarfref09_add k a0 x2).bind fun x3 =>
    (swarfref09_mul k a3 x1.1).bind fun x4 =>
    (swarfref09_add k a2 x4).bind fun x5 =>
    (swarfref07_At k (⟨x3, x5⟩ : VecD)).bind fun x6 =>
    some x6
  else
    some (⟨a0, a1, a2, a3, a4⟩ : PointD)
def swarfref09_LineCircle (k : Nat) (a0 : LineD) (a1 : CircleD) : Option (List PointD) :=
  (swarfref09_Room k a0 a1).bind fun x1 =>
  (swarfref09_Norm k a0).bind fun x2 =>
  (swarfref02_Sign k x1).bind fun x3 =>
  bif decide (x3 < 0) then
    some []
  else
    (swarfref09_Value k a0 a1.X a1.Y).bind fun x4 =>
    (swarfref09_over k x4 x2).bind fun x5 =>
    (swarfref09_mul k x5 a0.A).bind fun x6 =>
    (swarfref09_sub k a1.X x6).bind fun x7 =>
    (swarfref09_mul k x5 a0.B).bind fun x8 =>
    (swarfref09_sub k a1.Y x8).bind fun x9 =>
    (swarfref02_Sign k x1).bind fun x10 =>
    bif x10 == 0 then
      (swarfref07_At k (⟨x7, x9⟩ : VecD)).bind fun x11 =>
      some ([x11] : List PointD)
    else
      (swarfref09_over k a0.B x2).bind fun x12 =>
      (swarfref09_neg k a0.A).bind fun x13 =>
      (swarfref09_over k x13 x2).bind fun x14 =>
      (swarfref09_neg k x12).bind fun x15 =>
      (swarfref09_neg k x14).bind fun x16 =>
      (swarfref09_Reduced k x7 x15 x9 x16 x1).bind fun x17 =>
      (swarfref09_Reduced k x7 x12 x9 x14 x1).bind fun x18 =>
      (swarfref07_Compare k x17 x18).bind fun x19 =>
      bif decide (x19 > 0) then
        some ([x18, x17] : List PointD)
      else
        some ([x17, x18] : List PointD)
def swarflaw09_MeetLineCircle (k : Nat) (a0 : LineD) (a1 : CircleD) : Option Bool :=
  (swarflaw09_awake k).bind fun x1 =>
  bif !x1 then
    (swarflaw09_awake k).bind fun x2 =>
    some x2
  else
    (swarfref09_Line k a0).bind fun x3 =>
    bif !x3 then
      (swarflaw09_awake k).bind fun x4 =>
      some x4
    else
      (swarfref09_Circle k a1).bind fun x5 =>
      bif !x5 then
        (swarflaw09_awake k).bind fun x6 =>
        some x6
      else
        (meet_LineCircle k a0 a1).bind fun x7 =>
        (swarfref09_LineCircle k a0 a1).bind fun x8 =>
        (swarflaw09_same k x7 0 x8 0).bind fun x9 =>
        bif x9 then
          (meet_Touches k a0 a1).bind fun x10 =>
          (swarfref09_Room k a0 a1).bind fun x11 =>
          (swarfref02_Sign k x11).bind fun x12 =>
          some (x10 == (x12 == 0))
        else
          some false
def swarfref09_Concentric (k : Nat) (a0 : CircleD) (a1 : CircleD) : Option Bool :=
  (swarfref02_Cmp k a0.X a1.X).bind fun x1 =>
  bif x1 == 0 then
    (swarfref02_Cmp k a0.Y a1.Y).bind fun x2 =>
    some (x2 == 0)
  else
    some false
def swarfref09_Radical (k : Nat) (a0 : CircleD) (a1 : CircleD) : Option (LineD × Int) :=
  (swarfref09_Concentric k a0 a1).bind fun x1 =>
  bif x1 then
    some ((⟨(⟨(⟨false, []⟩ : IntD), (⟨false, []⟩ : IntD)⟩ : RatD), (⟨(⟨false, []⟩ : IntD), (⟨false, []⟩ : IntD)⟩ : RatD), (⟨(⟨false, []⟩ : IntD), (⟨false, []⟩ : IntD)⟩ : RatD)⟩ : LineD), 6)
  else
    (swarfref02_FromInt64 k 2).bind fun x2 =>
    (swarfref09_mul k a0.X a0.X).bind fun x3 =>
    (swarfref09_mul k a0.Y a0.Y).bind fun x4 =>
    (swarfref09_add k x3 x4).bind fun x5 =>
    (swarfref09_sub k x5 a0.Q).bind fun x6 =>
    (swarfref09_mul k a1.X a1.X).bind fun x7 =>
    (swarfref09_mul k a1.Y a1.Y).bind fun x8 =>
    (swarfref09_add k x7 x8).bind fun x9 =>
    (swarfref09_sub k x9 a1.Q).bind fun x10 =>
    (swarfref09_sub k a1.X a0.X).bind fun x11 =>
    (swarfref09_mul k x2 x11).bind fun x12 =>
    (swarfref09_sub k a1.Y a0.Y).bind fun x13 =>
    (swarfref09_mul k x2 x13).bind fun x14 =>
    (swarfref09_sub k x10 x6).bind fun x15 =>
    some ((⟨x12, x14, x15⟩ : LineD), 0)
def swarfref09_Circles (k : Nat) (a0 : CircleD) (a1 : CircleD) : Option (List PointD × Int) :=
  (swarfref09_Concentric k a0 a1).bind fun x1 =>
  bif x1 then
    (swarfref02_Cmp k a0.Q a1.Q).bind fun x2 =>
    bif x2 == 0 then
      some ([], 10)
    else
      some ([], 0)
  else
    (swarfref09_Radical k a0 a1).bind fun x3 =>
    (swarfref09_LineCircle k x3.1 a0).bind fun x4 =>
    some (x4, 0)
def swarflaw09_MeetCircles (k : Nat) (a0 : CircleD) (a1 : CircleD) : Option Bool :=
  (swarflaw09_awake k).bind fun x1 =>
  bif !x1 then
    (swarflaw09_awake k).bind fun x2 =>
    some x2
  else
    (swarfref09_Circle k a0).bind fun x3 =>
    bif !x3 then
      (swarflaw09_awake k).bind fun x4 =>
      some x4
    else
      (swarfref09_Circle k a1).bind fun x5 =>
      bif !x5 then
        (swarflaw09_awake k).bind fun x6 =>
        some x6
      else
        (meet_Circles k a0 a1).bind fun x7 =>
        (swarfref09_Circles k a0 a1).bind fun x8 =>
        (swarflaw09_same k x7.1 x7.2 x8.1 x8.2).bind fun x9 =>
        some x9
def swarfref09_Power (k : Nat) (a0 : CircleD) (a1 : RatD) (a2 : RatD) : Option RatD :=
  (swarfref09_sub k a1 a0.X).bind fun x1 =>
  (swarfref09_sub k a2 a0.Y).bind fun x2 =>
  (swarfref09_mul k x1 x1).bind fun x3 =>
  (swarfref09_mul k x2 x2).bind fun x4 =>
  (swarfref09_add k x3 x4).bind fun x5 =>
  (swarfref09_sub k x5 a0.Q).bind fun x6 =>
  some x6
def swarfref08_mul (k : Nat) (a0 : RatD) (a1 : RatD) : Option RatD :=
  (swarfref02_Mul k a0 a1).bind fun x1 =>
  some x1
def swarfref08_add (k : Nat) (a0 : RatD) (a1 : RatD) : Option RatD :=
  (swarfref02_Add k a0 a1).bind fun x1 =>
  some x1
def swarfref08_sub (k : Nat) (a0 : RatD) (a1 : RatD) : Option RatD :=
  (swarfref02_Sub k a0 a1).bind fun x1 =>
  some x1
def swarfref08_Value (k : Nat) (a0 : LineD) (a1 : PointD) : Option RootD :=
  (swarfref08_mul k a0.A a1.AX).bind fun x1 =>
  (swarfref08_mul k a0.B a1.AY).bind fun x2 =>
  (swarfref08_add k x1 x2).bind fun x3 =>
  (swarfref08_sub k x3 a0.C).bind fun x4 =>
  (swarfref08_mul k a0.A a1.BX).bind fun x5 =>
  (swarfref08_mul k a0.B a1.BY).bind fun x6 =>
  (swarfref08_add k x5 x6).bind fun x7 =>
  (swarfref03_Make k x4 x7 a1.C).bind fun x8 =>
  some x8.1
def swarfref08_Side (k : Nat) (a0 : LineD) (a1 : PointD) : Option Int :=
  (swarfref08_Value k a0 a1).bind fun x1 =>
  (swarfref03_Sign k x1).bind fun x2 =>
  some x2
def swarfref08_SameLine (k : Nat) (a0 : LineD) (a1 : LineD) : Option Bool :=
  (swarfref08_mul k a0.A a1.B).bind fun x1 =>
  (swarfref08_mul k a0.B a1.A).bind fun x2 =>
  (swarfref02_Cmp k x1 x2).bind fun x3 =>
  bif x3 == 0 then
    (swarfref08_mul k a0.A a1.C).bind fun x4 =>
    (swarfref08_mul k a0.C a1.A).bind fun x5 =>
    (swarfref02_Cmp k x4 x5).bind fun x6 =>
    bif x6 == 0 then
      (swarfref08_mul k a0.B a1.C).bind fun x7 =>
      (swarfref08_mul k a0.C a1.B).bind fun x8 =>
      (swarfref02_Cmp k x7 x8).bind fun x9 =>
      some (x9 == 0)
    else
      some false
  else
    some false
def swarflaw09_MeetRadical_L0 (k : Nat) (t7 : LineD) (t10 : LineD) (t121 : List PointD) (t122 : Int) (t123 : Int) : Option ((LineD × LineD × List PointD × Int × Int × Unit) ⊕ ((LineD × LineD × Unit) ⊕ (Bool × Unit))) :=
  bif decide (t123 < t122) then
    bif ixOk t123 t121.length then
      (swarfref08_Side k t7 (⟨(⟨(((t121.getD t123.toNat default).AX).num), (((t121.getD t123.toNat default).AX).den)⟩ : RatD), (⟨(((t121.getD t123.toNat default).BX).num), (((t121.getD t123.toNat default).BX).den)⟩ : RatD), (⟨(((t121.getD t123.toNat default).AY).num), (((t121.getD t123.toNat default).AY).den)⟩ : RatD), (⟨(((t121.getD t123.toNat default).BY).num), (((t121.getD t123.toNat default).BY).den)⟩ : RatD), (⟨(((t121.getD t123.toNat default).C).num), (((t121.getD t123.toNat default).C).den)⟩ : RatD)⟩ : PointD)).bind fun x26 =>
      bif x26 != 0 then
        some (.inr (.inr (false, ())))
      else
        some (.inl (t7, t10, t121, t122, IntKind.i64.wrap (t123 + 1), ()))
    else
      none
  else
    some (.inr (.inl (t7, t10, ())))
def swarflaw09_MeetRadical_L0_1 (k : Nat) (t7 : LineD) (t10 : LineD) (t121 : List PointD) (t122 : Int) (t123 : Int) : Option ((LineD × LineD × List PointD × Int × Int × Unit) ⊕ ((LineD × LineD × Unit) ⊕ (Bool × Unit))) :=
  bif decide (t123 < t122) then
    bif ixOk t123 t121.length then
      (swarfref08_Side k t7 (⟨(⟨(((t121.getD t123.toNat default).AX).num), (((t121.getD t123.toNat default).AX).den)⟩ : RatD), (⟨(((t121.getD t123.toNat default).BX).num), (((t121.getD t123.toNat default).BX).den)⟩ : RatD), (⟨(((t121.getD t123.toNat default).AY).num), (((t121.getD t123.toNat default).AY).den)⟩ : RatD), (⟨(((t121.getD t123.toNat default).BY).num), (((t121.getD t123.toNat default).BY).den)⟩ : RatD), (⟨(((t121.getD t123.toNat default).C).num), (((t121.getD t123.toNat default).C).den)⟩ : RatD)⟩ : PointD)).bind fun x40 =>
      bif x40 != 0 then
        some (.inr (.inr (false, ())))
      else
        some (.inl (t7, t10, t121, t122, IntKind.i64.wrap (t123 + 1), ()))
    else
      none
  else
    some (.inr (.inl (t7, t10, ())))
def swarflaw09_MeetRadical (k : Nat) (a0 : CircleD) (a1 : CircleD) (a2 : VecD) : Option Bool :=
  (swarflaw09_awake k).bind fun x1 =>
  bif !x1 then
    (swarflaw09_awake k).bind fun x2 =>
    some x2
  else
    (swarfref09_Circle k a0).bind fun x3 =>
    bif !x3 then
      (swarflaw09_awake k).bind fun x4 =>
      some x4
    else
      (swarfref09_Circle k a1).bind fun x5 =>
      bif !x5 then
        (swarflaw09_awake k).bind fun x6 =>
        some x6
      else
        (swarfref02_Small k a2.X 2).bind fun x7 =>
        bif !x7 then
          (swarflaw09_awake k).bind fun x8 =>
          some x8
        else
          (swarfref02_Small k a2.Y 2).bind fun x9 =>
          bif !x9 then
            (swarflaw09_awake k).bind fun x10 =>
            some x10
          else
            (meet_Radical k a0 a1).bind fun x11 =>
            (swarfref09_Concentric k a0 a1).bind fun x12 =>
            bif x12 then
              some (x11.2 == 6)
            else
              bif x11.2 != 0 then
                some false
              else
                (swarfref02_Valid k x11.1.A).bind fun x13 =>
                bif !x13 then
                  some false
                else
                  (swarfref02_Valid k x11.1.B).bind fun x14 =>
                  bif !x14 then
                    some false
                  else
                    (swarfref02_Valid k x11.1.C).bind fun x15 =>
                    bif !x15 then
                      some false
                    else
                      (swarfref02_Sign k x11.1.A).bind fun x16 =>
                      bif x16 == 0 then
                        (swarfref02_Sign k x11.1.B).bind fun x17 =>
                        bif x17 == 0 then
                          some false
                        else
                          (swarfref09_Power k a0 a2.X a2.Y).bind fun x18 =>
                          (swarfref09_Power k a1 a2.X a2.Y).bind fun x19 =>
                          (swarfref02_Sub k x18 x19).bind fun x20 =>
                          (swarfref02_Sign k x20).bind fun x21 =>
                          (swarfref09_Value k x11.1 a2.X a2.Y).bind fun x22 =>
                          (swarfref02_Sign k x22).bind fun x23 =>
                          bif !((x21 == 0) == (x23 == 0)) then
                            some false
                          else
                            (swarfref09_Radical k a0 a1).bind fun x24 =>
                            (swarfref09_Circles k a0 a1).bind fun x25 =>
                            (iter (fun (x28 : (LineD × LineD × List PointD × Int × Int × Unit)) => swarflaw09_MeetRadical_L0 k x28.1 x28.2.1 x28.2.2.1 x28.2.2.2.1 x28.2.2.2.2.1) k (x11.1, x24.1, x25.1, (x25.1.length : Int), 0, ())).bind fun x27 =>
                            match x27 with
                            | .inl x29 =>
                              (swarfref08_SameLine k x29.1 x29.2.1).bind fun x31 =>
                              some x31
                            | .inr x30 =>
                              some x30.1
                      else
                        (swarfref09_Power k a0 a2.X a2.Y).bind fun x32 =>
                        (swarfref09_Power k a1 a2.X a2.Y).bind fun x33 =>
                        (swarfref02_Sub k x32 x33).bind fun x34 =>
                        (swarfref02_Sign k x34).bind fun x35 =>
                        (swarfref09_Value k x11.1 a2.X a2.Y).bind fun x36 =>
                        (swarfref02_Sign k x36).bind fun x37 =>
                        bif !((x35 == 0) == (x37 == 0)) then
                          some false
                        else
                          (swarfref09_Radical k a0 a1).bind fun x38 =>
                          (swarfref09_Circles k a0 a1).bind fun x39 =>
                          (iter (fun (x42 : (LineD × LineD × List PointD × Int × Int × Unit)) => swarflaw09_MeetRadical_L0_1 k x42.1 x42.2.1 x42.2.2.1 x42.2.2.2.1 x42.2.2.2.2.1) k (x11.1, x38.1, x39.1, (x39.1.length : Int), 0, ())).bind fun x41 =>
                          match x41 with
                          | .inl x43 =>
                            (swarfref08_SameLine k x43.1 x43.2.1).bind fun x45 =>
                            some x45
                          | .inr x44 =>
                            some x44.1
def swarfref07_Translate (k : Nat) (a0 : PointD) (a1 : VecD) : Option PointD :=
  (swarfref02_Add k a0.AX a1.X).bind fun x1 =>
  (swarfref02_Add k a0.AY a1.Y).bind fun x2 =>
  some (⟨x1, a0.BX, x2, a0.BY, a0.C⟩ : PointD)
def swarflaw09_MeetMoved_L0 (k : Nat) (t7 : VecD) (t10 : List PointD) (t11 : List PointD) (t77 : Int) (t78 : Int) : Option ((VecD × List PointD × List PointD × Int × Int × Unit) ⊕ ((Unit) ⊕ (Bool × Unit))) :=
  bif decide (t78 < t77) then
    bif ixOk t78 t10.length then
      (swarfref07_Valid k (⟨(⟨(((t10.getD t78.toNat default).AX).num), (((t10.getD t78.toNat default).AX).den)⟩ : RatD), (⟨(((t10.getD t78.toNat default).BX).num), (((t10.getD t78.toNat default).BX).den)⟩ : RatD), (⟨(((t10.getD t78.toNat default).AY).num), (((t10.getD t78.toNat default).AY).den)⟩ : RatD), (⟨(((t10.getD t78.toNat default).BY).num), (((t10.getD t78.toNat default).BY).den)⟩ : RatD), (⟨(((t10.getD t78.toNat default).C).num), (((t10.getD t78.toNat default).C).den)⟩ : RatD)⟩ : PointD)).bind fun x17 =>
      bif !x17 then
        some (.inr (.inr (false, ())))
      else
        bif ixOk t78 t11.length then
          (swarfref07_Valid k (⟨(⟨(((t11.getD t78.toNat default).AX).num), (((t11.getD t78.toNat default).AX).den)⟩ : RatD), (⟨(((t11.getD t78.toNat default).BX).num), (((t11.getD t78.toNat default).BX).den)⟩ : RatD), (⟨(((t11.getD t78.toNat default).AY).num), (((t11.getD t78.toNat default).AY).den)⟩ : RatD), (⟨(((t11.getD t78.toNat default).BY).num), (((t11.getD t78.toNat default).BY).den)⟩ : RatD), (⟨(((t11.getD t78.toNat default).C).num), (((t11.getD t78.toNat default).C).den)⟩ : RatD)⟩ : PointD)).bind fun x18 =>
          bif !x18 then
            some (.inr (.inr (false, ())))
          else
            bif ixOk t78 t10.length then
              (swarfref07_Translate k (⟨(⟨(((t10.getD t78.toNat default).AX).num), (((t10.getD t78.toNat default).AX).den)⟩ : RatD), (⟨(((t10.getD t78.toNat default).BX).num), (((t10.getD t78.toNat default).BX).den)⟩ : RatD), (⟨(((t10.getD t78.toNat default).AY).num), (((t10.getD t78.toNat default).AY).den)⟩ : RatD), (⟨(((t10.getD t78.toNat default).BY).num), (((t10.getD t78.toNat default).BY).den)⟩ : RatD), (⟨(((t10.getD t78.toNat default).C).num), (((t10.getD t78.toNat default).C).den)⟩ : RatD)⟩ : PointD) t7).bind fun x19 =>
              bif ixOk t78 t11.length then
                (swarfref07_Equal k x19 (⟨(⟨(((t11.getD t78.toNat default).AX).num), (((t11.getD t78.toNat default).AX).den)⟩ : RatD), (⟨(((t11.getD t78.toNat default).BX).num), (((t11.getD t78.toNat default).BX).den)⟩ : RatD), (⟨(((t11.getD t78.toNat default).AY).num), (((t11.getD t78.toNat default).AY).den)⟩ : RatD), (⟨(((t11.getD t78.toNat default).BY).num), (((t11.getD t78.toNat default).BY).den)⟩ : RatD), (⟨(((t11.getD t78.toNat default).C).num), (((t11.getD t78.toNat default).C).den)⟩ : RatD)⟩ : PointD)).bind fun x20 =>
                bif !x20 then
                  some (.inr (.inr (false, ())))
                else
                  some (.inl (t7, t10, t11, t77, IntKind.i64.wrap (t78 + 1), ()))
              else
                none
            else
              none
        else
          none
    else
      none
  else
    some (.inr (.inl (())))
def swarflaw09_MeetMoved (k : Nat) (a0 : LineD) (a1 : CircleD) (a2 : CircleD) : Option Bool :=
  (swarflaw09_awake k).bind fun x1 =>
  bif !x1 then
    (swarflaw09_awake k).bind fun x2 =>
    some x2
  else
    (swarfref09_Line k a0).bind fun x3 =>
    bif !x3 then
      (swarflaw09_awake k).bind fun x4 =>
      some x4
    else
      (swarfref09_Circle k a1).bind fun x5 =>
      bif !x5 then
        (swarflaw09_awake k).bind fun x6 =>
        some x6
      else
        (swarfref09_Circle k a2).bind fun x7 =>
        bif !x7 then
          (swarflaw09_awake k).bind fun x8 =>
          some x8
        else
          (swarfref02_Mul k a0.A a2.X).bind fun x9 =>
          (swarfref02_Mul k a0.B a2.Y).bind fun x10 =>
          (swarfref02_Add k x9 x10).bind fun x11 =>
          (swarfref02_Add k a0.C x11).bind fun x12 =>
          (swarfref02_Add k a1.X a2.X).bind fun x13 =>
          (swarfref02_Add k a1.Y a2.Y).bind fun x14 =>
          (meet_LineCircle k a0 a1).bind fun x15 =>
          (meet_LineCircle k (⟨a0.A, a0.B, x12⟩ : LineD) (⟨x13, x14, a1.Q⟩ : CircleD)).bind fun x16 =>
          bif (x15.length : Int) != (x16.length : Int) then
            some false
          else
            (iter (fun (x22 : (VecD × List PointD × List PointD × Int × Int × Unit)) => swarflaw09_MeetMoved_L0 k x22.1 x22.2.1 x22.2.2.1 x22.2.2.2.1 x22.2.2.2.2.1) k ((⟨a2.X, a2.Y⟩ : VecD), x15, x16, (x15.length : Int), 0, ())).bind fun x21 =>
            match x21 with
            | .inl x23 =>
              some true
            | .inr x24 =>
              some x24.1
def meet_Extremes (k : Nat) (a0 : CircleD) : Option (PointD × PointD) :=
  (rational_FromInt64 k 1).bind fun x1 =>
  (rational_FromInt64 k 0).bind fun x2 =>
  (rational_Neg k x1).bind fun x3 =>
  (meet_surd k a0.X x3 a0.Y x2 a0.Q).bind fun x4 =>
  (meet_surd k a0.X x1 a0.Y x2 a0.Q).bind fun x5 =>
  some (x4, x5)
def swarfref09_Extremes (k : Nat) (a0 : CircleD) : Option (PointD × PointD) :=
  (swarfref02_FromInt64 k 1).bind fun x1 =>
  (swarfref02_FromInt64 k 0).bind fun x2 =>
  (swarfref09_neg k x1).bind fun x3 =>
  (swarfref09_Reduced k a0.X x3 a0.Y x2 a0.Q).bind fun x4 =>
  (swarfref09_Reduced k a0.X x1 a0.Y x2 a0.Q).bind fun x5 =>
  some (x4, x5)
def meet_AtX (k : Nat) (a0 : CircleD) (a1 : RatD) : Option (List PointD) :=
  (rational_FromInt64 k 1).bind fun x1 =>
  (rational_FromInt64 k 0).bind fun x2 =>
  (meet_LineCircle k (⟨x1, x2, a1⟩ : LineD) a0).bind fun x3 =>
  some x3
def swarfref09_AtX (k : Nat) (a0 : CircleD) (a1 : RatD) : Option (List PointD) :=
  (swarfref02_FromInt64 k 1).bind fun x1 =>
  (swarfref02_FromInt64 k 0).bind fun x2 =>
  (swarfref09_LineCircle k (⟨x1, x2, a1⟩ : LineD) a0).bind fun x3 =>
  some x3
def swarflaw09_MeetExtremes (k : Nat) (a0 : CircleD) (a1 : RatD) : Option Bool :=
  (swarflaw09_awake k).bind fun x1 =>
  bif !x1 then
    (swarflaw09_awake k).bind fun x2 =>
    some x2
  else
    (swarfref09_Circle k a0).bind fun x3 =>
    bif !x3 then
      (swarflaw09_awake k).bind fun x4 =>
      some x4
    else
      (swarfref02_Small k a1 2).bind fun x5 =>
      bif !x5 then
        (swarflaw09_awake k).bind fun x6 =>
        some x6
      else
        (meet_Extremes k a0).bind fun x7 =>
        (swarfref09_Extremes k a0).bind fun x8 =>
        (swarflaw09_same k ([x7.1, x7.2] : List PointD) 0 ([x8.1, x8.2] : List PointD) 0).bind fun x9 =>
        bif x9 then
          (meet_AtX k a0 a1).bind fun x10 =>
          (swarfref09_AtX k a0 a1).bind fun x11 =>
          (swarflaw09_same k x10 0 x11 0).bind fun x12 =>
          some x12
        else
          some false
def meet_Supports (k : Nat) (a0 : CurveD) (a1 : CurveD) : Option (List PointD × Int) :=
  bif a0.Arc then
    bif a1.Arc then
      (meet_Circles k a0.Circle a1.Circle).bind fun x1 =>
      some (x1.1, x1.2)
    else
      bif a0.Arc then
        (meet_LineCircle k a1.Line a0.Circle).bind fun x2 =>
        some (x2, 0)
      else
        bif a1.Arc then
          (meet_LineCircle k a0.Line a1.Circle).bind fun x3 =>
          some (x3, 0)
        else
          (meet_Lines k a0.Line a1.Line).bind fun x4 =>
          some (x4.1, x4.2)
  else
    bif a0.Arc then
      (meet_LineCircle k a1.Line a0.Circle).bind fun x5 =>
      some (x5, 0)
    else
      bif a1.Arc then
        (meet_LineCircle k a0.Line a1.Circle).bind fun x6 =>
        some (x6, 0)
      else
        (meet_Lines k a0.Line a1.Line).bind fun x7 =>
        some (x7.1, x7.2)
def swarfref09_Supports (k : Nat) (a0 : CurveD) (a1 : CurveD) : Option (List PointD × Int) :=
  bif a0.Arc then
    bif a1.Arc then
      (swarfref09_Circles k a0.Circle a1.Circle).bind fun x1 =>
      some (x1.1, x1.2)
    else
      bif a0.Arc then
        (swarfref09_LineCircle k a1.Line a0.Circle).bind fun x2 =>
        some (x2, 0)
      else
        bif a1.Arc then
          (swarfref09_LineCircle k a0.Line a1.Circle).bind fun x3 =>
          some (x3, 0)
        else
          (swarfref09_Lines k a0.Line a1.Line).bind fun x4 =>
          some (x4.1, x4.2)
  else
    bif a0.Arc then
      (swarfref09_LineCircle k a1.Line a0.Circle).bind fun x5 =>
      some (x5, 0)
    else
      bif a1.Arc then
        (swarfref09_LineCircle k a0.Line a1.Circle).bind fun x6 =>
        some (x6, 0)
      else
        (swarfref09_Lines k a0.Line a1.Line).bind fun x7 =>
        some (x7.1, x7.2)
def swarflaw09_MeetSupports (k : Nat) (a0 : CurveD) (a1 : CurveD) : Option Bool :=
  (swarflaw09_awake k).bind fun x1 =>
  bif !x1 then
    (swarflaw09_awake k).bind fun x2 =>
    some x2
  else
    (swarfref09_Line k a0.Line).bind fun x3 =>
    bif !x3 then
      (swarflaw09_awake k).bind fun x4 =>
      some x4
    else
      (swarfref09_Circle k a0.Circle).bind fun x5 =>
      bif !x5 then
        (swarflaw09_awake k).bind fun x6 =>
        some x6
      else
        (swarfref09_Line k a1.Line).bind fun x7 =>
        bif !x7 then
          (swarflaw09_awake k).bind fun x8 =>
          some x8
        else
          (swarfref09_Circle k a1.Circle).bind fun x9 =>
          bif !x9 then
            (swarflaw09_awake k).bind fun x10 =>
            some x10
          else
            (meet_Supports k a0 a1).bind fun x11 =>
            (swarfref09_Supports k a0 a1).bind fun x12 =>
            (swarflaw09_same k x11.1 x11.2 x12.1 x12.2).bind fun x13 =>
            some x13
def swarfref07_Back (k : Nat) (a0 : VecD) : Option VecD :=
  (swarfref02_Neg k a0.X).bind fun x1 =>
  (swarfref02_Neg k a0.Y).bind fun x2 =>
  some (⟨x1, x2⟩ : VecD)
def swarfref03_Square (k : Nat) (a0 : RootD) : Option RootD :=
  (swarfref03_Mul k a0 a0).bind fun x1 =>
  some x1.1
def swarfref07_Square (k : Nat) (a0 : PointD) (a1 : VecD) : Option RootD :=
  (swarfref07_Back k a1).bind fun x1 =>
  (swarfref07_Translate k a0 x1).bind fun x2 =>
  (swarfref07_X k x2).bind fun x3 =>
  (swarfref03_Square k x3).bind fun x4 =>
  (swarfref07_Y k x2).bind fun x5 =>
  (swarfref03_Square k x5).bind fun x6 =>
  (swarfref03_Add k x4 x6).bind fun x7 =>
  some x7.1
def swarfref08_Power (k : Nat) (a0 : CircleD) (a1 : PointD) : Option RootD :=
  (swarfref07_Square k a1 (⟨a0.X, a0.Y⟩ : VecD)).bind fun x1 =>
  (swarfref02_Neg k a0.Q).bind fun x2 =>
  (swarfref03_AddRat k x1 x2).bind fun x3 =>
  some x3
def swarfref08_Inside (k : Nat) (a0 : CircleD) (a1 : PointD) : Option Int :=
  (swarfref08_Power k a0 a1).bind fun x1 =>
  (swarfref03_Sign k x1).bind fun x2 =>
  some (IntKind.i64.wrap (0 - x2))
def swarflaw09_MeetOn_L2 (k : Nat) (t2 : Int) (t3 : CurveD) (t4 : CurveD) (t7 : List PointD) (t8 : Int) (t12 : PointD) (t67 : List PointD) (t68 : Int) (t69 : Int) (t75 : List CurveD) (t76 : Int) (t77 : Int) : Option ((Int × CurveD × CurveD × List PointD × Int × PointD × List PointD × Int × Int × List CurveD × Int × Int × Unit) ⊕ ((Int × CurveD × CurveD × List PointD × Int × List PointD × Int × Int × Unit) ⊕ (Bool × Unit))) :=
  bif decide (t77 < t76) then
    bif ixOk t77 t75.length then
      bif (t75.getD t77.toNat default).Arc then
        (swarfref08_Inside k (⟨(⟨((((t75.getD t77.toNat default).Circle).X).num), ((((t75.getD t77.toNat default).Circle).X).den)⟩ : RatD), (⟨((((t75.getD t77.toNat default).Circle).Y).num), ((((t75.getD t77.toNat default).Circle).Y).den)⟩ : RatD), (⟨((((t75.getD t77.toNat default).Circle).Q).num), ((((t75.getD t77.toNat default).Circle).Q).den)⟩ : RatD)⟩ : CircleD) t12).bind fun x15 =>
        bif x15 != 0 then
          some (.inr (.inr (false, ())))
        else
          bif !((t75.getD t77.toNat default).Arc) then
            (swarfref08_Side k (⟨(⟨((((t75.getD t77.toNat default).Line).A).num), ((((t75.getD t77.toNat default).Line).A).den)⟩ : RatD), (⟨((((t75.getD t77.toNat default).Line).B).num), ((((t75.getD t77.toNat default).Line).B).den)⟩ : RatD), (⟨((((t75.getD t77.toNat default).Line).C).num), ((((t75.getD t77.toNat default).Line).C).den)⟩ : RatD)⟩ : LineD) t12).bind fun x16 =>
            bif x16 != 0 then
              some (.inr (.inr (false, ())))
            else
              some (.inl (t2, t3, t4, t7, t8, t12, t67, t68, t69, t75, t76, IntKind.i64.wrap (t77 + 1), ()))
          else
            some (.inl (t2, t3, t4, t7, t8, t12, t67, t68, t69, t75, t76, IntKind.i64.wrap (t77 + 1), ()))
      else
        bif !((t75.getD t77.toNat default).Arc) then
          (swarfref08_Side k (⟨(⟨((((t75.getD t77.toNat default).Line).A).num), ((((t75.getD t77.toNat default).Line).A).den)⟩ : RatD), (⟨((((t75.getD t77.toNat default).Line).B).num), ((((t75.getD t77.toNat default).Line).B).den)⟩ : RatD), (⟨((((t75.getD t77.toNat default).Line).C).num), ((((t75.getD t77.toNat default).Line).C).den)⟩ : RatD)⟩ : LineD) t12).bind fun x17 =>
          bif x17 != 0 then
            some (.inr (.inr (false, ())))
          else
            some (.inl (t2, t3, t4, t7, t8, t12, t67, t68, t69, t75, t76, IntKind.i64.wrap (t77 + 1), ()))
        else
          some (.inl (t2, t3, t4, t7, t8, t12, t67, t68, t69, t75, t76, IntKind.i64.wrap (t77 + 1), ()))
    else
      none
  else
    some (.inr (.inl (t2, t3, t4, t7, t8, t67, t68, t69, ())))
def swarflaw09_MeetOn_L0 (k : Nat) (t2 : Int) (t3 : CurveD) (t4 : CurveD) (t7 : List PointD) (t8 : Int) (t67 : List PointD) (t68 : Int) (t69 : Int) : Option ((Int × CurveD × CurveD × List PointD × Int × List PointD × Int × Int × Unit) ⊕ ((Int × CurveD × CurveD × List PointD × Int × Unit) ⊕ (Bool × Unit))) :=
  bif decide (t69 < t68) then
    bif ixOk t69 t67.length then
      (iter (fun (x19 : (Int × CurveD × CurveD × List PointD × Int × PointD × List PointD × Int × Int × List CurveD × Int × Int × Unit)) => swarflaw09_MeetOn_L2 k x19.1 x19.2.1 x19.2.2.1 x19.2.2.2.1 x19.2.2.2.2.1 x19.2.2.2.2.2.1 x19.2.2.2.2.2.2.1 x19.2.2.2.2.2.2.2.1 x19.2.2.2.2.2.2.2.2.1 x19.2.2.2.2.2.2.2.2.2.1 x19.2.2.2.2.2.2.2.2.2.2.1 x19.2.2.2.2.2.2.2.2.2.2.2.1) k (t2, t3, t4, t7, t8, (⟨(⟨(((t67.getD t69.toNat default).AX).num), (((t67.getD t69.toNat default).AX).den)⟩ : RatD), (⟨(((t67.getD t69.toNat default).BX).num), (((t67.getD t69.toNat default).BX).den)⟩ : RatD), (⟨(((t67.getD t69.toNat default).AY).num), (((t67.getD t69.toNat default).AY).den)⟩ : RatD), (⟨(((t67.getD t69.toNat default).BY).num), (((t67.getD t69.toNat default).BY).den)⟩ : RatD), (⟨(((t67.getD t69.toNat default).C).num), (((t67.getD t69.toNat default).C).den)⟩ : RatD)⟩ : PointD), t67, t68, t69, ([t3, t4] : List CurveD), (([t3, t4] : List CurveD).length : Int), 0, ())).bind fun x18 =>
      match x18 with
      | .inl x20 =>
        some (.inl (x20.1, x20.2.1, x20.2.2.1, x20.2.2.2.1, x20.2.2.2.2.1, x20.2.2.2.2.2.1, x20.2.2.2.2.2.2.1, IntKind.i64.wrap (x20.2.2.2.2.2.2.2.1 + 1), ()))
      | .inr x21 =>
        some (.inr (.inr (x21.1, ())))
    else
      none
  else
    some (.inr (.inl (t2, t3, t4, t7, t8, ())))
def swarflaw09_MeetOn (k : Nat) (a0 : CurveD) (a1 : CurveD) (a2 : Int) : Option Bool :=
  (swarflaw09_awake k).bind fun x1 =>
  bif !x1 then
    (swarflaw09_awake k).bind fun x2 =>
    some x2
  else
    (swarfref09_Line k a0.Line).bind fun x3 =>
    bif !x3 then
      (swarflaw09_awake k).bind fun x4 =>
      some x4
    else
      (swarfref09_Circle k a0.Circle).bind fun x5 =>
      bif !x5 then
        (swarflaw09_awake k).bind fun x6 =>
        some x6
      else
        (swarfref09_Line k a1.Line).bind fun x7 =>
        bif !x7 then
          (swarflaw09_awake k).bind fun x8 =>
          some x8
        else
          (swarfref09_Circle k a1.Circle).bind fun x9 =>
          bif !x9 then
            (swarflaw09_awake k).bind fun x10 =>
            some x10
          else
            bif a2 == 0 then
              (swarflaw09_awake k).bind fun x11 =>
              some x11
            else
              (meet_Supports k a0 a1).bind fun x12 =>
              (meet_Supports k a1 a0).bind fun x13 =>
              (swarflaw09_same k x12.1 x12.2 x13.1 x13.2).bind fun x14 =>
              bif !x14 then
                some false
              else
                (iter (fun (x23 : (Int × CurveD × CurveD × List PointD × Int × List PointD × Int × Int × Unit)) => swarflaw09_MeetOn_L0 k x23.1 x23.2.1 x23.2.2.1 x23.2.2.2.1 x23.2.2.2.2.1 x23.2.2.2.2.2.1 x23.2.2.2.2.2.2.1 x23.2.2.2.2.2.2.2.1) k (a2, a0, a1, x12.1, x12.2, x12.1, (x12.1.length : Int), 0, ())).bind fun x22 =>
                match x22 with
                | .inl x24 =>
                  (swarflaw09_num k (IntKind.i64.wrap (x24.1))).bind fun x26 =>
                  (swarfref02_Mul k x26 x24.2.1.Line.A).bind fun x27 =>
                  (swarfref02_Mul k x26 x24.2.1.Line.B).bind fun x28 =>
                  (swarfref02_Mul k x26 x24.2.1.Line.C).bind fun x29 =>
                  (meet_Supports k (⟨x24.2.1.Arc, (⟨x27, x28, x29⟩ : LineD), x24.2.1.Circle, x24.2.1.Cw, x24.2.1.From, x24.2.1.To⟩ : CurveD) x24.2.2.1).bind fun x30 =>
                  (swarflaw09_same k x30.1 x30.2 x24.2.2.2.1 x24.2.2.2.2.1).bind fun x31 =>
                  some x31
                | .inr x25 =>
                  some x25.1
def swarfref48_CornerError (k : Nat) (a0 : PosD) (a1 : PosD) (a2 : Int) : Option Int :=
  (swarfref48_Speed k a2).bind fun x1 =>
  bif !x1 then
    some 1
  else
    (swarfref48_inside k a0).bind fun x2 =>
    bif !x2 then
      some 11
    else
      (swarfref48_inside k a1).bind fun x3 =>
      bif !x3 then
        some 11
      else
        (swarfref48_Square k a0).bind fun x4 =>
        bif x4 == 0 then
          some 6
        else
          (swarfref48_Square k a1).bind fun x5 =>
          bif x5 == 0 then
            some 6
          else
            some 0
def swarfref48_Allowed (k : Nat) (a0 : Int) (a1 : Int) (a2 : Int) (a3 : Int) (a4 : Int) (a5 : Int) : Option Bool :=
  (swarfref02_FromInt64 k (IntKind.i64.wrap (a4 * a4))).bind fun x1 =>
  (swarfref02_FromInt64 k (IntKind.i64.wrap (a0 * a0))).bind fun x2 =>
  (swarfref02_FromInt64 k a2).bind fun x3 =>
  (swarfref02_Over k x2 x3).bind fun x4 =>
  (swarfref02_FromInt64 k (IntKind.i64.wrap (a1 * a1))).bind fun x5 =>
  (swarfref02_FromInt64 k a3).bind fun x6 =>
  (swarfref02_Over k x5 x6).bind fun x7 =>
  (swarfref02_Add k x4 x7).bind fun x8 =>
  (swarfref02_Mul k x1 x8).bind fun x9 =>
  (swarfref02_FromInt64 k (IntKind.i64.wrap (a5 * a5))).bind fun x10 =>
  (swarfref02_Sub k x9 x10).bind fun x11 =>
  (swarfref02_FromInt64 k (-2)).bind fun x12 =>
  (swarfref02_FromInt64 k a0).bind fun x13 =>
  (swarfref02_FromInt64 k a1).bind fun x14 =>
  (swarfref02_Mul k x13 x14).bind fun x15 =>
  (swarfref02_Mul k x1 x15).bind fun x16 =>
  (swarfref02_Mul k x12 x16).bind fun x17 =>
  (swarfref02_FromInt64 k 1).bind fun x18 =>
  (swarfref02_FromInt64 k a2).bind fun x19 =>
  (swarfref02_FromInt64 k a3).bind fun x20 =>
  (swarfref02_Mul k x19 x20).bind fun x21 =>
  (swarfref02_Over k x18 x21).bind fun x22 =>
  (swarfref03_Make k x11 x17 x22).bind fun x23 =>
  (swarfref03_Sign k x23.1).bind fun x24 =>
  some (decide (x24 ≤ 0))
def swarfref48_Turns (k : Nat) (a0 : PosD) (a1 : PosD) (a2 : Int) (a3 : Int) : Option Bool :=
  (swarfref48_Square k a0).bind fun x1 =>
  (swarfref48_Square k a1).bind fun x2 =>
  (swarfref48_Allowed k a0.X a1.X x1 x2 a2 a3).bind fun x3 =>
  bif x3 then
    (swarfref48_Allowed k a0.Y a1.Y x1 x2 a2 a3).bind fun x4 =>
    bif x4 then
      (swarfref48_Allowed k a0.Z a1.Z x1 x2 a2 a3).bind fun x5 =>
      some x5
    else
      some false
  else
    some false
def swarflaw48_LookaheadCorner (k : Nat) (a0 : PosD) (a1 : PosD) (a2 : Int) : Option Bool :=
  (swarflaw48_awake k).bind fun x1 =>
  bif !x1 then
    some false
  else
    (lookahead_Corner k a0 a1 a2).bind fun x2 =>
    (swarfref48_CornerError k a0 a1 a2).bind fun x3 =>
    bif x3 != 0 then
      bif x2.1 == 0 then
        some (x2.2 == x3)
      else
        some false
    else
      bif x2.2 != 0 then
        some false
      else
        (swarfref48_Speed k x2.1).bind fun x4 =>
        bif !x4 then
          some false
        else
          (swarfref48_Turns k a0 a1 x2.1 a2).bind fun x5 =>
          bif !x5 then
            some false
          else
            bif x2.1 == 1000000 then
              some true
            else
              (swarfref48_Turns k a0 a1 (IntKind.i64.wrap (x2.1 + 1)) a2).bind fun x6 =>
              some (!x6)
def swarfref48_Reach (k : Nat) (a0 : Int) (a1 : Int) (a2 : Int) : Option (RatD × Int) :=
  bif decide (a0 < 0) then
    some ((⟨(⟨false, []⟩ : IntD), (⟨false, []⟩ : IntD)⟩ : RatD), 1)
  else
    bif decide (a0 > 1000000000000) then
      some ((⟨(⟨false, []⟩ : IntD), (⟨false, []⟩ : IntD)⟩ : RatD), 1)
    else
      (swarfref48_Speed k a1).bind fun x1 =>
      bif !x1 then
        some ((⟨(⟨false, []⟩ : IntD), (⟨false, []⟩ : IntD)⟩ : RatD), 1)
      else
        bif decide (a1 < 1) then
          some ((⟨(⟨false, []⟩ : IntD), (⟨false, []⟩ : IntD)⟩ : RatD), 1)
        else
          (swarfref48_Accel k a2).bind fun x2 =>
          bif !x2 then
            some ((⟨(⟨false, []⟩ : IntD), (⟨false, []⟩ : IntD)⟩ : RatD), 1)
          else
            (swarfref48_reach k a0 a1 a2).bind fun x3 =>
            some (x3, 0)
def swarflaw48_LookaheadReach (k : Nat) (a0 : Int) (a1 : Int) (a2 : Int) : Option Bool :=
  (swarflaw48_awake k).bind fun x1 =>
  bif !x1 then
    some false
  else
    (lookahead_Reach k a0 a1 a2).bind fun x2 =>
    (swarfref48_Reach k a0 a1 a2).bind fun x3 =>
    bif x2.2 != x3.2 then
      some false
    else
      bif x2.2 != 0 then
        some ((x2.1.den.limbs.length : Int) == 0)
      else
        (swarfref02_Valid k x2.1).bind fun x4 =>
        bif !x4 then
          some false
        else
          (swarfref02_Same k x2.1 x3.1).bind fun x5 =>
          bif !x5 then
            some false
          else
            (lookahead_Reach k (IntKind.i64.wrap (a0 + 1)) a1 a2).bind fun x6 =>
            (lookahead_Reach k a0 (IntKind.i64.wrap (a1 + 1)) a2).bind fun x7 =>
            bif x6.2 != 0 then
              bif x7.2 != 0 then
                some true
              else
                (swarfref02_Cmp k x7.1 x2.1).bind fun x8 =>
                some (decide (x8 ≥ 0))
            else
              (swarfref02_Cmp k x6.1 x2.1).bind fun x9 =>
              bif decide (x9 > 0) then
                bif x7.2 != 0 then
                  some true
                else
                  (swarfref02_Cmp k x7.1 x2.1).bind fun x10 =>
                  some (decide (x10 ≥ 0))
              else
                some false
def swarflaw48_LookaheadStraight (k : Nat) (a0 : Int) (a1 : Int) (a2 : Int) : Option Bool :=
  (swarflaw48_awake k).bind fun x1 =>
  bif !x1 then
    some false
  else
    (lookahead_Straight k a0 a1 a2).bind fun x2 =>
    (swarfref48_Straight k a0 a1 a2).bind fun x3 =>
    bif x2.1 != x3.1 then
      some false
    else
      bif x2.2 != x3.2 then
        some false
      else
        bif x2.2 != 0 then
          some true
        else
          (lookahead_Straight k (IntKind.i64.wrap (a0.tdiv 3)) a1 a2).bind fun x4 =>
          (lookahead_Straight k (IntKind.i64.wrap (a0 - (IntKind.i64.wrap (a0.tdiv 3)))) a1 a2).bind fun x5 =>
          bif x4.2 == 0 then
            bif x5.2 == 0 then
              some (decide (x2.1 ≤ (IntKind.i64.wrap (x4.1 + x5.1))))
            else
              some false
          else
            some false
end Go.Proofs.YtbjkpogfgijmaaaGreat
