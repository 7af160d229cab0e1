/- WRITTEN BY gen.py: the program's functions as functions of plain data. -/
import Derived.Test.YtbjkpogfgijmaaaGreatKit
namespace Go.Proofs.YtbjkpogfgijmaaaGreat
open Go
set_option linter.unusedVariables false
set_option linter.unusedSimpArgs false
def swarfref01_limbs_L0 (k : Nat) (t0 : Int) (t3 : List Int) : Option ((Int × List Int × Unit) ⊕ (List Int × Unit)) :=
  bif decide (t0 > 0) then
    bif decide ((t3.length + ([IntKind.u32.wrap (t0.tmod 1000000000)] : List Int).length) * 4 ≤ 140737488355328) then
      some (.inl (IntKind.u64.wrap (t0.tdiv 1000000000), (t3 ++ ([IntKind.u32.wrap (t0.tmod 1000000000)] : List Int)), ()))
    else
      none
  else
    some (.inr (t3, ()))
def swarfref01_limbs (k : Nat) (a0 : Int) : Option (List Int) :=
  (iter (fun (x2 : (Int × List Int × Unit)) => swarfref01_limbs_L0 k x2.1 x2.2.1) k (a0, [], ())).bind fun x1 =>
  some x1.1
def swarfref01_trim_L0 (k : Nat) (t0 : List Int) : Option ((List Int × Unit) ⊕ (List Int × Unit)) :=
  bif decide ((t0.length : Int) > 0) then
    bif ixOk (IntKind.i64.wrap ((t0.length : Int) - 1)) t0.length then
      bif (t0.getD (IntKind.i64.wrap ((t0.length : Int) - 1)).toNat 0) == 0 then
        bif sliceOk t0.length none (some (IntKind.i64.wrap ((t0.length : Int) - 1))) none then
          some (.inl ((t0.take (IntKind.i64.wrap ((t0.length : Int) - 1)).toNat), ()))
        else
          none
      else
        some (.inr (t0, ()))
    else
      none
  else
    some (.inr (t0, ()))
def swarfref01_trim (k : Nat) (a0 : List Int) : Option (List Int) :=
  (iter (fun (x2 : (List Int × Unit)) => swarfref01_trim_L0 k x2.1) k (a0, ())).bind fun x1 =>
  some x1.1
def swarfref01_signed (k : Nat) (a0 : Bool) (a1 : List Int) : Option IntD :=
  (swarfref01_trim k a1).bind fun x1 =>
  bif a0 then
    some (⟨decide ((x1.length : Int) > 0), x1⟩ : IntD)
  else
    some (⟨false, x1⟩ : IntD)
def swarfref01_FromInt64 (k : Nat) (a0 : Int) : Option IntD :=
  bif decide (a0 < 0) then
    (swarfref01_limbs k (IntKind.u64.wrap (0 - (IntKind.u64.wrap (a0))))).bind fun x1 =>
    (swarfref01_signed k true x1).bind fun x2 =>
    some x2
  else
    (swarfref01_limbs k (IntKind.u64.wrap (a0))).bind fun x3 =>
    (swarfref01_signed k false x3).bind fun x4 =>
    some x4
def swarfref02_unit (k : Nat) : Option IntD :=
  (swarfref01_FromInt64 k 1).bind fun x1 =>
  some x1
def swarfref02_FromInt64 (k : Nat) (a0 : Int) : Option RatD :=
  (swarfref01_FromInt64 k a0).bind fun x1 =>
  (swarfref02_unit k).bind fun x2 =>
  some (⟨x1, x2⟩ : RatD)
def swarfref01_Sign (k : Nat) (a0 : IntD) : Option Int :=
  bif (a0.limbs.length : Int) == 0 then
    some 0
  else
    bif a0.neg then
      some (-1)
    else
      some 1
def swarfref01_Neg (k : Nat) (a0 : IntD) : Option IntD :=
  (swarfref01_signed k (!a0.neg) a0.limbs).bind fun x1 =>
  some x1
def swarfref01_short_L0 (k : Nat) (t0 : List Int) (t3 : Int) (t4 : Int) : Option ((List Int × Int × Int × Unit) ⊕ (Int × Unit)) :=
  bif decide (t4 ≥ 0) then
    bif ixOk t4 t0.length then
      some (.inl (t0, IntKind.u64.wrap ((IntKind.u64.wrap (t3 * 1000000000)) + (IntKind.u64.wrap ((t0.getD t4.toNat 0)))), IntKind.i64.wrap (t4 - 1), ()))
    else
      none
  else
    some (.inr (t3, ()))
def swarfref01_short (k : Nat) (a0 : List Int) : Option Int :=
  (iter (fun (x2 : (List Int × Int × Int × Unit)) => swarfref01_short_L0 k x2.1 x2.2.1 x2.2.2.1) k (a0, 0, IntKind.i64.wrap ((a0.length : Int) - 1), ())).bind fun x1 =>
  some x1.1
def swarfref01_times_L2 (k : Nat) (t0 : List Int) (t1 : List Int) (t5 : List Int) (t6 : Int) (t7 : Int) (t8 : Int) : Option ((List Int × List Int × List Int × Int × Int × Int × Unit) ⊕ (List Int × List Int × List Int × Int × Int × Unit)) :=
  bif decide (t8 < (t1.length : Int)) then
    bif ixOk (IntKind.i64.wrap (t6 + t8)) t5.length then
      bif ixOk t6 t0.length then
        bif ixOk t8 t1.length then
          bif ixOk (IntKind.i64.wrap (t6 + t8)) t5.length then
            some (.inl (t0, t1, (t5.set ((IntKind.i64.wrap (t6 + t8)).toNat) (IntKind.u32.wrap ((IntKind.u64.wrap ((IntKind.u64.wrap (t7 + (IntKind.u64.wrap ((t5.getD ((IntKind.i64.wrap (t6 + t8)).toNat) 0))))) + (IntKind.u64.wrap ((IntKind.u64.wrap ((t0.getD t6.toNat 0))) * (IntKind.u64.wrap ((t1.getD t8.toNat 0))))))).tmod 1000000000))), t6, IntKind.u64.wrap ((IntKind.u64.wrap ((IntKind.u64.wrap (t7 + (IntKind.u64.wrap ((t5.getD ((IntKind.i64.wrap (t6 + t8)).toNat) 0))))) + (IntKind.u64.wrap ((IntKind.u64.wrap ((t0.getD t6.toNat 0))) * (IntKind.u64.wrap ((t1.getD t8.toNat 0))))))).tdiv 1000000000), IntKind.i64.wrap (t8 + 1), ()))
          else
            none
        else
          none
      else
        none
    else
      none
  else
    some (.inr (t0, t1, t5, t6, t7, ()))
def swarfref01_times_L0 (k : Nat) (t0 : List Int) (t1 : List Int) (t5 : List Int) (t6 : Int) : Option ((List Int × List Int × List Int × Int × Unit) ⊕ (List Int × Unit)) :=
  bif decide (t6 < (t0.length : Int)) then
    (iter (fun (x2 : (List Int × List Int × List Int × Int × Int × Int × Unit)) => swarfref01_times_L2 k x2.1 x2.2.1 x2.2.2.1 x2.2.2.2.1 x2.2.2.2.2.1 x2.2.2.2.2.2.1) k (t0, t1, t5, t6, 0, 0, ())).bind fun x1 =>
    bif ixOk (IntKind.i64.wrap (x1.2.2.2.1 + (x1.2.1.length : Int))) x1.2.2.1.length then
      some (.inl (x1.1, x1.2.1, (x1.2.2.1.set ((IntKind.i64.wrap (x1.2.2.2.1 + (x1.2.1.length : Int))).toNat) (IntKind.u32.wrap (x1.2.2.2.2.1))), IntKind.i64.wrap (x1.2.2.2.1 + 1), ()))
    else
      none
  else
    some (.inr (t5, ()))
def swarfref01_times (k : Nat) (a0 : List Int) (a1 : List Int) : Option (List Int) :=
  bif (decide (0 ≤ IntKind.i64.wrap ((a0.length : Int) + (a1.length : Int)))) && (decide (IntKind.i64.wrap ((a0.length : Int) + (a1.length : Int)) ≤ IntKind.i64.wrap ((a0.length : Int) + (a1.length : Int))) && decide ((IntKind.i64.wrap ((a0.length : Int) + (a1.length : Int))) * ((4 : Nat) : Int) ≤ 281474976710656)) then
    (iter (fun (x4 : (List Int × List Int × List Int × Int × Unit)) => swarfref01_times_L0 k x4.1 x4.2.1 x4.2.2.1 x4.2.2.2.1) k (a0, a1, (List.replicate (IntKind.i64.wrap ((a0.length : Int) + (a1.length : Int))).toNat (0 : Int)), 0, ())).bind fun x3 =>
    (swarfref01_trim k x3.1).bind fun x5 =>
    some x5
  else
    none
def swarfref01_by (k : Nat) (a0 : List Int) (a1 : Int) : Option (List Int) :=
  (swarfref01_trim k ([a1] : List Int)).bind fun x1 =>
  (swarfref01_times k a0 x1).bind fun x2 =>
  some x2
def swarfref01_compare_L0 (k : Nat) (t0 : List Int) (t1 : List Int) (t5 : Int) : Option ((List Int × List Int × Int × Unit) ⊕ ((Unit) ⊕ (Int × Unit))) :=
  bif decide (t5 ≥ 0) then
    bif ixOk t5 t0.length then
      bif ixOk t5 t1.length then
        bif decide ((t0.getD t5.toNat 0) < (t1.getD t5.toNat 0)) then
          some (.inr (.inr ((-1), ())))
        else
          bif ixOk t5 t0.length then
            bif ixOk t5 t1.length then
              bif decide ((t0.getD t5.toNat 0) > (t1.getD t5.toNat 0)) then
                some (.inr (.inr (1, ())))
              else
                some (.inl (t0, t1, IntKind.i64.wrap (t5 - 1), ()))
            else
              none
          else
            none
      else
        none
    else
      none
  else
    some (.inr (.inl (())))
def swarfref01_compare (k : Nat) (a0 : List Int) (a1 : List Int) : Option Int :=
  bif (a0.length : Int) != (a1.length : Int) then
    bif decide ((a0.length : Int) < (a1.length : Int)) then
      some (-1)
    else
      some 1
  else
    (iter (fun (x2 : (List Int × List Int × Int × Unit)) => swarfref01_compare_L0 k x2.1 x2.2.1 x2.2.2.1) k (a0, a1, IntKind.i64.wrap ((a0.length : Int) - 1), ())).bind fun x1 =>
    match x1 with
    | .inl x3 =>
      some 0
    | .inr x4 =>
      some x4.1
def swarfref01_minus_L0 (k : Nat) (t0 : List Int) (t1 : List Int) (t5 : List Int) (t6 : Int) (t7 : Int) : Option ((List Int × List Int × List Int × Int × Int × Unit) ⊕ (List Int × Unit)) :=
  bif decide (t7 < (t0.length : Int)) then
    bif ixOk t7 t0.length then
      bif decide (t7 < (t1.length : Int)) then
        bif ixOk t7 t1.length then
          bif decide ((IntKind.u32.wrap ((IntKind.u32.wrap ((IntKind.u32.wrap ((t0.getD t7.toNat 0) + 1000000000)) - t6)) - (t1.getD t7.toNat 0))) ≥ 1000000000) then
            bif ixOk t7 t5.length then
              some (.inl (t0, t1, (t5.set t7.toNat (IntKind.u32.wrap ((IntKind.u32.wrap ((IntKind.u32.wrap ((IntKind.u32.wrap ((t0.getD t7.toNat 0) + 1000000000)) - t6)) - (t1.getD t7.toNat 0))) - 1000000000))), 0, IntKind.i64.wrap (t7 + 1), ()))
            else
              none
          else
            bif ixOk t7 t5.length then
              some (.inl (t0, t1, (t5.set t7.toNat (IntKind.u32.wrap ((IntKind.u32.wrap ((IntKind.u32.wrap ((t0.getD t7.toNat 0) + 1000000000)) - t6)) - (t1.getD t7.toNat 0)))), 1, IntKind.i64.wrap (t7 + 1), ()))
            else
              none
        else
          none
      else
        bif decide ((IntKind.u32.wrap ((IntKind.u32.wrap ((t0.getD t7.toNat 0) + 1000000000)) - t6)) ≥ 1000000000) then
          bif ixOk t7 t5.length then
            some (.inl (t0, t1, (t5.set t7.toNat (IntKind.u32.wrap ((IntKind.u32.wrap ((IntKind.u32.wrap ((t0.getD t7.toNat 0) + 1000000000)) - t6)) - 1000000000))), 0, IntKind.i64.wrap (t7 + 1), ()))
          else
            none
        else
          bif ixOk t7 t5.length then
            some (.inl (t0, t1, (t5.set t7.toNat (IntKind.u32.wrap ((IntKind.u32.wrap ((t0.getD t7.toNat 0) + 1000000000)) - t6))), 1, IntKind.i64.wrap (t7 + 1), ()))
          else
            none
    else
      none
  else
    some (.inr (t5, ()))
def swarfref01_minus (k : Nat) (a0 : List Int) (a1 : List Int) : Option (List Int) :=
  bif (decide (0 ≤ (a0.length : Int))) && (decide ((a0.length : Int) ≤ (a0.length : Int)) && decide ((a0.length : Int) * ((4 : Nat) : Int) ≤ 281474976710656)) then
    (iter (fun (x2 : (List Int × List Int × List Int × Int × Int × Unit)) => swarfref01_minus_L0 k x2.1 x2.2.1 x2.2.2.1 x2.2.2.2.1 x2.2.2.2.2.1) k (a0, a1, (List.replicate (a0.length : Int).toNat (0 : Int)), 0, 0, ())).bind fun x1 =>
    (swarfref01_trim k x1.1).bind fun x3 =>
    some x3
  else
    none
def swarfref01_parts_L2 (k : Nat) (t8 : Int) (t9 : List Int) (t10 : Int) (t11 : List Int) (t12 : List Int) (t13 : List Int) (t14 : Int) (t16 : Int) (t17 : List Int) : Option ((Int × List Int × Int × List Int × List Int × List Int × Int × Int × List Int × Unit) ⊕ (Int × List Int × Int × List Int × List Int × List Int × Int × Int × List Int × Unit)) :=
  (swarfref01_compare k t17 t11).bind fun x9 =>
  bif decide (x9 > 0) then
    (swarfref01_minus k t17 t9).bind fun x10 =>
    some (.inl (t8, t9, t10, t11, t12, t13, t14, IntKind.u64.wrap (t16 - 1), x10, ()))
  else
    some (.inr (t8, t9, t10, t11, t12, t13, t14, t16, t17, ()))
def swarfref01_parts_L2_1 (k : Nat) (t8 : Int) (t9 : List Int) (t10 : Int) (t11 : List Int) (t12 : List Int) (t13 : List Int) (t14 : Int) (t16 : Int) (t17 : List Int) : Option ((Int × List Int × Int × List Int × List Int × List Int × Int × Int × List Int × Unit) ⊕ (Int × List Int × Int × List Int × List Int × List Int × Int × Int × List Int × Unit)) :=
  (swarfref01_compare k t17 t11).bind fun x15 =>
  bif decide (x15 > 0) then
    (swarfref01_minus k t17 t9).bind fun x16 =>
    some (.inl (t8, t9, t10, t11, t12, t13, t14, IntKind.u64.wrap (t16 - 1), x16, ()))
  else
    some (.inr (t8, t9, t10, t11, t12, t13, t14, t16, t17, ()))
def swarfref01_parts_L2_2 (k : Nat) (t8 : Int) (t9 : List Int) (t10 : Int) (t11 : List Int) (t12 : List Int) (t13 : List Int) (t14 : Int) (t16 : Int) (t17 : List Int) : Option ((Int × List Int × Int × List Int × List Int × List Int × Int × Int × List Int × Unit) ⊕ (Int × List Int × Int × List Int × List Int × List Int × Int × Int × List Int × Unit)) :=
  (swarfref01_compare k t17 t11).bind fun x21 =>
  bif decide (x21 > 0) then
    (swarfref01_minus k t17 t9).bind fun x22 =>
    some (.inl (t8, t9, t10, t11, t12, t13, t14, IntKind.u64.wrap (t16 - 1), x22, ()))
  else
    some (.inr (t8, t9, t10, t11, t12, t13, t14, t16, t17, ()))
def swarfref01_parts_L2_3 (k : Nat) (t8 : Int) (t9 : List Int) (t10 : Int) (t11 : List Int) (t12 : List Int) (t13 : List Int) (t14 : Int) (t16 : Int) (t17 : List Int) : Option ((Int × List Int × Int × List Int × List Int × List Int × Int × Int × List Int × Unit) ⊕ (Int × List Int × Int × List Int × List Int × List Int × Int × Int × List Int × Unit)) :=
  (swarfref01_compare k t17 t11).bind fun x27 =>
  bif decide (x27 > 0) then
    (swarfref01_minus k t17 t9).bind fun x28 =>
    some (.inl (t8, t9, t10, t11, t12, t13, t14, IntKind.u64.wrap (t16 - 1), x28, ()))
  else
    some (.inr (t8, t9, t10, t11, t12, t13, t14, t16, t17, ()))
def swarfref01_parts_L2_4 (k : Nat) (t8 : Int) (t9 : List Int) (t10 : Int) (t11 : List Int) (t12 : List Int) (t13 : List Int) (t14 : Int) (t16 : Int) (t17 : List Int) : Option ((Int × List Int × Int × List Int × List Int × List Int × Int × Int × List Int × Unit) ⊕ (Int × List Int × Int × List Int × List Int × List Int × Int × Int × List Int × Unit)) :=
  (swarfref01_compare k t17 t11).bind fun x33 =>
  bif decide (x33 > 0) then
    (swarfref01_minus k t17 t9).bind fun x34 =>
    some (.inl (t8, t9, t10, t11, t12, t13, t14, IntKind.u64.wrap (t16 - 1), x34, ()))
  else
    some (.inr (t8, t9, t10, t11, t12, t13, t14, t16, t17, ()))
def swarfref01_parts_L2_5 (k : Nat) (t8 : Int) (t9 : List Int) (t10 : Int) (t11 : List Int) (t12 : List Int) (t13 : List Int) (t14 : Int) (t16 : Int) (t17 : List Int) : Option ((Int × List Int × Int × List Int × List Int × List Int × Int × Int × List Int × Unit) ⊕ (Int × List Int × Int × List Int × List Int × List Int × Int × Int × List Int × Unit)) :=
  (swarfref01_compare k t17 t11).bind fun x39 =>
  bif decide (x39 > 0) then
    (swarfref01_minus k t17 t9).bind fun x40 =>
    some (.inl (t8, t9, t10, t11, t12, t13, t14, IntKind.u64.wrap (t16 - 1), x40, ()))
  else
    some (.inr (t8, t9, t10, t11, t12, t13, t14, t16, t17, ()))
def swarfref01_parts_L2_6 (k : Nat) (t8 : Int) (t9 : List Int) (t10 : Int) (t11 : List Int) (t12 : List Int) (t13 : List Int) (t14 : Int) (t16 : Int) (t17 : List Int) : Option ((Int × List Int × Int × List Int × List Int × List Int × Int × Int × List Int × Unit) ⊕ (Int × List Int × Int × List Int × List Int × List Int × Int × Int × List Int × Unit)) :=
  (swarfref01_compare k t17 t11).bind fun x45 =>
  bif decide (x45 > 0) then
    (swarfref01_minus k t17 t9).bind fun x46 =>
    some (.inl (t8, t9, t10, t11, t12, t13, t14, IntKind.u64.wrap (t16 - 1), x46, ()))
  else
    some (.inr (t8, t9, t10, t11, t12, t13, t14, t16, t17, ()))
def swarfref01_parts_L2_7 (k : Nat) (t8 : Int) (t9 : List Int) (t10 : Int) (t11 : List Int) (t12 : List Int) (t13 : List Int) (t14 : Int) (t16 : Int) (t17 : List Int) : Option ((Int × List Int × Int × List Int × List Int × List Int × Int × Int × List Int × Unit) ⊕ (Int × List Int × Int × List Int × List Int × List Int × Int × Int × List Int × Unit)) :=
  (swarfref01_compare k t17 t11).bind fun x51 =>
  bif decide (x51 > 0) then
    (swarfref01_minus k t17 t9).bind fun x52 =>
    some (.inl (t8, t9, t10, t11, t12, t13, t14, IntKind.u64.wrap (t16 - 1), x52, ()))
  else
    some (.inr (t8, t9, t10, t11, t12, t13, t14, t16, t17, ()))
def swarfref01_parts_L0 (k : Nat) (t8 : Int) (t9 : List Int) (t10 : Int) (t11 : List Int) (t12 : List Int) (t13 : List Int) (t14 : Int) : Option ((Int × List Int × Int × List Int × List Int × List Int × Int × Unit) ⊕ (Int × List Int × List Int × Unit)) :=
  bif decide (t14 ≥ 0) then
    bif ixOk t14 t13.length then
      bif decide ((([(t13.getD t14.toNat 0)] : List Int).length + t11.length) * 4 ≤ 140737488355328) then
        (swarfref01_trim k (([(t13.getD t14.toNat 0)] : List Int) ++ t11)).bind fun x7 =>
        bif decide ((x7.length : Int) > (t9.length : Int)) then
          bif ixOk (t9.length : Int) x7.length then
            bif decide ((x7.length : Int) ≥ (t9.length : Int)) then
              bif ixOk (IntKind.i64.wrap ((t9.length : Int) - 1)) x7.length then
                bif t10 == 0 then
                  none
                else
                  bif decide ((IntKind.u64.wrap ((IntKind.u64.wrap ((IntKind.u64.wrap ((IntKind.u64.wrap ((x7.getD (t9.length : Int).toNat 0))) * 1000000000)) + (IntKind.u64.wrap ((x7.getD (IntKind.i64.wrap ((t9.length : Int) - 1)).toNat 0))))).tdiv t10)) > 999999999) then
                    (swarfref01_by k t9 999999999).bind fun x8 =>
                    (iter (fun (x12 : (Int × List Int × Int × List Int × List Int × List Int × Int × Int × List Int × Unit)) => swarfref01_parts_L2 k x12.1 x12.2.1 x12.2.2.1 x12.2.2.2.1 x12.2.2.2.2.1 x12.2.2.2.2.2.1 x12.2.2.2.2.2.2.1 x12.2.2.2.2.2.2.2.1 x12.2.2.2.2.2.2.2.2.1) k (t8, t9, t10, x7, t12, t13, t14, 999999999, x8, ())).bind fun x11 =>
                    (swarfref01_minus k x11.2.2.2.1 x11.2.2.2.2.2.2.2.2.1).bind fun x13 =>
                    bif ixOk x11.2.2.2.2.2.2.1 x11.2.2.2.2.1.length then
                      some (.inl (x11.1, x11.2.1, x11.2.2.1, x13, (x11.2.2.2.2.1.set x11.2.2.2.2.2.2.1.toNat (IntKind.u32.wrap (x11.2.2.2.2.2.2.2.1))), x11.2.2.2.2.2.1, IntKind.i64.wrap (x11.2.2.2.2.2.2.1 - 1), ()))
                    else
                      none
                  else
                    (swarfref01_by k t9 (IntKind.u32.wrap (IntKind.u64.wrap ((IntKind.u64.wrap ((IntKind.u64.wrap ((IntKind.u64.wrap ((x7.getD (t9.length : Int).toNat 0))) * 1000000000)) + (IntKind.u64.wrap ((x7.getD (IntKind.i64.wrap ((t9.length : Int) - 1)).toNat 0))))).tdiv t10)))).bind fun x14 =>
                    (iter (fun (x18 : (Int × List Int × Int × List Int × List Int × List Int × Int × Int × List Int × Unit)) => swarfref01_parts_L2_1 k x18.1 x18.2.1 x18.2.2.1 x18.2.2.2.1 x18.2.2.2.2.1 x18.2.2.2.2.2.1 x18.2.2.2.2.2.2.1 x18.2.2.2.2.2.2.2.1 x18.2.2.2.2.2.2.2.2.1) k (t8, t9, t10, x7, t12, t13, t14, IntKind.u64.wrap ((IntKind.u64.wrap ((IntKind.u64.wrap ((IntKind.u64.wrap ((x7.getD (t9.length : Int).toNat 0))) * 1000000000)) + (IntKind.u64.wrap ((x7.getD (IntKind.i64.wrap ((t9.length : Int) - 1)).toNat 0))))).tdiv t10), x14, ())).bind fun x17 =>
                    (swarfref01_minus k x17.2.2.2.1 x17.2.2.2.2.2.2.2.2.1).bind fun x19 =>
                    bif ixOk x17.2.2.2.2.2.2.1 x17.2.2.2.2.1.length then
                      some (.inl (x17.1, x17.2.1, x17.2.2.1, x19, (x17.2.2.2.2.1.set x17.2.2.2.2.2.2.1.toNat (IntKind.u32.wrap (x17.2.2.2.2.2.2.2.1))), x17.2.2.2.2.2.1, IntKind.i64.wrap (x17.2.2.2.2.2.2.1 - 1), ()))
                    else
                      none
              else
                none
            else
              bif t10 == 0 then
                none
              else
                bif decide ((IntKind.u64.wrap ((IntKind.u64.wrap ((IntKind.u64.wrap ((x7.getD (t9.length : Int).toNat 0))) * 1000000000)).tdiv t10)) > 999999999) then
                  (swarfref01_by k t9 999999999).bind fun x20 =>
                  (iter (fun (x24 : (Int × List Int × Int × List Int × List Int × List Int × Int × Int × List Int × Unit)) => swarfref01_parts_L2_2 k x24.1 x24.2.1 x24.2.2.1 x24.2.2.2.1 x24.2.2.2.2.1 x24.2.2.2.2.2.1 x24.2.2.2.2.2.2.1 x24.2.2.2.2.2.2.2.1 x24.2.2.2.2.2.2.2.2.1) k (t8, t9, t10, x7, t12, t13, t14, 999999999, x20, ())).bind fun x23 =>
                  (swarfref01_minus k x23.2.2.2.1 x23.2.2.2.2.2.2.2.2.1).bind fun x25 =>
                  bif ixOk x23.2.2.2.2.2.2.1 x23.2.2.2.2.1.length then
                    some (.inl (x23.1, x23.2.1, x23.2.2.1, x25, (x23.2.2.2.2.1.set x23.2.2.2.2.2.2.1.toNat (IntKind.u32.wrap (x23.2.2.2.2.2.2.2.1))), x23.2.2.2.2.2.1, IntKind.i64.wrap (x23.2.2.2.2.2.2.1 - 1), ()))
                  else
                    none
                else
                  (swarfref01_by k t9 (IntKind.u32.wrap (IntKind.u64.wrap ((IntKind.u64.wrap ((IntKind.u64.wrap ((x7.getD (t9.length : Int).toNat 0))) * 1000000000)).tdiv t10)))).bind fun x26 =>
                  (iter (fun (x30 : (Int × List Int × Int × List Int × List Int × List Int × Int × Int × List Int × Unit)) => swarfref01_parts_L2_3 k x30.1 x30.2.1 x30.2.2.1 x30.2.2.2.1 x30.2.2.2.2.1 x30.2.2.2.2.2.1 x30.2.2.2.2.2.2.1 x30.2.2.2.2.2.2.2.1 x30.2.2.2.2.2.2.2.2.1) k (t8, t9, t10, x7, t12, t13, t14, IntKind.u64.wrap ((IntKind.u64.wrap ((IntKind.u64.wrap ((x7.getD (t9.length : Int).toNat 0))) * 1000000000)).tdiv t10), x26, ())).bind fun x29 =>
                  (swarfref01_minus k x29.2.2.2.1 x29.2.2.2.2.2.2.2.2.1).bind fun x31 =>
                  bif ixOk x29.2.2.2.2.2.2.1 x29.2.2.2.2.1.length then
                    some (.inl (x29.1, x29.2.1, x29.2.2.1, x31, (x29.2.2.2.2.1.set x29.2.2.2.2.2.2.1.toNat (IntKind.u32.wrap (x29.2.2.2.2.2.2.2.1))), x29.2.2.2.2.2.1, IntKind.i64.wrap (x29.2.2.2.2.2.2.1 - 1), ()))
                  else
                    none
          else
            none
        else
          bif decide ((x7.length : Int) ≥ (t9.length : Int)) then
            bif ixOk (IntKind.i64.wrap ((t9.length : Int) - 1)) x7.length then
              bif t10 == 0 then
                none
              else
                bif decide ((IntKind.u64.wrap ((IntKind.u64.wrap (0 + (IntKind.u64.wrap ((x7.getD (IntKind.i64.wrap ((t9.length : Int) - 1)).toNat 0))))).tdiv t10)) > 999999999) then
                  (swarfref01_by k t9 999999999).bind fun x32 =>
                  (iter (fun (x36 : (Int × List Int × Int × List Int × List Int × List Int × Int × Int × List Int × Unit)) => swarfref01_parts_L2_4 k x36.1 x36.2.1 x36.2.2.1 x36.2.2.2.1 x36.2.2.2.2.1 x36.2.2.2.2.2.1 x36.2.2.2.2.2.2.1 x36.2.2.2.2.2.2.2.1 x36.2.2.2.2.2.2.2.2.1) k (t8, t9, t10, x7, t12, t13, t14, 999999999, x32, ())).bind fun x35 =>
                  (swarfref01_minus k x35.2.2.2.1 x35.2.2.2.2.2.2.2.2.1).bind fun x37 =>
                  bif ixOk x35.2.2.2.2.2.2.1 x35.2.2.2.2.1.length then
                    some (.inl (x35.1, x35.2.1, x35.2.2.1, x37, (x35.2.2.2.2.1.set x35.2.2.2.2.2.2.1.toNat (IntKind.u32.wrap (x35.2.2.2.2.2.2.2.1))), x35.2.2.2.2.2.1, IntKind.i64.wrap (x35.2.2.2.2.2.2.1 - 1), ()))
                  else
                    none
                else
                  (swarfref01_by k t9 (IntKind.u32.wrap (IntKind.u64.wrap ((IntKind.u64.wrap (0 + (IntKind.u64.wrap ((x7.getD (IntKind.i64.wrap ((t9.length : Int) - 1)).toNat 0))))).tdiv t10)))).bind fun x38 =>
                  (iter (fun (x42 : (Int × List Int × Int × List Int × List Int × List Int × Int × Int × List Int × Unit)) => swarfref01_parts_L2_5 k x42.1 x42.2.1 x42.2.2.1 x42.2.2.2.1 x42.2.2.2.2.1 x42.2.2.2.2.2.1 x42.2.2.2.2.2.2.1 x42.2.2.2.2.2.2.2.1 x42.2.2.2.2.2.2.2.2.1) k (t8, t9, t10, x7, t12, t13, t14, IntKind.u64.wrap ((IntKind.u64.wrap (0 + (IntKind.u64.wrap ((x7.getD (IntKind.i64.wrap ((t9.length : Int) - 1)).toNat 0))))).tdiv t10), x38, ())).bind fun x41 =>
                  (swarfref01_minus k x41.2.2.2.1 x41.2.2.2.2.2.2.2.2.1).bind fun x43 =>
                  bif ixOk x41.2.2.2.2.2.2.1 x41.2.2.2.2.1.length then
                    some (.inl (x41.1, x41.2.1, x41.2.2.1, x43, (x41.2.2.2.2.1.set x41.2.2.2.2.2.2.1.toNat (IntKind.u32.wrap (x41.2.2.2.2.2.2.2.1))), x41.2.2.2.2.2.1, IntKind.i64.wrap (x41.2.2.2.2.2.2.1 - 1), ()))
                  else
                    none
            else
              none
          else
            bif t10 == 0 then
              none
            else
              bif decide ((IntKind.u64.wrap ((0 : Int).tdiv t10)) > 999999999) then
                (swarfref01_by k t9 999999999).bind fun x44 =>
                (iter (fun (x48 : (Int × List Int × Int × List Int × List Int × List Int × Int × Int × List Int × Unit)) => swarfref01_parts_L2_6 k x48.1 x48.2.1 x48.2.2.1 x48.2.2.2.1 x48.2.2.2.2.1 x48.2.2.2.2.2.1 x48.2.2.2.2.2.2.1 x48.2.2.2.2.2.2.2.1 x48.2.2.2.2.2.2.2.2.1) k (t8, t9, t10, x7, t12, t13, t14, 999999999, x44, ())).bind fun x47 =>
                (swarfref01_minus k x47.2.2.2.1 x47.2.2.2.2.2.2.2.2.1).bind fun x49 =>
                bif ixOk x47.2.2.2.2.2.2.1 x47.2.2.2.2.1.length then
                  some (.inl (x47.1, x47.2.1, x47.2.2.1, x49, (x47.2.2.2.2.1.set x47.2.2.2.2.2.2.1.toNat (IntKind.u32.wrap (x47.2.2.2.2.2.2.2.1))), x47.2.2.2.2.2.1, IntKind.i64.wrap (x47.2.2.2.2.2.2.1 - 1), ()))
                else
                  none
              else
                (swarfref01_by k t9 (IntKind.u32.wrap (IntKind.u64.wrap ((0 : Int).tdiv t10)))).bind fun x50 =>
                (iter (fun (x54 : (Int × List Int × Int × List Int × List Int × List Int × Int × Int × List Int × Unit)) => swarfref01_parts_L2_7 k x54.1 x54.2.1 x54.2.2.1 x54.2.2.2.1 x54.2.2.2.2.1 x54.2.2.2.2.2.1 x54.2.2.2.2.2.2.1 x54.2.2.2.2.2.2.2.1 x54.2.2.2.2.2.2.2.2.1) k (t8, t9, t10, x7, t12, t13, t14, IntKind.u64.wrap ((0 : Int).tdiv t10), x50, ())).bind fun x53 =>
                (swarfref01_minus k x53.2.2.2.1 x53.2.2.2.2.2.2.2.2.1).bind fun x55 =>
                bif ixOk x53.2.2.2.2.2.2.1 x53.2.2.2.2.1.length then
                  some (.inl (x53.1, x53.2.1, x53.2.2.1, x55, (x53.2.2.2.2.1.set x53.2.2.2.2.2.2.1.toNat (IntKind.u32.wrap (x53.2.2.2.2.2.2.2.1))), x53.2.2.2.2.2.1, IntKind.i64.wrap (x53.2.2.2.2.2.2.1 - 1), ()))
                else
                  none
      else
        none
    else
      none
  else
    some (.inr (t8, t11, t12, ()))
def swarfref01_parts_L4 (k : Nat) (t8 : Int) (t11 : List Int) (t12 : List Int) (t18 : Int) (t19 : List Int) (t20 : Int) : Option ((Int × List Int × List Int × Int × List Int × Int × Unit) ⊕ (List Int × List Int × Unit)) :=
  bif decide (t20 ≥ 0) then
    bif ixOk t20 t11.length then
      bif (IntKind.u64.wrap (t8)) == 0 then
        none
      else
        bif ixOk t20 t19.length then
          bif (IntKind.u64.wrap (t8)) == 0 then
            none
          else
            some (.inl (t8, t11, t12, (IntKind.u64.wrap ((IntKind.u64.wrap (t18 * 1000000000)) + (IntKind.u64.wrap ((t11.getD t20.toNat 0))))).tmod (IntKind.u64.wrap (t8)), (t19.set t20.toNat (IntKind.u32.wrap (IntKind.u64.wrap ((IntKind.u64.wrap ((IntKind.u64.wrap (t18 * 1000000000)) + (IntKind.u64.wrap ((t11.getD t20.toNat 0))))).tdiv (IntKind.u64.wrap (t8)))))), IntKind.i64.wrap (t20 - 1), ()))
        else
          none
    else
      none
  else
    some (.inr (t12, t19, ()))
def swarfref01_parts_L2_10 (k : Nat) (t8 : Int) (t9 : List Int) (t10 : Int) (t11 : List Int) (t12 : List Int) (t13 : List Int) (t14 : Int) (t16 : Int) (t17 : List Int) : Option ((Int × List Int × Int × List Int × List Int × List Int × Int × Int × List Int × Unit) ⊕ (Int × List Int × Int × List Int × List Int × List Int × Int × Int × List Int × Unit)) :=
  (swarfref01_compare k t17 t11).bind fun x66 =>
  bif decide (x66 > 0) then
    (swarfref01_minus k t17 t9).bind fun x67 =>
    some (.inl (t8, t9, t10, t11, t12, t13, t14, IntKind.u64.wrap (t16 - 1), x67, ()))
  else
    some (.inr (t8, t9, t10, t11, t12, t13, t14, t16, t17, ()))
def swarfref01_parts_L2_11 (k : Nat) (t8 : Int) (t9 : List Int) (t10 : Int) (t11 : List Int) (t12 : List Int) (t13 : List Int) (t14 : Int) (t16 : Int) (t17 : List Int) : Option ((Int × List Int × Int × List Int × List Int × List Int × Int × Int × List Int × Unit) ⊕ (Int × List Int × Int × List Int × List Int × List Int × Int × Int × List Int × Unit)) :=
  (swarfref01_compare k t17 t11).bind fun x72 =>
  bif decide (x72 > 0) then
    (swarfref01_minus k t17 t9).bind fun x73 =>
    some (.inl (t8, t9, t10, t11, t12, t13, t14, IntKind.u64.wrap (t16 - 1), x73, ()))
  else
    some (.inr (t8, t9, t10, t11, t12, t13, t14, t16, t17, ()))
def swarfref01_parts_L2_12 (k : Nat) (t8 : Int) (t9 : List Int) (t10 : Int) (t11 : List Int) (t12 : List Int) (t13 : List Int) (t14 : Int) (t16 : Int) (t17 : List Int) : Option ((Int × List Int × Int × List Int × List Int × List Int × Int × Int × List Int × Unit) ⊕ (Int × List Int × Int × List Int × List Int × List Int × Int × Int × List Int × Unit)) :=
  (swarfref01_compare k t17 t11).bind fun x78 =>
  bif decide (x78 > 0) then
    (swarfref01_minus k t17 t9).bind fun x79 =>
    some (.inl (t8, t9, t10, t11, t12, t13, t14, IntKind.u64.wrap (t16 - 1), x79, ()))
  else
    some (.inr (t8, t9, t10, t11, t12, t13, t14, t16, t17, ()))
def swarfref01_parts_L2_13 (k : Nat) (t8 : Int) (t9 : List Int) (t10 : Int) (t11 : List Int) (t12 : List Int) (t13 : List Int) (t14 : Int) (t16 : Int) (t17 : List Int) : Option ((Int × List Int × Int × List Int × List Int × List Int × Int × Int × List Int × Unit) ⊕ (Int × List Int × Int × List Int × List Int × List Int × Int × Int × List Int × Unit)) :=
  (swarfref01_compare k t17 t11).bind fun x84 =>
  bif decide (x84 > 0) then
    (swarfref01_minus k t17 t9).bind fun x85 =>
    some (.inl (t8, t9, t10, t11, t12, t13, t14, IntKind.u64.wrap (t16 - 1), x85, ()))
  else
    some (.inr (t8, t9, t10, t11, t12, t13, t14, t16, t17, ()))
def swarfref01_parts_L2_14 (k : Nat) (t8 : Int) (t9 : List Int) (t10 : Int) (t11 : List Int) (t12 : List Int) (t13 : List Int) (t14 : Int) (t16 : Int) (t17 : List Int) : Option ((Int × List Int × Int × List Int × List Int × List Int × Int × Int × List Int × Unit) ⊕ (Int × List Int × Int × List Int × List Int × List Int × Int × Int × List Int × Unit)) :=
  (swarfref01_compare k t17 t11).bind fun x90 =>
  bif decide (x90 > 0) then
    (swarfref01_minus k t17 t9).bind fun x91 =>
    some (.inl (t8, t9, t10, t11, t12, t13, t14, IntKind.u64.wrap (t16 - 1), x91, ()))
  else
    some (.inr (t8, t9, t10, t11, t12, t13, t14, t16, t17, ()))
def swarfref01_parts_L2_15 (k : Nat) (t8 : Int) (t9 : List Int) (t10 : Int) (t11 : List Int) (t12 : List Int) (t13 : List Int) (t14 : Int) (t16 : Int) (t17 : List Int) : Option ((Int × List Int × Int × List Int × List Int × List Int × Int × Int × List Int × Unit) ⊕ (Int × List Int × Int × List Int × List Int × List Int × Int × Int × List Int × Unit)) :=
  (swarfref01_compare k t17 t11).bind fun x96 =>
  bif decide (x96 > 0) then
    (swarfref01_minus k t17 t9).bind fun x97 =>
    some (.inl (t8, t9, t10, t11, t12, t13, t14, IntKind.u64.wrap (t16 - 1), x97, ()))
  else
    some (.inr (t8, t9, t10, t11, t12, t13, t14, t16, t17, ()))
def swarfref01_parts_L2_16 (k : Nat) (t8 : Int) (t9 : List Int) (t10 : Int) (t11 : List Int) (t12 : List Int) (t13 : List Int) (t14 : Int) (t16 : Int) (t17 : List Int) : Option ((Int × List Int × Int × List Int × List Int × List Int × Int × Int × List Int × Unit) ⊕ (Int × List Int × Int × List Int × List Int × List Int × Int × Int × List Int × Unit)) :=
  (swarfref01_compare k t17 t11).bind fun x102 =>
  bif decide (x102 > 0) then
    (swarfref01_minus k t17 t9).bind fun x103 =>
    some (.inl (t8, t9, t10, t11, t12, t13, t14, IntKind.u64.wrap (t16 - 1), x103, ()))
  else
    some (.inr (t8, t9, t10, t11, t12, t13, t14, t16, t17, ()))
def swarfref01_parts_L2_17 (k : Nat) (t8 : Int) (t9 : List Int) (t10 : Int) (t11 : List Int) (t12 : List Int) (t13 : List Int) (t14 : Int) (t16 : Int) (t17 : List Int) : Option ((Int × List Int × Int × List Int × List Int × List Int × Int × Int × List Int × Unit) ⊕ (Int × List Int × Int × List Int × List Int × List Int × Int × Int × List Int × Unit)) :=
  (swarfref01_compare k t17 t11).bind fun x108 =>
  bif decide (x108 > 0) then
    (swarfref01_minus k t17 t9).bind fun x109 =>
    some (.inl (t8, t9, t10, t11, t12, t13, t14, IntKind.u64.wrap (t16 - 1), x109, ()))
  else
    some (.inr (t8, t9, t10, t11, t12, t13, t14, t16, t17, ()))
def swarfref01_parts_L0_18 (k : Nat) (t8 : Int) (t9 : List Int) (t10 : Int) (t11 : List Int) (t12 : List Int) (t13 : List Int) (t14 : Int) : Option ((Int × List Int × Int × List Int × List Int × List Int × Int × Unit) ⊕ (Int × List Int × List Int × Unit)) :=
  bif decide (t14 ≥ 0) then
    bif ixOk t14 t13.length then
      bif decide ((([(t13.getD t14.toNat 0)] : List Int).length + t11.length) * 4 ≤ 140737488355328) then
        (swarfref01_trim k (([(t13.getD t14.toNat 0)] : List Int) ++ t11)).bind fun x64 =>
        bif decide ((x64.length : Int) > (t9.length : Int)) then
          bif ixOk (t9.length : Int) x64.length then
            bif decide ((x64.length : Int) ≥ (t9.length : Int)) then
              bif ixOk (IntKind.i64.wrap ((t9.length : Int) - 1)) x64.length then
                bif t10 == 0 then
                  none
                else
                  bif decide ((IntKind.u64.wrap ((IntKind.u64.wrap ((IntKind.u64.wrap ((IntKind.u64.wrap ((x64.getD (t9.length : Int).toNat 0))) * 1000000000)) + (IntKind.u64.wrap ((x64.getD (IntKind.i64.wrap ((t9.length : Int) - 1)).toNat 0))))).tdiv t10)) > 999999999) then
                    (swarfref01_by k t9 999999999).bind fun x65 =>
                    (iter (fun (x69 : (Int × List Int × Int × List Int × List Int × List Int × Int × Int × List Int × Unit)) => swarfref01_parts_L2_10 k x69.1 x69.2.1 x69.2.2.1 x69.2.2.2.1 x69.2.2.2.2.1 x69.2.2.2.2.2.1 x69.2.2.2.2.2.2.1 x69.2.2.2.2.2.2.2.1 x69.2.2.2.2.2.2.2.2.1) k (t8, t9, t10, x64, t12, t13, t14, 999999999, x65, ())).bind fun x68 =>
                    (swarfref01_minus k x68.2.2.2.1 x68.2.2.2.2.2.2.2.2.1).bind fun x70 =>
                    bif ixOk x68.2.2.2.2.2.2.1 x68.2.2.2.2.1.length then
                      some (.inl (x68.1, x68.2.1, x68.2.2.1, x70, (x68.2.2.2.2.1.set x68.2.2.2.2.2.2.1.toNat (IntKind.u32.wrap (x68.2.2.2.2.2.2.2.1))), x68.2.2.2.2.2.1, IntKind.i64.wrap (x68.2.2.2.2.2.2.1 - 1), ()))
                    else
                      none
                  else
                    (swarfref01_by k t9 (IntKind.u32.wrap (IntKind.u64.wrap ((IntKind.u64.wrap ((IntKind.u64.wrap ((IntKind.u64.wrap ((x64.getD (t9.length : Int).toNat 0))) * 1000000000)) + (IntKind.u64.wrap ((x64.getD (IntKind.i64.wrap ((t9.length : Int) - 1)).toNat 0))))).tdiv t10)))).bind fun x71 =>
                    (iter (fun (x75 : (Int × List Int × Int × List Int × List Int × List Int × Int × Int × List Int × Unit)) => swarfref01_parts_L2_11 k x75.1 x75.2.1 x75.2.2.1 x75.2.2.2.1 x75.2.2.2.2.1 x75.2.2.2.2.2.1 x75.2.2.2.2.2.2.1 x75.2.2.2.2.2.2.2.1 x75.2.2.2.2.2.2.2.2.1) k (t8, t9, t10, x64, t12, t13, t14, IntKind.u64.wrap ((IntKind.u64.wrap ((IntKind.u64.wrap ((IntKind.u64.wrap ((x64.getD (t9.length : Int).toNat 0))) * 1000000000)) + (IntKind.u64.wrap ((x64.getD (IntKind.i64.wrap ((t9.length : Int) - 1)).toNat 0))))).tdiv t10), x71, ())).bind fun x74 =>
                    (swarfref01_minus k x74.2.2.2.1 x74.2.2.2.2.2.2.2.2.1).bind fun x76 =>
                    bif ixOk x74.2.2.2.2.2.2.1 x74.2.2.2.2.1.length then
                      some (.inl (x74.1, x74.2.1, x74.2.2.1, x76, (x74.2.2.2.2.1.set x74.2.2.2.2.2.2.1.toNat (IntKind.u32.wrap (x74.2.2.2.2.2.2.2.1))), x74.2.2.2.2.2.1, IntKind.i64.wrap (x74.2.2.2.2.2.2.1 - 1), ()))
                    else
                      none
              else
                none
            else
              bif t10 == 0 then
                none
              else
                bif decide ((IntKind.u64.wrap ((IntKind.u64.wrap ((IntKind.u64.wrap ((x64.getD (t9.length : Int).toNat 0))) * 1000000000)).tdiv t10)) > 999999999) then
                  (swarfref01_by k t9 999999999).bind fun x77 =>
                  (iter (fun (x81 : (Int × List Int × Int × List Int × List Int × List Int × Int × Int × List Int × Unit)) => swarfref01_parts_L2_12 k x81.1 x81.2.1 x81.2.2.1 x81.2.2.2.1 x81.2.2.2.2.1 x81.2.2.2.2.2.1 x81.2.2.2.2.2.2.1 x81.2.2.2.2.2.2.2.1 x81.2.2.2.2.2.2.2.2.1) k (t8, t9, t10, x64, t12, t13, t14, 999999999, x77, ())).bind fun x80 =>
                  (swarfref01_minus k x80.2.2.2.1 x80.2.2.2.2.2.2.2.2.1).bind fun x82 =>
                  bif ixOk x80.2.2.2.2.2.2.1 x80.2.2.2.2.1.length then
                    some (.inl (x80.1, x80.2.1, x80.2.2.1, x82, (x80.2.2.2.2.1.set x80.2.2.2.2.2.2.1.toNat (IntKind.u32.wrap (x80.2.2.2.2.2.2.2.1))), x80.2.2.2.2.2.1, IntKind.i64.wrap (x80.2.2.2.2.2.2.1 - 1), ()))
                  else
                    none
                else
                  (swarfref01_by k t9 (IntKind.u32.wrap (IntKind.u64.wrap ((IntKind.u64.wrap ((IntKind.u64.wrap ((x64.getD (t9.length : Int).toNat 0))) * 1000000000)).tdiv t10)))).bind fun x83 =>
                  (iter (fun (x87 : (Int × List Int × Int × List Int × List Int × List Int × Int × Int × List Int × Unit)) => swarfref01_parts_L2_13 k x87.1 x87.2.1 x87.2.2.1 x87.2.2.2.1 x87.2.2.2.2.1 x87.2.2.2.2.2.1 x87.2.2.2.2.2.2.1 x87.2.2.2.2.2.2.2.1 x87.2.2.2.2.2.2.2.2.1) k (t8, t9, t10, x64, t12, t13, t14, IntKind.u64.wrap ((IntKind.u64.wrap ((IntKind.u64.wrap ((x64.getD (t9.length : Int).toNat 0))) * 1000000000)).tdiv t10), x83, ())).bind fun x86 =>
                  (swarfref01_minus k x86.2.2.2.1 x86.2.2.2.2.2.2.2.2.1).bind fun x88 =>
                  bif ixOk x86.2.2.2.2.2.2.1 x86.2.2.2.2.1.length then
                    some (.inl (x86.1, x86.2.1, x86.2.2.1, x88, (x86.2.2.2.2.1.set x86.2.2.2.2.2.2.1.toNat (IntKind.u32.wrap (x86.2.2.2.2.2.2.2.1))), x86.2.2.2.2.2.1, IntKind.i64.wrap (x86.2.2.2.2.2.2.1 - 1), ()))
                  else
                    none
          else
            none
        else
          bif decide ((x64.length : Int) ≥ (t9.length : Int)) then
            bif ixOk (IntKind.i64.wrap ((t9.length : Int) - 1)) x64.length then
              bif t10 == 0 then
                none
              else
                bif decide ((IntKind.u64.wrap ((IntKind.u64.wrap (0 + (IntKind.u64.wrap ((x64.getD (IntKind.i64.wrap ((t9.length : Int) - 1)).toNat 0))))).tdiv t10)) > 999999999) then
                  (swarfref01_by k t9 999999999).bind fun x89 =>
                  (iter (fun (x93 : (Int × List Int × Int × List Int × List Int × List Int × Int × Int × List Int × Unit)) => swarfref01_parts_L2_14 k x93.1 x93.2.1 x93.2.2.1 x93.2.2.2.1 x93.2.2.2.2.1 x93.2.2.2.2.2.1 x93.2.2.2.2.2.2.1 x93.2.2.2.2.2.2.2.1 x93.2.2.2.2.2.2.2.2.1) k (t8, t9, t10, x64, t12, t13, t14, 999999999, x89, ())).bind fun x92 =>
                  (swarfref01_minus k x92.2.2.2.1 x92.2.2.2.2.2.2.2.2.1).bind fun x94 =>
                  bif ixOk x92.2.2.2.2.2.2.1 x92.2.2.2.2.1.length then
                    some (.inl (x92.1, x92.2.1, x92.2.2.1, x94, (x92.2.2.2.2.1.set x92.2.2.2.2.2.2.1.toNat (IntKind.u32.wrap (x92.2.2.2.2.2.2.2.1))), x92.2.2.2.2.2.1, IntKind.i64.wrap (x92.2.2.2.2.2.2.1 - 1), ()))
                  else
                    none
                else
                  (swarfref01_by k t9 (IntKind.u32.wrap (IntKind.u64.wrap ((IntKind.u64.wrap (0 + (IntKind.u64.wrap ((x64.getD (IntKind.i64.wrap ((t9.length : Int) - 1)).toNat 0))))).tdiv t10)))).bind fun x95 =>
                  (iter (fun (x99 : (Int × List Int × Int × List Int × List Int × List Int × Int × Int × List Int × Unit)) => swarfref01_parts_L2_15 k x99.1 x99.2.1 x99.2.2.1 x99.2.2.2.1 x99.2.2.2.2.1 x99.2.2.2.2.2.1 x99.2.2.2.2.2.2.1 x99.2.2.2.2.2.2.2.1 x99.2.2.2.2.2.2.2.2.1) k (t8, t9, t10, x64, t12, t13, t14, IntKind.u64.wrap ((IntKind.u64.wrap (0 + (IntKind.u64.wrap ((x64.getD (IntKind.i64.wrap ((t9.length : Int) - 1)).toNat 0))))).tdiv t10), x95, ())).bind fun x98 =>
                  (swarfref01_minus k x98.2.2.2.1 x98.2.2.2.2.2.2.2.2.1).bind fun x100 =>
                  bif ixOk x98.2.2.2.2.2.2.1 x98.2.2.2.2.1.length then
                    some (.inl (x98.1, x98.2.1, x98.2.2.1, x100, (x98.2.2.2.2.1.set x98.2.2.2.2.2.2.1.toNat (IntKind.u32.wrap (x98.2.2.2.2.2.2.2.1))), x98.2.2.2.2.2.1, IntKind.i64.wrap (x98.2.2.2.2.2.2.1 - 1), ()))
                  else
                    none
            else
              none
          else
            bif t10 == 0 then
              none
            else
              bif decide ((IntKind.u64.wrap ((0 : Int).tdiv t10)) > 999999999) then
                (swarfref01_by k t9 999999999).bind fun x101 =>
                (iter (fun (x105 : (Int × List Int × Int × List Int × List Int × List Int × Int × Int × List Int × Unit)) => swarfref01_parts_L2_16 k x105.1 x105.2.1 x105.2.2.1 x105.2.2.2.1 x105.2.2.2.2.1 x105.2.2.2.2.2.1 x105.2.2.2.2.2.2.1 x105.2.2.2.2.2.2.2.1 x105.2.2.2.2.2.2.2.2.1) k (t8, t9, t10, x64, t12, t13, t14, 999999999, x101, ())).bind fun x104 =>
                (swarfref01_minus k x104.2.2.2.1 x104.2.2.2.2.2.2.2.2.1).bind fun x106 =>
                bif ixOk x104.2.2.2.2.2.2.1 x104.2.2.2.2.1.length then
                  some (.inl (x104.1, x104.2.1, x104.2.2.1, x106, (x104.2.2.2.2.1.set x104.2.2.2.2.2.2.1.toNat (IntKind.u32.wrap (x104.2.2.2.2.2.2.2.1))), x104.2.2.2.2.2.1, IntKind.i64.wrap (x104.2.2.2.2.2.2.1 - 1), ()))
                else
                  none
              else
                (swarfref01_by k t9 (IntKind.u32.wrap (IntKind.u64.wrap ((0 : Int).tdiv t10)))).bind fun x107 =>
                (iter (fun (x111 : (Int × List Int × Int × List Int × List Int × List Int × Int × Int × List Int × Unit)) => swarfref01_parts_L2_17 k x111.1 x111.2.1 x111.2.2.1 x111.2.2.2.1 x111.2.2.2.2.1 x111.2.2.2.2.2.1 x111.2.2.2.2.2.2.1 x111.2.2.2.2.2.2.2.1 x111.2.2.2.2.2.2.2.2.1) k (t8, t9, t10, x64, t12, t13, t14, IntKind.u64.wrap ((0 : Int).tdiv t10), x107, ())).bind fun x110 =>
                (swarfref01_minus k x110.2.2.2.1 x110.2.2.2.2.2.2.2.2.1).bind fun x112 =>
                bif ixOk x110.2.2.2.2.2.2.1 x110.2.2.2.2.1.length then
                  some (.inl (x110.1, x110.2.1, x110.2.2.1, x112, (x110.2.2.2.2.1.set x110.2.2.2.2.2.2.1.toNat (IntKind.u32.wrap (x110.2.2.2.2.2.2.2.1))), x110.2.2.2.2.2.1, IntKind.i64.wrap (x110.2.2.2.2.2.2.1 - 1), ()))
                else
                  none
      else
        none
    else
      none
  else
    some (.inr (t8, t11, t12, ()))
def swarfref01_parts_L4_19 (k : Nat) (t8 : Int) (t11 : List Int) (t12 : List Int) (t18 : Int) (t19 : List Int) (t20 : Int) : Option ((Int × List Int × List Int × Int × List Int × Int × Unit) ⊕ (List Int × List Int × Unit)) :=
  bif decide (t20 ≥ 0) then
    bif ixOk t20 t11.length then
      bif (IntKind.u64.wrap (t8)) == 0 then
        none
      else
        bif ixOk t20 t19.length then
          bif (IntKind.u64.wrap (t8)) == 0 then
            none
          else
            some (.inl (t8, t11, t12, (IntKind.u64.wrap ((IntKind.u64.wrap (t18 * 1000000000)) + (IntKind.u64.wrap ((t11.getD t20.toNat 0))))).tmod (IntKind.u64.wrap (t8)), (t19.set t20.toNat (IntKind.u32.wrap (IntKind.u64.wrap ((IntKind.u64.wrap ((IntKind.u64.wrap (t18 * 1000000000)) + (IntKind.u64.wrap ((t11.getD t20.toNat 0))))).tdiv (IntKind.u64.wrap (t8)))))), IntKind.i64.wrap (t20 - 1), ()))
        else
          none
    else
      none
  else
    some (.inr (t12, t19, ()))
def swarfref01_parts (k : Nat) (a0 : List Int) (a1 : List Int) : Option (List Int × List Int) :=
  bif decide ((a0.length : Int) ≤ 2) then
    bif decide ((a1.length : Int) ≤ 2) then
      (swarfref01_short k a0).bind fun x1 =>
      (swarfref01_short k a1).bind fun x2 =>
      bif x2 == 0 then
        none
      else
        (swarfref01_limbs k (IntKind.u64.wrap (x1.tdiv x2))).bind fun x3 =>
        bif x2 == 0 then
          none
        else
          (swarfref01_limbs k (x1.tmod x2)).bind fun x4 =>
          some (x3, x4)
    else
      bif ixOk (IntKind.i64.wrap ((a1.length : Int) - 1)) a1.length then
        bif (IntKind.u64.wrap ((IntKind.u64.wrap ((a1.getD (IntKind.i64.wrap ((a1.length : Int) - 1)).toNat 0))) + 1)) == 0 then
          none
        else
          (swarfref01_by k a1 (IntKind.u32.wrap (IntKind.u64.wrap ((1000000000 : Int).tdiv (IntKind.u64.wrap ((IntKind.u64.wrap ((a1.getD (IntKind.i64.wrap ((a1.length : Int) - 1)).toNat 0))) + 1)))))).bind fun x5 =>
          bif ixOk (IntKind.i64.wrap ((x5.length : Int) - 1)) x5.length then
            bif (decide (0 ≤ IntKind.i64.wrap ((a0.length : Int) + 1))) && (decide (IntKind.i64.wrap ((a0.length : Int) + 1) ≤ IntKind.i64.wrap ((a0.length : Int) + 1)) && decide ((IntKind.i64.wrap ((a0.length : Int) + 1)) * ((4 : Nat) : Int) ≤ 281474976710656)) then
              (swarfref01_by k a0 (IntKind.u32.wrap (IntKind.u64.wrap ((1000000000 : Int).tdiv (IntKind.u64.wrap ((IntKind.u64.wrap ((a1.getD (IntKind.i64.wrap ((a1.length : Int) - 1)).toNat 0))) + 1)))))).bind fun x6 =>
              bif sliceOk (List.replicate (IntKind.i64.wrap ((a0.length : Int) + 1)).toNat (0 : Int)).length none (some (x6.length : Int)) none then
                (iter (fun (x57 : (Int × List Int × Int × List Int × List Int × List Int × Int × Unit)) => swarfref01_parts_L0 k x57.1 x57.2.1 x57.2.2.1 x57.2.2.2.1 x57.2.2.2.2.1 x57.2.2.2.2.2.1 x57.2.2.2.2.2.2.1) k (IntKind.u32.wrap (IntKind.u64.wrap ((1000000000 : Int).tdiv (IntKind.u64.wrap ((IntKind.u64.wrap ((a1.getD (IntKind.i64.wrap ((a1.length : Int) - 1)).toNat 0))) + 1)))), x5, IntKind.u64.wrap ((x5.getD (IntKind.i64.wrap ((x5.length : Int) - 1)).toNat 0)), [], ((List.replicate (IntKind.i64.wrap ((a0.length : Int) + 1)).toNat (0 : Int)).take (x6.length : Int).toNat), x6, IntKind.i64.wrap ((x6.length : Int) - 1), ())).bind fun x56 =>
                bif (decide (0 ≤ (x56.2.1.length : Int))) && (decide ((x56.2.1.length : Int) ≤ (x56.2.1.length : Int)) && decide ((x56.2.1.length : Int) * ((4 : Nat) : Int) ≤ 281474976710656)) then
                  (iter (fun (x59 : (Int × List Int × List Int × Int × List Int × Int × Unit)) => swarfref01_parts_L4 k x59.1 x59.2.1 x59.2.2.1 x59.2.2.2.1 x59.2.2.2.2.1 x59.2.2.2.2.2.1) k (x56.1, x56.2.1, x56.2.2.1, 0, (List.replicate (x56.2.1.length : Int).toNat (0 : Int)), IntKind.i64.wrap ((x56.2.1.length : Int) - 1), ())).bind fun x58 =>
                  (swarfref01_trim k x58.1).bind fun x60 =>
                  (swarfref01_trim k x58.2.1).bind fun x61 =>
                  some (x60, x61)
                else
                  none
              else
                none
            else
              none
          else
            none
      else
        none
  else
    bif ixOk (IntKind.i64.wrap ((a1.length : Int) - 1)) a1.length then
      bif (IntKind.u64.wrap ((IntKind.u64.wrap ((a1.getD (IntKind.i64.wrap ((a1.length : Int) - 1)).toNat 0))) + 1)) == 0 then
        none
      else
        (swarfref01_by k a1 (IntKind.u32.wrap (IntKind.u64.wrap ((1000000000 : Int).tdiv (IntKind.u64.wrap ((IntKind.u64.wrap ((a1.getD (IntKind.i64.wrap ((a1.length : Int) - 1)).toNat 0))) + 1)))))).bind fun x62 =>
        bif ixOk (IntKind.i64.wrap ((x62.length : Int) - 1)) x62.length then
          bif (decide (0 ≤ IntKind.i64.wrap ((a0.length : Int) + 1))) && (decide (IntKind.i64.wrap ((a0.length : Int) + 1) ≤ IntKind.i64.wrap ((a0.length : Int) + 1)) && decide ((IntKind.i64.wrap ((a0.length : Int) + 1)) * ((4 : Nat) : Int) ≤ 281474976710656)) then
            (swarfref01_by k a0 (IntKind.u32.wrap (IntKind.u64.wrap ((1000000000 : Int).tdiv (IntKind.u64.wrap ((IntKind.u64.wrap ((a1.getD (IntKind.i64.wrap ((a1.length : Int) - 1)).toNat 0))) + 1)))))).bind fun x63 =>
            bif sliceOk (List.replicate (IntKind.i64.wrap ((a0.length : Int) + 1)).toNat (0 : Int)).length none (some (x63.length : Int)) none then
              (iter (fun (x114 : (Int × List Int × Int × List Int × List Int × List Int × Int × Unit)) => swarfref01_parts_L0_18 k x114.1 x114.2.1 x114.2.2.1 x114.2.2.2.1 x114.2.2.2.2.1 x114.2.2.2.2.2.1 x114.2.2.2.2.2.2.1) k (IntKind.u32.wrap (IntKind.u64.wrap ((1000000000 : Int).tdiv (IntKind.u64.wrap ((IntKind.u64.wrap ((a1.getD (IntKind.i64.wrap ((a1.length : Int) - 1)).toNat 0))) + 1)))), x62, IntKind.u64.wrap ((x62.getD (IntKind.i64.wrap ((x62.length : Int) - 1)).toNat 0)), [], ((List.replicate (IntKind.i64.wrap ((a0.length : Int) + 1)).toNat (0 : Int)).take (x63.length : Int).toNat), x63, IntKind.i64.wrap ((x63.length : Int) - 1), ())).bind fun x113 =>
              bif (decide (0 ≤ (x113.2.1.length : Int))) && (decide ((x113.2.1.length : Int) ≤ (x113.2.1.length : Int)) && decide ((x113.2.1.length : Int) * ((4 : Nat) : Int) ≤ 281474976710656)) then
                (iter (fun (x116 : (Int × List Int × List Int × Int × List Int × Int × Unit)) => swarfref01_parts_L4_19 k x116.1 x116.2.1 x116.2.2.1 x116.2.2.2.1 x116.2.2.2.2.1 x116.2.2.2.2.2.1) k (x113.1, x113.2.1, x113.2.2.1, 0, (List.replicate (x113.2.1.length : Int).toNat (0 : Int)), IntKind.i64.wrap ((x113.2.1.length : Int) - 1), ())).bind fun x115 =>
                (swarfref01_trim k x115.1).bind fun x117 =>
                (swarfref01_trim k x115.2.1).bind fun x118 =>
                some (x117, x118)
              else
                none
            else
              none
          else
            none
        else
          none
    else
      none
def swarfref01_GCD_L0 (k : Nat) (t4 : IntD) (t5 : List Int) (t6 : List Int) : Option ((IntD × List Int × List Int × Unit) ⊕ (IntD × List Int × List Int × Unit)) :=
  bif decide ((t6.length : Int) > 0) then
    bif decide ((t5.length : Int) > 2) then
      (swarfref01_parts k t5 t6).bind fun x1 =>
      some (.inl (t4, t6, x1.2, ()))
    else
      bif decide ((t6.length : Int) > 2) then
        (swarfref01_parts k t5 t6).bind fun x2 =>
        some (.inl (t4, t6, x2.2, ()))
      else
        some (.inr (t4, t5, t6, ()))
  else
    some (.inr (t4, t5, t6, ()))
def swarfref01_GCD_L2 (k : Nat) (t4 : IntD) (t9 : Int) (t10 : Int) : Option ((IntD × Int × Int × Unit) ⊕ (IntD × Int × Unit)) :=
  bif decide (t10 > 0) then
    bif t10 == 0 then
      none
    else
      some (.inl (t4, t10, t9.tmod t10, ()))
  else
    some (.inr (t4, t9, ()))
def swarfref01_GCD (k : Nat) (a0 : IntD) (a1 : IntD) : Option IntD :=
  (iter (fun (x4 : (IntD × List Int × List Int × Unit)) => swarfref01_GCD_L0 k x4.1 x4.2.1 x4.2.2.1) k ((⟨false, []⟩ : IntD), a0.limbs, a1.limbs, ())).bind fun x3 =>
  bif (x3.2.2.1.length : Int) == 0 then
    (swarfref01_signed k false x3.2.1).bind fun x5 =>
    some x5
  else
    (swarfref01_short k x3.2.1).bind fun x6 =>
    (swarfref01_short k x3.2.2.1).bind fun x7 =>
    (iter (fun (x9 : (IntD × Int × Int × Unit)) => swarfref01_GCD_L2 k x9.1 x9.2.1 x9.2.2.1) k (x3.1, x6, x7, ())).bind fun x8 =>
    (swarfref01_limbs k x8.2.1).bind fun x10 =>
    (swarfref01_signed k false x10).bind fun x11 =>
    some x11
def swarfref01_plus_L0 (k : Nat) (t0 : List Int) (t1 : List Int) (t5 : List Int) (t6 : Int) (t7 : Int) : Option ((List Int × List Int × List Int × Int × Int × Unit) ⊕ (List Int × List Int × Int × Unit)) :=
  bif decide (t7 < (t0.length : Int)) then
    bif ixOk t7 t0.length then
      bif decide (t7 < (t1.length : Int)) then
        bif ixOk t7 t1.length then
          bif ixOk t7 t5.length then
            some (.inl (t0, t1, (t5.set t7.toNat ((IntKind.u32.wrap ((IntKind.u32.wrap (t6 + (t0.getD t7.toNat 0))) + (t1.getD t7.toNat 0))).tmod 1000000000)), IntKind.u32.wrap ((IntKind.u32.wrap ((IntKind.u32.wrap (t6 + (t0.getD t7.toNat 0))) + (t1.getD t7.toNat 0))).tdiv 1000000000), IntKind.i64.wrap (t7 + 1), ()))
          else
            none
        else
          none
      else
        bif ixOk t7 t5.length then
          some (.inl (t0, t1, (t5.set t7.toNat ((IntKind.u32.wrap (t6 + (t0.getD t7.toNat 0))).tmod 1000000000)), IntKind.u32.wrap ((IntKind.u32.wrap (t6 + (t0.getD t7.toNat 0))).tdiv 1000000000), IntKind.i64.wrap (t7 + 1), ()))
        else
          none
    else
      none
  else
    some (.inr (t0, t5, t6, ()))
def swarfref01_plus_L0_1 (k : Nat) (t0 : List Int) (t1 : List Int) (t5 : List Int) (t6 : Int) (t7 : Int) : Option ((List Int × List Int × List Int × Int × Int × Unit) ⊕ (List Int × List Int × Int × Unit)) :=
  bif decide (t7 < (t0.length : Int)) then
    bif ixOk t7 t0.length then
      bif decide (t7 < (t1.length : Int)) then
        bif ixOk t7 t1.length then
          bif ixOk t7 t5.length then
            some (.inl (t0, t1, (t5.set t7.toNat ((IntKind.u32.wrap ((IntKind.u32.wrap (t6 + (t0.getD t7.toNat 0))) + (t1.getD t7.toNat 0))).tmod 1000000000)), IntKind.u32.wrap ((IntKind.u32.wrap ((IntKind.u32.wrap (t6 + (t0.getD t7.toNat 0))) + (t1.getD t7.toNat 0))).tdiv 1000000000), IntKind.i64.wrap (t7 + 1), ()))
          else
            none
        else
          none
      else
        bif ixOk t7 t5.length then
          some (.inl (t0, t1, (t5.set t7.toNat ((IntKind.u32.wrap (t6 + (t0.getD t7.toNat 0))).tmod 1000000000)), IntKind.u32.wrap ((IntKind.u32.wrap (t6 + (t0.getD t7.toNat 0))).tdiv 1000000000), IntKind.i64.wrap (t7 + 1), ()))
        else
          none
    else
      none
  else
    some (.inr (t0, t5, t6, ()))
def swarfref01_plus (k : Nat) (a0 : List Int) (a1 : List Int) : Option (List Int) :=
  bif decide ((a0.length : Int) < (a1.length : Int)) then
    bif (decide (0 ≤ IntKind.i64.wrap ((a1.length : Int) + 1))) && (decide (IntKind.i64.wrap ((a1.length : Int) + 1) ≤ IntKind.i64.wrap ((a1.length : Int) + 1)) && decide ((IntKind.i64.wrap ((a1.length : Int) + 1)) * ((4 : Nat) : Int) ≤ 281474976710656)) then
      (iter (fun (x2 : (List Int × List Int × List Int × Int × Int × Unit)) => swarfref01_plus_L0 k x2.1 x2.2.1 x2.2.2.1 x2.2.2.2.1 x2.2.2.2.2.1) k (a1, a0, (List.replicate (IntKind.i64.wrap ((a1.length : Int) + 1)).toNat (0 : Int)), 0, 0, ())).bind fun x1 =>
      bif ixOk (x1.1.length : Int) x1.2.1.length then
        (swarfref01_trim k (x1.2.1.set ((x1.1.length : Int).toNat) x1.2.2.1)).bind fun x3 =>
        some x3
      else
        none
    else
      none
  else
    bif (decide (0 ≤ IntKind.i64.wrap ((a0.length : Int) + 1))) && (decide (IntKind.i64.wrap ((a0.length : Int) + 1) ≤ IntKind.i64.wrap ((a0.length : Int) + 1)) && decide ((IntKind.i64.wrap ((a0.length : Int) + 1)) * ((4 : Nat) : Int) ≤ 281474976710656)) then
      (iter (fun (x5 : (List Int × List Int × List Int × Int × Int × Unit)) => swarfref01_plus_L0_1 k x5.1 x5.2.1 x5.2.2.1 x5.2.2.2.1 x5.2.2.2.2.1) k (a0, a1, (List.replicate (IntKind.i64.wrap ((a0.length : Int) + 1)).toNat (0 : Int)), 0, 0, ())).bind fun x4 =>
      bif ixOk (x4.1.length : Int) x4.2.1.length then
        (swarfref01_trim k (x4.2.1.set ((x4.1.length : Int).toNat) x4.2.2.1)).bind fun x6 =>
        some x6
      else
        none
    else
      none
def swarfref01_Add (k : Nat) (a0 : IntD) (a1 : IntD) : Option IntD :=
  bif a0.neg == a1.neg then
    (swarfref01_plus k a0.limbs a1.limbs).bind fun x1 =>
    (swarfref01_signed k a0.neg x1).bind fun x2 =>
    some x2
  else
    (swarfref01_compare k a0.limbs a1.limbs).bind fun x3 =>
    bif decide (x3 ≥ 0) then
      (swarfref01_minus k a0.limbs a1.limbs).bind fun x4 =>
      (swarfref01_signed k a0.neg x4).bind fun x5 =>
      some x5
    else
      (swarfref01_minus k a1.limbs a0.limbs).bind fun x6 =>
      (swarfref01_signed k a1.neg x6).bind fun x7 =>
      some x7
def swarfref01_Sub (k : Nat) (a0 : IntD) (a1 : IntD) : Option IntD :=
  (swarfref01_Neg k a1).bind fun x1 =>
  (swarfref01_Add k a0 x1).bind fun x2 =>
  some x2
def swarfref01_DivMod (k : Nat) (a0 : IntD) (a1 : IntD) : Option (IntD × IntD × Int) :=
  bif (a1.limbs.length : Int) == 0 then
    some ((⟨false, []⟩ : IntD), (⟨false, []⟩ : IntD), 6)
  else
    (swarfref01_parts k a0.limbs a1.limbs).bind fun x1 =>
    (swarfref01_signed k (!(a0.neg == a1.neg)) x1.1).bind fun x2 =>
    (swarfref01_signed k a0.neg x1.2).bind fun x3 =>
    bif decide ((x1.2.length : Int) > 0) then
      bif !(a0.neg == a1.neg) then
        (swarfref01_FromInt64 k 1).bind fun x4 =>
        (swarfref01_Sub k x2 x4).bind fun x5 =>
        (swarfref01_Add k x3 a1).bind fun x6 =>
        some (x5, x6, 0)
      else
        some (x2, x3, 0)
    else
      some (x2, x3, 0)
def swarfref02_Of (k : Nat) (a0 : IntD) (a1 : IntD) : Option RatD :=
  (swarfref01_Sign k a1).bind fun x1 =>
  bif decide (x1 < 0) then
    (swarfref01_Neg k a0).bind fun x2 =>
    (swarfref01_Neg k a1).bind fun x3 =>
    (swarfref01_GCD k x2 x3).bind fun x4 =>
    (swarfref01_DivMod k x2 x4).bind fun x5 =>
    (swarfref01_DivMod k x3 x4).bind fun x6 =>
    some (⟨x5.1, x6.1⟩ : RatD)
  else
    (swarfref01_GCD k a0 a1).bind fun x7 =>
    (swarfref01_DivMod k a0 x7).bind fun x8 =>
    (swarfref01_DivMod k a1 x7).bind fun x9 =>
    some (⟨x8.1, x9.1⟩ : RatD)
def swarfref02_Frac (k : Nat) (a0 : Int) (a1 : Int) : Option RatD :=
  bif a1 == 0 then
    (swarfref01_FromInt64 k 0).bind fun x1 =>
    (swarfref01_FromInt64 k 1).bind fun x2 =>
    (swarfref02_Of k x1 x2).bind fun x3 =>
    some x3
  else
    (swarfref01_FromInt64 k a0).bind fun x4 =>
    (swarfref01_FromInt64 k a1).bind fun x5 =>
    (swarfref02_Of k x4 x5).bind fun x6 =>
    some x6
def integer_Sign (k : Nat) (a0 : IntD) : Option Int :=
  bif a0.neg then
    some (-1)
  else
    bif decide ((a0.limbs.length : Int) > 0) then
      some 1
    else
      some 0
def rational_Sign (k : Nat) (a0 : RatD) : Option Int :=
  (integer_Sign k a0.num).bind fun x1 =>
  some x1
def integer_signed_L0 (k : Nat) (t0 : Bool) (t1 : List Int) (t4 : IntD) (t5 : Int) : Option ((Bool × List Int × IntD × Int × Unit) ⊕ (Bool × List Int × IntD × Int × Unit)) :=
  bif decide (t5 > 0) then
    bif ixOk (IntKind.i64.wrap (t5 - 1)) t1.length then
      bif (t1.getD (IntKind.i64.wrap (t5 - 1)).toNat 0) == 0 then
        some (.inl (t0, t1, t4, IntKind.i64.wrap (t5 - 1), ()))
      else
        some (.inr (t0, t1, t4, t5, ()))
    else
      none
  else
    some (.inr (t0, t1, t4, t5, ()))
def integer_signed (k : Nat) (a0 : Bool) (a1 : List Int) : Option IntD :=
  (iter (fun (x2 : (Bool × List Int × IntD × Int × Unit)) => integer_signed_L0 k x2.1 x2.2.1 x2.2.2.1 x2.2.2.2.1) k (a0, a1, (⟨false, []⟩ : IntD), (a1.length : Int), ())).bind fun x1 =>
  bif x1.1 then
    bif sliceOk x1.2.1.length none (some x1.2.2.2.1) (some x1.2.2.2.1) then
      some (⟨decide (x1.2.2.2.1 > 0), (x1.2.1.take x1.2.2.2.1.toNat)⟩ : IntD)
    else
      none
  else
    bif sliceOk x1.2.1.length none (some x1.2.2.2.1) (some x1.2.2.2.1) then
      some (⟨false, (x1.2.1.take x1.2.2.2.1.toNat)⟩ : IntD)
    else
      none
def integer_split (k : Nat) (a0 : Int) : Option (List Int) :=
  some ([IntKind.u32.wrap (a0.tmod 1000000000), IntKind.u32.wrap ((IntKind.u64.wrap (a0.tdiv 1000000000)).tmod 1000000000), IntKind.u32.wrap (IntKind.u64.wrap ((IntKind.u64.wrap (a0.tdiv 1000000000)).tdiv 1000000000))] : List Int)
def integer_FromInt64 (k : Nat) (a0 : Int) : Option IntD :=
  bif decide (a0 < 0) then
    (integer_split k (IntKind.u64.wrap (0 - (IntKind.u64.wrap (a0))))).bind fun x1 =>
    (integer_signed k (decide (a0 < 0)) x1).bind fun x2 =>
    some x2
  else
    (integer_split k (IntKind.u64.wrap (a0))).bind fun x3 =>
    (integer_signed k (decide (a0 < 0)) x3).bind fun x4 =>
    some x4
def integer_trim_L0 (k : Nat) (t0 : List Int) : Option ((List Int × Unit) ⊕ (List Int × Unit)) :=
  bif decide ((t0.length : Int) > 0) then
    bif ixOk (IntKind.i64.wrap ((t0.length : Int) - 1)) t0.length then
      bif (t0.getD (IntKind.i64.wrap ((t0.length : Int) - 1)).toNat 0) == 0 then
        bif sliceOk t0.length none (some (IntKind.i64.wrap ((t0.length : Int) - 1))) none then
          some (.inl ((t0.take (IntKind.i64.wrap ((t0.length : Int) - 1)).toNat), ()))
        else
          none
      else
        some (.inr (t0, ()))
    else
      none
  else
    some (.inr (t0, ()))
def integer_trim (k : Nat) (a0 : List Int) : Option (List Int) :=
  (iter (fun (x2 : (List Int × Unit)) => integer_trim_L0 k x2.1) k (a0, ())).bind fun x1 =>
  some x1.1
def integer_byWord_L0 (k : Nat) (t0 : List Int) (t1 : Int) (t6 : List Int) (t7 : Int) (t8 : Int) : Option ((List Int × Int × List Int × Int × Int × Unit) ⊕ (List Int × Int × Unit)) :=
  bif decide (t8 ≥ 0) then
    bif ixOk t8 t0.length then
      bif (IntKind.u64.wrap (t1)) == 0 then
        none
      else
        bif (IntKind.u64.wrap (t1)) == 0 then
          none
        else
          bif ixOk t8 t6.length then
            some (.inl (t0, t1, (t6.set t8.toNat (IntKind.u32.wrap (IntKind.u64.wrap ((IntKind.u64.wrap ((IntKind.u64.wrap (t7 * 1000000000)) + (IntKind.u64.wrap ((t0.getD t8.toNat 0))))).tdiv (IntKind.u64.wrap (t1)))))), (IntKind.u64.wrap ((IntKind.u64.wrap (t7 * 1000000000)) + (IntKind.u64.wrap ((t0.getD t8.toNat 0))))).tmod (IntKind.u64.wrap (t1)), IntKind.i64.wrap (t8 - 1), ()))
          else
            none
    else
      none
  else
    some (.inr (t6, t7, ()))
def integer_byWord (k : Nat) (a0 : List Int) (a1 : Int) : Option (List Int × List Int) :=
  bif (decide (0 ≤ (a0.length : Int))) && (decide ((a0.length : Int) ≤ (a0.length : Int)) && decide ((a0.length : Int) * ((4 : Nat) : Int) ≤ 281474976710656)) then
    (iter (fun (x2 : (List Int × Int × List Int × Int × Int × Unit)) => integer_byWord_L0 k x2.1 x2.2.1 x2.2.2.1 x2.2.2.2.1 x2.2.2.2.2.1) k (a0, a1, (List.replicate (a0.length : Int).toNat (0 : Int)), 0, IntKind.i64.wrap ((a0.length : Int) - 1), ())).bind fun x1 =>
    some (x1.1, ([IntKind.u32.wrap (x1.2.1)] : List Int))
  else
    none
def integer_compare_L0 (k : Nat) (t0 : List Int) (t1 : List Int) (t5 : Int) : Option ((List Int × List Int × Int × Unit) ⊕ ((Unit) ⊕ (Int × Unit))) :=
  bif decide (t5 ≥ 0) then
    bif ixOk t5 t0.length then
      bif ixOk t5 t1.length then
        bif decide ((t0.getD t5.toNat 0) < (t1.getD t5.toNat 0)) then
          some (.inr (.inr ((-1), ())))
        else
          bif ixOk t5 t0.length then
            bif ixOk t5 t1.length then
              bif decide ((t0.getD t5.toNat 0) > (t1.getD t5.toNat 0)) then
                some (.inr (.inr (1, ())))
              else
                some (.inl (t0, t1, IntKind.i64.wrap (t5 - 1), ()))
            else
              none
          else
            none
      else
        none
    else
      none
  else
    some (.inr (.inl (())))
def integer_compare (k : Nat) (a0 : List Int) (a1 : List Int) : Option Int :=
  (integer_trim k a0).bind fun x1 =>
  (integer_trim k a1).bind fun x2 =>
  bif (x1.length : Int) != (x2.length : Int) then
    bif decide ((x1.length : Int) < (x2.length : Int)) then
      some (-1)
    else
      some 1
  else
    (iter (fun (x4 : (List Int × List Int × Int × Unit)) => integer_compare_L0 k x4.1 x4.2.1 x4.2.2.1) k (x1, x2, IntKind.i64.wrap ((x1.length : Int) - 1), ())).bind fun x3 =>
    match x3 with
    | .inl x5 =>
      some 0
    | .inr x6 =>
      some x6.1
def integer_times_L2 (k : Nat) (t1 : List Int) (t5 : List Int) (t6 : Int) (t7 : Int) (t8 : Int) (t18 : List Int) (t19 : Int) (t20 : Int) (t25 : List Int) (t26 : Int) (t27 : Int) : Option ((List Int × List Int × Int × Int × Int × List Int × Int × Int × List Int × Int × Int × Unit) ⊕ (List Int × List Int × Int × Int × List Int × Int × Int × Unit)) :=
  bif decide (t27 < t26) then
    bif ixOk t27 t25.length then
      bif ixOk (IntKind.i64.wrap (t6 + t27)) t5.length then
        bif ixOk (IntKind.i64.wrap (t6 + t27)) t5.length then
          some (.inl (t1, (t5.set ((IntKind.i64.wrap (t6 + t27)).toNat) (IntKind.u32.wrap ((IntKind.u64.wrap ((IntKind.u64.wrap ((IntKind.u64.wrap ((t5.getD ((IntKind.i64.wrap (t6 + t27)).toNat) 0))) + (IntKind.u64.wrap ((IntKind.u64.wrap (t7)) * (IntKind.u64.wrap ((t25.getD t27.toNat 0))))))) + t8)).tmod 1000000000))), t6, t7, IntKind.u64.wrap ((IntKind.u64.wrap ((IntKind.u64.wrap ((IntKind.u64.wrap ((t5.getD ((IntKind.i64.wrap (t6 + t27)).toNat) 0))) + (IntKind.u64.wrap ((IntKind.u64.wrap (t7)) * (IntKind.u64.wrap ((t25.getD t27.toNat 0))))))) + t8)).tdiv 1000000000), t18, t19, t20, t25, t26, IntKind.i64.wrap (t27 + 1), ()))
        else
          none
      else
        none
    else
      none
  else
    some (.inr (t1, t5, t6, t8, t18, t19, t20, ()))
def integer_times_L0 (k : Nat) (t1 : List Int) (t5 : List Int) (t18 : List Int) (t19 : Int) (t20 : Int) : Option ((List Int × List Int × List Int × Int × Int × Unit) ⊕ (List Int × Unit)) :=
  bif decide (t20 < t19) then
    bif ixOk t20 t18.length then
      (iter (fun (x2 : (List Int × List Int × Int × Int × Int × List Int × Int × Int × List Int × Int × Int × Unit)) => integer_times_L2 k x2.1 x2.2.1 x2.2.2.1 x2.2.2.2.1 x2.2.2.2.2.1 x2.2.2.2.2.2.1 x2.2.2.2.2.2.2.1 x2.2.2.2.2.2.2.2.1 x2.2.2.2.2.2.2.2.2.1 x2.2.2.2.2.2.2.2.2.2.1 x2.2.2.2.2.2.2.2.2.2.2.1) k (t1, t5, t20, (t18.getD t20.toNat 0), 0, t18, t19, t20, t1, (t1.length : Int), 0, ())).bind fun x1 =>
      bif ixOk (IntKind.i64.wrap (x1.2.2.1 + (x1.1.length : Int))) x1.2.1.length then
        some (.inl (x1.1, (x1.2.1.set ((IntKind.i64.wrap (x1.2.2.1 + (x1.1.length : Int))).toNat) (IntKind.u32.wrap (x1.2.2.2.1))), x1.2.2.2.2.1, x1.2.2.2.2.2.1, IntKind.i64.wrap (x1.2.2.2.2.2.2.1 + 1), ()))
      else
        none
    else
      none
  else
    some (.inr (t5, ()))
def integer_times (k : Nat) (a0 : List Int) (a1 : List Int) : Option (List Int) :=
  bif (decide (0 ≤ IntKind.i64.wrap ((a0.length : Int) + (a1.length : Int)))) && (decide (IntKind.i64.wrap ((a0.length : Int) + (a1.length : Int)) ≤ IntKind.i64.wrap ((a0.length : Int) + (a1.length : Int))) && decide ((IntKind.i64.wrap ((a0.length : Int) + (a1.length : Int))) * ((4 : Nat) : Int) ≤ 281474976710656)) then
    (iter (fun (x4 : (List Int × List Int × List Int × Int × Int × Unit)) => integer_times_L0 k x4.1 x4.2.1 x4.2.2.1 x4.2.2.2.1 x4.2.2.2.2.1) k (a1, (List.replicate (IntKind.i64.wrap ((a0.length : Int) + (a1.length : Int))).toNat (0 : Int)), a0, (a0.length : Int), 0, ())).bind fun x3 =>
    some x3.1
  else
    none
def integer_subtract_L0 (k : Nat) (t0 : List Int) (t1 : List Int) (t2 : Int) (t7 : Int) (t8 : Int) (t14 : Int) (t15 : Int) : Option ((List Int × List Int × Int × Int × Int × Int × Int × Unit) ⊕ (List Int × Int × Int × Unit)) :=
  bif decide (t15 < t14) then
    bif decide (t15 < (t1.length : Int)) then
      bif ixOk t15 t1.length then
        bif ixOk t15 t0.length then
          bif decide ((IntKind.u64.wrap ((t0.getD t15.toNat 0))) < (IntKind.u64.wrap (((IntKind.u64.wrap (t7 + (IntKind.u64.wrap ((IntKind.u64.wrap ((t1.getD t15.toNat 0))) * t2)))).tmod 1000000000) + t8))) then
            bif ixOk t15 t0.length then
              some (.inl ((t0.set t15.toNat (IntKind.u32.wrap (IntKind.u64.wrap ((IntKind.u64.wrap ((IntKind.u64.wrap ((t0.getD t15.toNat 0))) + 1000000000)) - (IntKind.u64.wrap (((IntKind.u64.wrap (t7 + (IntKind.u64.wrap ((IntKind.u64.wrap ((t1.getD t15.toNat 0))) * t2)))).tmod 1000000000) + t8)))))), t1, t2, IntKind.u64.wrap ((IntKind.u64.wrap (t7 + (IntKind.u64.wrap ((IntKind.u64.wrap ((t1.getD t15.toNat 0))) * t2)))).tdiv 1000000000), 1, t14, IntKind.i64.wrap (t15 + 1), ()))
            else
              none
          else
            bif ixOk t15 t0.length then
              some (.inl ((t0.set t15.toNat (IntKind.u32.wrap (IntKind.u64.wrap ((IntKind.u64.wrap ((t0.getD t15.toNat 0))) - (IntKind.u64.wrap (((IntKind.u64.wrap (t7 + (IntKind.u64.wrap ((IntKind.u64.wrap ((t1.getD t15.toNat 0))) * t2)))).tmod 1000000000) + t8)))))), t1, t2, IntKind.u64.wrap ((IntKind.u64.wrap (t7 + (IntKind.u64.wrap ((IntKind.u64.wrap ((t1.getD t15.toNat 0))) * t2)))).tdiv 1000000000), 0, t14, IntKind.i64.wrap (t15 + 1), ()))
            else
              none
        else
          none
      else
        none
    else
      bif ixOk t15 t0.length then
        bif decide ((IntKind.u64.wrap ((t0.getD t15.toNat 0))) < (IntKind.u64.wrap ((t7.tmod 1000000000) + t8))) then
          bif ixOk t15 t0.length then
            some (.inl ((t0.set t15.toNat (IntKind.u32.wrap (IntKind.u64.wrap ((IntKind.u64.wrap ((IntKind.u64.wrap ((t0.getD t15.toNat 0))) + 1000000000)) - (IntKind.u64.wrap ((t7.tmod 1000000000) + t8)))))), t1, t2, IntKind.u64.wrap (t7.tdiv 1000000000), 1, t14, IntKind.i64.wrap (t15 + 1), ()))
          else
            none
        else
          bif ixOk t15 t0.length then
            some (.inl ((t0.set t15.toNat (IntKind.u32.wrap (IntKind.u64.wrap ((IntKind.u64.wrap ((t0.getD t15.toNat 0))) - (IntKind.u64.wrap ((t7.tmod 1000000000) + t8)))))), t1, t2, IntKind.u64.wrap (t7.tdiv 1000000000), 0, t14, IntKind.i64.wrap (t15 + 1), ()))
          else
            none
      else
        none
  else
    some (.inr (t0, t7, t8, ()))
def integer_subtract (k : Nat) (a0 : List Int) (a1 : List Int) (a2 : Int) : Option ((Bool) × List Int) :=
  (iter (fun (x2 : (List Int × List Int × Int × Int × Int × Int × Int × Unit)) => integer_subtract_L0 k x2.1 x2.2.1 x2.2.2.1 x2.2.2.2.1 x2.2.2.2.2.1 x2.2.2.2.2.2.1 x2.2.2.2.2.2.2.1) k (a0, a1, a2, 0, 0, (a0.length : Int), 0, ())).bind fun x1 =>
  bif decide (x1.2.2.1 > 0) then
    bif Nat.beq x1.1.length a0.length then
      some (true, x1.1)
    else
      none
  else
    bif Nat.beq x1.1.length a0.length then
      some (decide (x1.2.1 > 0), x1.1)
    else
      none
def integer_restore_L0 (k : Nat) (t0 : List Int) (t1 : List Int) (t4 : Int) (t8 : Int) (t9 : Int) : Option ((List Int × List Int × Int × Int × Int × Unit) ⊕ (List Int × Unit)) :=
  bif decide (t9 < t8) then
    bif ixOk t9 t0.length then
      bif decide (t9 < (t1.length : Int)) then
        bif ixOk t9 t1.length then
          bif decide ((IntKind.u32.wrap ((IntKind.u32.wrap ((t0.getD t9.toNat 0) + t4)) + (t1.getD t9.toNat 0))) ≥ 1000000000) then
            bif ixOk t9 t0.length then
              some (.inl ((t0.set t9.toNat (IntKind.u32.wrap ((IntKind.u32.wrap ((IntKind.u32.wrap ((t0.getD t9.toNat 0) + t4)) + (t1.getD t9.toNat 0))) - 1000000000))), t1, 1, t8, IntKind.i64.wrap (t9 + 1), ()))
            else
              none
          else
            bif ixOk t9 t0.length then
              some (.inl ((t0.set t9.toNat (IntKind.u32.wrap ((IntKind.u32.wrap ((t0.getD t9.toNat 0) + t4)) + (t1.getD t9.toNat 0)))), t1, 0, t8, IntKind.i64.wrap (t9 + 1), ()))
            else
              none
        else
          none
      else
        bif decide ((IntKind.u32.wrap ((t0.getD t9.toNat 0) + t4)) ≥ 1000000000) then
          bif ixOk t9 t0.length then
            some (.inl ((t0.set t9.toNat (IntKind.u32.wrap ((IntKind.u32.wrap ((t0.getD t9.toNat 0) + t4)) - 1000000000))), t1, 1, t8, IntKind.i64.wrap (t9 + 1), ()))
          else
            none
        else
          bif ixOk t9 t0.length then
            some (.inl ((t0.set t9.toNat (IntKind.u32.wrap ((t0.getD t9.toNat 0) + t4))), t1, 0, t8, IntKind.i64.wrap (t9 + 1), ()))
          else
            none
    else
      none
  else
    some (.inr (t0, ()))
def integer_restore (k : Nat) (a0 : List Int) (a1 : List Int) : Option ((Unit) × List Int) :=
  (iter (fun (x2 : (List Int × List Int × Int × Int × Int × Unit)) => integer_restore_L0 k x2.1 x2.2.1 x2.2.2.1 x2.2.2.2.1 x2.2.2.2.2.1) k (a0, a1, 0, (a0.length : Int), 0, ())).bind fun x1 =>
  bif Nat.beq x1.1.length a0.length then
    some ((), x1.1)
  else
    none
def integer_divide_L2 (k : Nat) (t6 : Int) (t7 : Int) (t8 : List Int) (t9 : List Int) (t10 : List Int) (t11 : Int) (t13 : Int) (t14 : Int) : Option ((Int × Int × List Int × List Int × List Int × Int × Int × Int × Unit) ⊕ (Int × Int × List Int × List Int × List Int × Int × Int × Unit)) :=
  bif decide (t13 ≥ 1000000000) then
    bif ixOk (IntKind.i64.wrap (t6 - 1)) t9.length then
      bif decide ((IntKind.u64.wrap (t14 + (IntKind.u64.wrap ((t9.getD (IntKind.i64.wrap (t6 - 1)).toNat 0))))) ≥ 1000000000) then
        some (.inr (t6, t7, t8, t9, t10, t11, IntKind.u64.wrap (t13 - 1), ()))
      else
        some (.inl (t6, t7, t8, t9, t10, t11, IntKind.u64.wrap (t13 - 1), IntKind.u64.wrap (t14 + (IntKind.u64.wrap ((t9.getD (IntKind.i64.wrap (t6 - 1)).toNat 0)))), ()))
    else
      none
  else
    bif ixOk (IntKind.i64.wrap (t6 - 2)) t9.length then
      bif ixOk (IntKind.i64.wrap ((IntKind.i64.wrap (t11 + t6)) - 2)) t8.length then
        bif decide ((IntKind.u64.wrap (t13 * (IntKind.u64.wrap ((t9.getD (IntKind.i64.wrap (t6 - 2)).toNat 0))))) > (IntKind.u64.wrap ((IntKind.u64.wrap (t14 * 1000000000)) + (IntKind.u64.wrap ((t8.getD ((IntKind.i64.wrap ((IntKind.i64.wrap (t11 + t6)) - 2)).toNat) 0)))))) then
          bif ixOk (IntKind.i64.wrap (t6 - 1)) t9.length then
            bif decide ((IntKind.u64.wrap (t14 + (IntKind.u64.wrap ((t9.getD (IntKind.i64.wrap (t6 - 1)).toNat 0))))) ≥ 1000000000) then
              some (.inr (t6, t7, t8, t9, t10, t11, IntKind.u64.wrap (t13 - 1), ()))
            else
              some (.inl (t6, t7, t8, t9, t10, t11, IntKind.u64.wrap (t13 - 1), IntKind.u64.wrap (t14 + (IntKind.u64.wrap ((t9.getD (IntKind.i64.wrap (t6 - 1)).toNat 0)))), ()))
          else
            none
        else
          some (.inr (t6, t7, t8, t9, t10, t11, t13, ()))
      else
        none
    else
      none
def integer_divide_L0 (k : Nat) (t6 : Int) (t7 : Int) (t8 : List Int) (t9 : List Int) (t10 : List Int) (t11 : Int) : Option ((Int × Int × List Int × List Int × List Int × Int × Unit) ⊕ (Int × Int × List Int × List Int × Unit)) :=
  bif decide (t11 ≥ 0) then
    bif ixOk (IntKind.i64.wrap (t11 + t6)) t8.length then
      bif ixOk (IntKind.i64.wrap ((IntKind.i64.wrap (t11 + t6)) - 1)) t8.length then
        bif ixOk (IntKind.i64.wrap (t6 - 1)) t9.length then
          bif (IntKind.u64.wrap ((t9.getD (IntKind.i64.wrap (t6 - 1)).toNat 0))) == 0 then
            none
          else
            bif ixOk (IntKind.i64.wrap (t6 - 1)) t9.length then
              bif (IntKind.u64.wrap ((t9.getD (IntKind.i64.wrap (t6 - 1)).toNat 0))) == 0 then
                none
              else
                (iter (fun (x9 : (Int × Int × List Int × List Int × List Int × Int × Int × Int × Unit)) => integer_divide_L2 k x9.1 x9.2.1 x9.2.2.1 x9.2.2.2.1 x9.2.2.2.2.1 x9.2.2.2.2.2.1 x9.2.2.2.2.2.2.1 x9.2.2.2.2.2.2.2.1) k (t6, t7, t8, t9, t10, t11, IntKind.u64.wrap ((IntKind.u64.wrap ((IntKind.u64.wrap ((IntKind.u64.wrap ((t8.getD ((IntKind.i64.wrap (t11 + t6)).toNat) 0))) * 1000000000)) + (IntKind.u64.wrap ((t8.getD ((IntKind.i64.wrap ((IntKind.i64.wrap (t11 + t6)) - 1)).toNat) 0))))).tdiv (IntKind.u64.wrap ((t9.getD (IntKind.i64.wrap (t6 - 1)).toNat 0)))), (IntKind.u64.wrap ((IntKind.u64.wrap ((IntKind.u64.wrap ((t8.getD ((IntKind.i64.wrap (t11 + t6)).toNat) 0))) * 1000000000)) + (IntKind.u64.wrap ((t8.getD ((IntKind.i64.wrap ((IntKind.i64.wrap (t11 + t6)) - 1)).toNat) 0))))).tmod (IntKind.u64.wrap ((t9.getD (IntKind.i64.wrap (t6 - 1)).toNat 0))), ())).bind fun x8 =>
                bif sliceOk x8.2.2.1.length (some x8.2.2.2.2.2.1) (some (IntKind.i64.wrap ((IntKind.i64.wrap (x8.2.2.2.2.2.1 + x8.1)) + 1))) none then
                  bif decide (x8.2.2.2.2.2.1.toNat < (IntKind.i64.wrap ((IntKind.i64.wrap (x8.2.2.2.2.2.1 + x8.1)) + 1)).toNat) && decide ((IntKind.i64.wrap ((IntKind.i64.wrap (x8.2.2.2.2.2.1 + x8.1)) + 1)).toNat ≤ x8.2.2.1.length) then
                    (integer_subtract k ((x8.2.2.1.take ((IntKind.i64.wrap ((IntKind.i64.wrap (x8.2.2.2.2.2.1 + x8.1)) + 1)).toNat)).drop x8.2.2.2.2.2.1.toNat) x8.2.2.2.1 x8.2.2.2.2.2.2.1).bind fun x10 =>
                    bif x10.1 then
                      bif sliceOk (x8.2.2.1.take x8.2.2.2.2.2.1.toNat ++ x10.2 ++ x8.2.2.1.drop ((IntKind.i64.wrap ((IntKind.i64.wrap (x8.2.2.2.2.2.1 + x8.1)) + 1)).toNat)).length (some x8.2.2.2.2.2.1) (some (IntKind.i64.wrap ((IntKind.i64.wrap (x8.2.2.2.2.2.1 + x8.1)) + 1))) none then
                        bif decide (x8.2.2.2.2.2.1.toNat < (IntKind.i64.wrap ((IntKind.i64.wrap (x8.2.2.2.2.2.1 + x8.1)) + 1)).toNat) && decide ((IntKind.i64.wrap ((IntKind.i64.wrap (x8.2.2.2.2.2.1 + x8.1)) + 1)).toNat ≤ (x8.2.2.1.take x8.2.2.2.2.2.1.toNat ++ x10.2 ++ x8.2.2.1.drop ((IntKind.i64.wrap ((IntKind.i64.wrap (x8.2.2.2.2.2.1 + x8.1)) + 1)).toNat)).length) then
                          (integer_restore k (((x8.2.2.1.take x8.2.2.2.2.2.1.toNat ++ x10.2 ++ x8.2.2.1.drop ((IntKind.i64.wrap ((IntKind.i64.wrap (x8.2.2.2.2.2.1 + x8.1)) + 1)).toNat)).take ((IntKind.i64.wrap ((IntKind.i64.wrap (x8.2.2.2.2.2.1 + x8.1)) + 1)).toNat)).drop x8.2.2.2.2.2.1.toNat) x8.2.2.2.1).bind fun x11 =>
                          bif ixOk x8.2.2.2.2.2.1 x8.2.2.2.2.1.length then
                            some (.inl (x8.1, x8.2.1, ((x8.2.2.1.take x8.2.2.2.2.2.1.toNat ++ x10.2 ++ x8.2.2.1.drop ((IntKind.i64.wrap ((IntKind.i64.wrap (x8.2.2.2.2.2.1 + x8.1)) + 1)).toNat)).take x8.2.2.2.2.2.1.toNat ++ x11.2 ++ (x8.2.2.1.take x8.2.2.2.2.2.1.toNat ++ x10.2 ++ x8.2.2.1.drop ((IntKind.i64.wrap ((IntKind.i64.wrap (x8.2.2.2.2.2.1 + x8.1)) + 1)).toNat)).drop ((IntKind.i64.wrap ((IntKind.i64.wrap (x8.2.2.2.2.2.1 + x8.1)) + 1)).toNat)), x8.2.2.2.1, (x8.2.2.2.2.1.set x8.2.2.2.2.2.1.toNat (IntKind.u32.wrap (IntKind.u64.wrap (x8.2.2.2.2.2.2.1 - 1)))), IntKind.i64.wrap (x8.2.2.2.2.2.1 - 1), ()))
                          else
                            none
                        else
                          none
                      else
                        none
                    else
                      bif ixOk x8.2.2.2.2.2.1 x8.2.2.2.2.1.length then
                        some (.inl (x8.1, x8.2.1, (x8.2.2.1.take x8.2.2.2.2.2.1.toNat ++ x10.2 ++ x8.2.2.1.drop ((IntKind.i64.wrap ((IntKind.i64.wrap (x8.2.2.2.2.2.1 + x8.1)) + 1)).toNat)), x8.2.2.2.1, (x8.2.2.2.2.1.set x8.2.2.2.2.2.1.toNat (IntKind.u32.wrap (x8.2.2.2.2.2.2.1))), IntKind.i64.wrap (x8.2.2.2.2.2.1 - 1), ()))
                      else
                        none
                  else
                    none
                else
                  none
            else
              none
        else
          none
      else
        none
    else
      none
  else
    some (.inr (t6, t7, t8, t10, ()))
def integer_divide (k : Nat) (a0 : List Int) (a1 : List Int) : Option (List Int × List Int) :=
  (integer_trim k a0).bind fun x1 =>
  (integer_trim k a1).bind fun x2 =>
  bif (x2.length : Int) == 1 then
    bif ixOk 0 x2.length then
      (integer_byWord k x1 (x2.getD 0 0)).bind fun x3 =>
      some (x3.1, x3.2)
    else
      none
  else
    (integer_compare k x1 x2).bind fun x4 =>
    bif decide (x4 < 0) then
      bif decide ((([] : List Int).length + x1.length) * 4 ≤ 140737488355328) then
        some ([], x1)
      else
        none
    else
      bif ixOk (IntKind.i64.wrap ((x2.length : Int) - 1)) x2.length then
        bif (IntKind.u64.wrap ((IntKind.u64.wrap ((x2.getD (IntKind.i64.wrap ((x2.length : Int) - 1)).toNat 0))) + 1)) == 0 then
          none
        else
          (integer_times k x1 ([IntKind.u32.wrap (IntKind.u64.wrap ((1000000000 : Int).tdiv (IntKind.u64.wrap ((IntKind.u64.wrap ((x2.getD (IntKind.i64.wrap ((x2.length : Int) - 1)).toNat 0))) + 1))))] : List Int)).bind fun x5 =>
          bif decide ((x5.length + ([0] : List Int).length) * 4 ≤ 140737488355328) then
            (integer_times k x2 ([IntKind.u32.wrap (IntKind.u64.wrap ((1000000000 : Int).tdiv (IntKind.u64.wrap ((IntKind.u64.wrap ((x2.getD (IntKind.i64.wrap ((x2.length : Int) - 1)).toNat 0))) + 1))))] : List Int)).bind fun x6 =>
            (integer_trim k x6).bind fun x7 =>
            bif (decide (0 ≤ IntKind.i64.wrap (((x5 ++ ([0] : List Int)).length : Int) - (x2.length : Int)))) && (decide (IntKind.i64.wrap (((x5 ++ ([0] : List Int)).length : Int) - (x2.length : Int)) ≤ IntKind.i64.wrap (((x5 ++ ([0] : List Int)).length : Int) - (x2.length : Int))) && decide ((IntKind.i64.wrap (((x5 ++ ([0] : List Int)).length : Int) - (x2.length : Int))) * ((4 : Nat) : Int) ≤ 281474976710656)) then
              (iter (fun (x13 : (Int × Int × List Int × List Int × List Int × Int × Unit)) => integer_divide_L0 k x13.1 x13.2.1 x13.2.2.1 x13.2.2.2.1 x13.2.2.2.2.1 x13.2.2.2.2.2.1) k ((x2.length : Int), IntKind.u32.wrap (IntKind.u64.wrap ((1000000000 : Int).tdiv (IntKind.u64.wrap ((IntKind.u64.wrap ((x2.getD (IntKind.i64.wrap ((x2.length : Int) - 1)).toNat 0))) + 1)))), (x5 ++ ([0] : List Int)), x7, (List.replicate (IntKind.i64.wrap (((x5 ++ ([0] : List Int)).length : Int) - (x2.length : Int))).toNat (0 : Int)), IntKind.i64.wrap ((IntKind.i64.wrap (((x5 ++ ([0] : List Int)).length : Int) - (x2.length : Int))) - 1), ())).bind fun x12 =>
              bif sliceOk x12.2.2.1.length none (some x12.1) none then
                (integer_trim k ((x12.2.2.1.take x12.1.toNat).drop 0)).bind fun x14 =>
                (integer_byWord k x14 x12.2.1).bind fun x15 =>
                some (x12.2.2.2.1, x15.1)
              else
                none
            else
              none
          else
            none
      else
        none
def integer_plus_L0 (k : Nat) (t1 : List Int) (t5 : List Int) (t6 : Int) (t20 : List Int) (t21 : Int) (t22 : Int) : Option ((List Int × List Int × Int × List Int × Int × Int × Unit) ⊕ (List Int × Int × Unit)) :=
  bif decide (t22 < t21) then
    bif ixOk t22 t20.length then
      bif decide (t22 < (t1.length : Int)) then
        bif ixOk t22 t1.length then
          bif decide ((IntKind.u32.wrap ((IntKind.u32.wrap ((t20.getD t22.toNat 0) + t6)) + (t1.getD t22.toNat 0))) ≥ 1000000000) then
            bif decide ((t5.length + ([IntKind.u32.wrap ((IntKind.u32.wrap ((IntKind.u32.wrap ((t20.getD t22.toNat 0) + t6)) + (t1.getD t22.toNat 0))) - 1000000000)] : List Int).length) * 4 ≤ 140737488355328) then
              some (.inl (t1, (t5 ++ ([IntKind.u32.wrap ((IntKind.u32.wrap ((IntKind.u32.wrap ((t20.getD t22.toNat 0) + t6)) + (t1.getD t22.toNat 0))) - 1000000000)] : List Int)), 1, t20, t21, IntKind.i64.wrap (t22 + 1), ()))
            else
              none
          else
            bif decide ((t5.length + ([IntKind.u32.wrap ((IntKind.u32.wrap ((t20.getD t22.toNat 0) + t6)) + (t1.getD t22.toNat 0))] : List Int).length) * 4 ≤ 140737488355328) then
              some (.inl (t1, (t5 ++ ([IntKind.u32.wrap ((IntKind.u32.wrap ((t20.getD t22.toNat 0) + t6)) + (t1.getD t22.toNat 0))] : List Int)), 0, t20, t21, IntKind.i64.wrap (t22 + 1), ()))
            else
              none
        else
          none
      else
        bif decide ((IntKind.u32.wrap ((t20.getD t22.toNat 0) + t6)) ≥ 1000000000) then
          bif decide ((t5.length + ([IntKind.u32.wrap ((IntKind.u32.wrap ((t20.getD t22.toNat 0) + t6)) - 1000000000)] : List Int).length) * 4 ≤ 140737488355328) then
            some (.inl (t1, (t5 ++ ([IntKind.u32.wrap ((IntKind.u32.wrap ((t20.getD t22.toNat 0) + t6)) - 1000000000)] : List Int)), 1, t20, t21, IntKind.i64.wrap (t22 + 1), ()))
          else
            none
        else
          bif decide ((t5.length + ([IntKind.u32.wrap ((t20.getD t22.toNat 0) + t6)] : List Int).length) * 4 ≤ 140737488355328) then
            some (.inl (t1, (t5 ++ ([IntKind.u32.wrap ((t20.getD t22.toNat 0) + t6)] : List Int)), 0, t20, t21, IntKind.i64.wrap (t22 + 1), ()))
          else
            none
    else
      none
  else
    some (.inr (t5, t6, ()))
def integer_plus_L0_1 (k : Nat) (t1 : List Int) (t5 : List Int) (t6 : Int) (t20 : List Int) (t21 : Int) (t22 : Int) : Option ((List Int × List Int × Int × List Int × Int × Int × Unit) ⊕ (List Int × Int × Unit)) :=
  bif decide (t22 < t21) then
    bif ixOk t22 t20.length then
      bif decide (t22 < (t1.length : Int)) then
        bif ixOk t22 t1.length then
          bif decide ((IntKind.u32.wrap ((IntKind.u32.wrap ((t20.getD t22.toNat 0) + t6)) + (t1.getD t22.toNat 0))) ≥ 1000000000) then
            bif decide ((t5.length + ([IntKind.u32.wrap ((IntKind.u32.wrap ((IntKind.u32.wrap ((t20.getD t22.toNat 0) + t6)) + (t1.getD t22.toNat 0))) - 1000000000)] : List Int).length) * 4 ≤ 140737488355328) then
              some (.inl (t1, (t5 ++ ([IntKind.u32.wrap ((IntKind.u32.wrap ((IntKind.u32.wrap ((t20.getD t22.toNat 0) + t6)) + (t1.getD t22.toNat 0))) - 1000000000)] : List Int)), 1, t20, t21, IntKind.i64.wrap (t22 + 1), ()))
            else
              none
          else
            bif decide ((t5.length + ([IntKind.u32.wrap ((IntKind.u32.wrap ((t20.getD t22.toNat 0) + t6)) + (t1.getD t22.toNat 0))] : List Int).length) * 4 ≤ 140737488355328) then
              some (.inl (t1, (t5 ++ ([IntKind.u32.wrap ((IntKind.u32.wrap ((t20.getD t22.toNat 0) + t6)) + (t1.getD t22.toNat 0))] : List Int)), 0, t20, t21, IntKind.i64.wrap (t22 + 1), ()))
            else
              none
        else
          none
      else
        bif decide ((IntKind.u32.wrap ((t20.getD t22.toNat 0) + t6)) ≥ 1000000000) then
          bif decide ((t5.length + ([IntKind.u32.wrap ((IntKind.u32.wrap ((t20.getD t22.toNat 0) + t6)) - 1000000000)] : List Int).length) * 4 ≤ 140737488355328) then
            some (.inl (t1, (t5 ++ ([IntKind.u32.wrap ((IntKind.u32.wrap ((t20.getD t22.toNat 0) + t6)) - 1000000000)] : List Int)), 1, t20, t21, IntKind.i64.wrap (t22 + 1), ()))
          else
            none
        else
          bif decide ((t5.length + ([IntKind.u32.wrap ((t20.getD t22.toNat 0) + t6)] : List Int).length) * 4 ≤ 140737488355328) then
            some (.inl (t1, (t5 ++ ([IntKind.u32.wrap ((t20.getD t22.toNat 0) + t6)] : List Int)), 0, t20, t21, IntKind.i64.wrap (t22 + 1), ()))
          else
            none
    else
      none
  else
    some (.inr (t5, t6, ()))
def integer_plus (k : Nat) (a0 : List Int) (a1 : List Int) : Option (List Int) :=
  bif decide ((a0.length : Int) < (a1.length : Int)) then
    bif (decide (0 ≤ 0)) && (decide (0 ≤ IntKind.i64.wrap ((a1.length : Int) + 1)) && decide ((IntKind.i64.wrap ((a1.length : Int) + 1)) * ((4 : Nat) : Int) ≤ 281474976710656)) then
      (iter (fun (x2 : (List Int × List Int × Int × List Int × Int × Int × Unit)) => integer_plus_L0 k x2.1 x2.2.1 x2.2.2.1 x2.2.2.2.1 x2.2.2.2.2.1 x2.2.2.2.2.2.1) k (a0, (List.replicate 0 (0 : Int)), 0, a1, (a1.length : Int), 0, ())).bind fun x1 =>
      bif decide ((x1.1.length + ([x1.2.1] : List Int).length) * 4 ≤ 140737488355328) then
        some (x1.1 ++ ([x1.2.1] : List Int))
      else
        none
    else
      none
  else
    bif (decide (0 ≤ 0)) && (decide (0 ≤ IntKind.i64.wrap ((a0.length : Int) + 1)) && decide ((IntKind.i64.wrap ((a0.length : Int) + 1)) * ((4 : Nat) : Int) ≤ 281474976710656)) then
      (iter (fun (x4 : (List Int × List Int × Int × List Int × Int × Int × Unit)) => integer_plus_L0_1 k x4.1 x4.2.1 x4.2.2.1 x4.2.2.2.1 x4.2.2.2.2.1 x4.2.2.2.2.2.1) k (a1, (List.replicate 0 (0 : Int)), 0, a0, (a0.length : Int), 0, ())).bind fun x3 =>
      bif decide ((x3.1.length + ([x3.2.1] : List Int).length) * 4 ≤ 140737488355328) then
        some (x3.1 ++ ([x3.2.1] : List Int))
      else
        none
    else
      none
def integer_minus_L0 (k : Nat) (t1 : List Int) (t5 : List Int) (t6 : Int) (t13 : List Int) (t14 : Int) (t15 : Int) : Option ((List Int × List Int × Int × List Int × Int × Int × Unit) ⊕ (List Int × Unit)) :=
  bif decide (t15 < t14) then
    bif ixOk t15 t13.length then
      bif decide (t15 < (t1.length : Int)) then
        bif ixOk t15 t1.length then
          bif decide ((t13.getD t15.toNat 0) < (IntKind.u32.wrap (t6 + (t1.getD t15.toNat 0)))) then
            bif ixOk t15 t5.length then
              some (.inl (t1, (t5.set t15.toNat (IntKind.u32.wrap ((IntKind.u32.wrap ((t13.getD t15.toNat 0) + 1000000000)) - (IntKind.u32.wrap (t6 + (t1.getD t15.toNat 0)))))), 1, t13, t14, IntKind.i64.wrap (t15 + 1), ()))
            else
              none
          else
            bif ixOk t15 t5.length then
              some (.inl (t1, (t5.set t15.toNat (IntKind.u32.wrap ((t13.getD t15.toNat 0) - (IntKind.u32.wrap (t6 + (t1.getD t15.toNat 0)))))), 0, t13, t14, IntKind.i64.wrap (t15 + 1), ()))
            else
              none
        else
          none
      else
        bif decide ((t13.getD t15.toNat 0) < t6) then
          bif ixOk t15 t5.length then
            some (.inl (t1, (t5.set t15.toNat (IntKind.u32.wrap ((IntKind.u32.wrap ((t13.getD t15.toNat 0) + 1000000000)) - t6))), 1, t13, t14, IntKind.i64.wrap (t15 + 1), ()))
          else
            none
        else
          bif ixOk t15 t5.length then
            some (.inl (t1, (t5.set t15.toNat (IntKind.u32.wrap ((t13.getD t15.toNat 0) - t6))), 0, t13, t14, IntKind.i64.wrap (t15 + 1), ()))
          else
            none
    else
      none
  else
    some (.inr (t5, ()))
def integer_minus (k : Nat) (a0 : List Int) (a1 : List Int) : Option (List Int) :=
  bif (decide (0 ≤ (a0.length : Int))) && (decide ((a0.length : Int) ≤ (a0.length : Int)) && decide ((a0.length : Int) * ((4 : Nat) : Int) ≤ 281474976710656)) then
    (iter (fun (x2 : (List Int × List Int × Int × List Int × Int × Int × Unit)) => integer_minus_L0 k x2.1 x2.2.1 x2.2.2.1 x2.2.2.2.1 x2.2.2.2.2.1 x2.2.2.2.2.2.1) k (a1, (List.replicate (a0.length : Int).toNat (0 : Int)), 0, a0, (a0.length : Int), 0, ())).bind fun x1 =>
    some x1.1
  else
    none
def integer_Add (k : Nat) (a0 : IntD) (a1 : IntD) : Option IntD :=
  bif a0.neg == a1.neg then
    (integer_plus k a0.limbs a1.limbs).bind fun x1 =>
    (integer_signed k a0.neg x1).bind fun x2 =>
    some x2
  else
    (integer_compare k a0.limbs a1.limbs).bind fun x3 =>
    bif decide (x3 < 0) then
      (integer_minus k a1.limbs a0.limbs).bind fun x4 =>
      (integer_signed k a1.neg x4).bind fun x5 =>
      some x5
    else
      (integer_minus k a0.limbs a1.limbs).bind fun x6 =>
      (integer_signed k a0.neg x6).bind fun x7 =>
      some x7
def integer_Sub (k : Nat) (a0 : IntD) (a1 : IntD) : Option IntD :=
  bif !a1.neg then
    (integer_Add k a0 (⟨decide ((a1.limbs.length : Int) > 0), a1.limbs⟩ : IntD)).bind fun x1 =>
    some x1
  else
    (integer_Add k a0 (⟨false, a1.limbs⟩ : IntD)).bind fun x2 =>
    some x2
def integer_DivMod (k : Nat) (a0 : IntD) (a1 : IntD) : Option (IntD × IntD × Int) :=
  bif (a1.limbs.length : Int) == 0 then
    some ((⟨false, []⟩ : IntD), (⟨false, []⟩ : IntD), 6)
  else
    (integer_divide k a0.limbs a1.limbs).bind fun x1 =>
    (integer_signed k (!(a0.neg == a1.neg)) x1.1).bind fun x2 =>
    (integer_signed k a0.neg x1.2).bind fun x3 =>
    bif decide ((x3.limbs.length : Int) > 0) then
      bif !(x3.neg == a1.neg) then
        (integer_FromInt64 k 1).bind fun x4 =>
        (integer_Sub k x2 x4).bind fun x5 =>
        (integer_Add k x3 a1).bind fun x6 =>
        some (x5, x6, 0)
      else
        some (x2, x3, 0)
    else
      some (x2, x3, 0)
def integer_Cmp (k : Nat) (a0 : IntD) (a1 : IntD) : Option Int :=
  bif !(a0.neg == a1.neg) then
    bif a0.neg then
      some (-1)
    else
      some 1
  else
    bif a0.neg then
      (integer_compare k a1.limbs a0.limbs).bind fun x1 =>
      some x1
    else
      (integer_compare k a0.limbs a1.limbs).bind fun x2 =>
      some x2
def integer_Sqrt_L0 (k : Nat) (t1 : IntD) (t2 : IntD) (t5 : IntD) (t6 : IntD) : Option ((IntD × IntD × IntD × IntD × Unit) ⊕ (IntD × Int × Unit)) :=
  (integer_DivMod k t1 t5).bind fun x3 =>
  (integer_Add k t5 x3.1).bind fun x4 =>
  (integer_DivMod k x4 t6).bind fun x5 =>
  (integer_Cmp k x5.1 t5).bind fun x6 =>
  bif decide (x6 ≥ 0) then
    some (.inr (t5, 0, ()))
  else
    some (.inl (t1, t2, x5.1, t6, ()))
def integer_Sqrt (k : Nat) (a0 : IntD) : Option (IntD × Int) :=
  bif a0.neg then
    some ((⟨false, []⟩ : IntD), 7)
  else
    bif (a0.limbs.length : Int) == 0 then
      some ((⟨false, []⟩ : IntD), 0)
    else
      bif (decide (0 ≤ IntKind.i64.wrap ((IntKind.i64.wrap ((a0.limbs.length : Int) + 1)).tdiv 2))) && (decide (IntKind.i64.wrap ((IntKind.i64.wrap ((a0.limbs.length : Int) + 1)).tdiv 2) ≤ IntKind.i64.wrap ((IntKind.i64.wrap ((a0.limbs.length : Int) + 1)).tdiv 2)) && decide ((IntKind.i64.wrap ((IntKind.i64.wrap ((a0.limbs.length : Int) + 1)).tdiv 2)) * ((4 : Nat) : Int) ≤ 281474976710656)) then
        bif decide (((List.replicate (IntKind.i64.wrap ((IntKind.i64.wrap ((a0.limbs.length : Int) + 1)).tdiv 2)).toNat (0 : Int)).length + ([1] : List Int).length) * 4 ≤ 140737488355328) then
          (integer_signed k false ((List.replicate (IntKind.i64.wrap ((IntKind.i64.wrap ((a0.limbs.length : Int) + 1)).tdiv 2)).toNat (0 : Int)) ++ ([1] : List Int))).bind fun x1 =>
          (integer_FromInt64 k 2).bind fun x2 =>
          (iter (fun (x8 : (IntD × IntD × IntD × IntD × Unit)) => integer_Sqrt_L0 k x8.1 x8.2.1 x8.2.2.1 x8.2.2.2.1) k (a0, (⟨false, []⟩ : IntD), x1, x2, ())).bind fun x7 =>
          some (x7.1, x7.2.1)
        else
          none
      else
        none
def integer_Mul (k : Nat) (a0 : IntD) (a1 : IntD) : Option IntD :=
  (integer_times k a0.limbs a1.limbs).bind fun x1 =>
  (integer_signed k (!(a0.neg == a1.neg)) x1).bind fun x2 =>
  some x2
def rational_side (k : Nat) (a0 : IntD) : Option (IntD × Bool) :=
  (integer_Sqrt k a0).bind fun x1 =>
  bif x1.2 == 0 then
    (integer_Mul k x1.1 x1.1).bind fun x2 =>
    (integer_Cmp k x2 a0).bind fun x3 =>
    some (x1.1, x3 == 0)
  else
    some (x1.1, false)
def rational_Sqrt (k : Nat) (a0 : RatD) : Option (RatD × Bool) :=
  (rational_side k a0.num).bind fun x1 =>
  bif x1.2 then
    (rational_side k a0.den).bind fun x2 =>
    bif x2.2 then
      some ((⟨x1.1, x2.1⟩ : RatD), true)
    else
      some ((⟨(⟨false, []⟩ : IntD), (⟨false, []⟩ : IntD)⟩ : RatD), false)
  else
    some ((⟨(⟨false, []⟩ : IntD), (⟨false, []⟩ : IntD)⟩ : RatD), false)
def integer_Neg (k : Nat) (a0 : IntD) : Option IntD :=
  bif decide ((([] : List Int).length + a0.limbs.length) * 4 ≤ 140737488355328) then
    (integer_signed k (!a0.neg) a0.limbs).bind fun x1 =>
    some x1
  else
    none
def integer_word (k : Nat) (a0 : IntD) : Option (Int × Bool) :=
  bif (a0.limbs.length : Int) == 0 then
    some (0, true)
  else
    bif (a0.limbs.length : Int) == 1 then
      bif ixOk 0 a0.limbs.length then
        some (IntKind.u64.wrap ((a0.limbs.getD 0 0)), true)
      else
        none
    else
      bif (a0.limbs.length : Int) == 2 then
        bif ixOk 1 a0.limbs.length then
          bif ixOk 0 a0.limbs.length then
            some (IntKind.u64.wrap ((IntKind.u64.wrap ((IntKind.u64.wrap ((a0.limbs.getD 1 0))) * 1000000000)) + (IntKind.u64.wrap ((a0.limbs.getD 0 0)))), true)
          else
            none
        else
          none
      else
        some (0, false)
def integer_GCD_L2 (k : Nat) (t4 : IntD) (t7 : Int) (t9 : Int) : Option ((IntD × Int × Int × Unit) ⊕ (IntD × Int × Unit)) :=
  bif decide (t9 > 0) then
    bif t9 == 0 then
      none
    else
      some (.inl (t4, t9, t7.tmod t9, ()))
  else
    some (.inr (t4, t7, ()))
def integer_GCD_L0 (k : Nat) (t4 : IntD) (t5 : IntD) (t6 : IntD) : Option ((IntD × IntD × IntD × Unit) ⊕ ((IntD × IntD × Unit) ⊕ (IntD × Unit))) :=
  bif decide ((t6.limbs.length : Int) > 0) then
    (integer_word k t5).bind fun x3 =>
    (integer_word k t6).bind fun x4 =>
    bif x3.2 then
      bif x4.2 then
        (iter (fun (x6 : (IntD × Int × Int × Unit)) => integer_GCD_L2 k x6.1 x6.2.1 x6.2.2.1) k (t4, x3.1, x4.1, ())).bind fun x5 =>
        (integer_split k x5.2.1).bind fun x7 =>
        (integer_signed k false x7).bind fun x8 =>
        some (.inr (.inr (x8, ())))
      else
        (integer_divide k t5.limbs t6.limbs).bind fun x9 =>
        (integer_signed k false x9.2).bind fun x10 =>
        some (.inl (t4, t6, x10, ()))
    else
      (integer_divide k t5.limbs t6.limbs).bind fun x11 =>
      (integer_signed k false x11.2).bind fun x12 =>
      some (.inl (t4, t6, x12, ()))
  else
    some (.inr (.inl (t4, t5, ())))
def integer_GCD (k : Nat) (a0 : IntD) (a1 : IntD) : Option IntD :=
  (integer_signed k false a0.limbs).bind fun x1 =>
  (integer_signed k false a1.limbs).bind fun x2 =>
  (iter (fun (x14 : (IntD × IntD × IntD × Unit)) => integer_GCD_L0 k x14.1 x14.2.1 x14.2.2.1) k ((⟨false, []⟩ : IntD), x1, x2, ())).bind fun x13 =>
  match x13 with
  | .inl x15 =>
    bif decide ((([] : List Int).length + x15.2.1.limbs.length) * 4 ≤ 140737488355328) then
      (integer_signed k false x15.2.1.limbs).bind fun x17 =>
      some x17
    else
      none
  | .inr x16 =>
    some x16.1
def rational_unit (k : Nat) : Option IntD :=
  (integer_FromInt64 k 1).bind fun x1 =>
  some x1
def rational_exact (k : Nat) (a0 : IntD) (a1 : IntD) : Option IntD :=
  (integer_DivMod k a0 a1).bind fun x1 =>
  some x1.1
def rational_reduce (k : Nat) (a0 : IntD) (a1 : IntD) : Option RatD :=
  (integer_Sign k a1).bind fun x1 =>
  bif decide (x1 < 0) then
    (integer_Neg k a0).bind fun x2 =>
    (integer_Neg k a1).bind fun x3 =>
    (integer_GCD k x2 x3).bind fun x4 =>
    (rational_unit k).bind fun x5 =>
    (integer_Cmp k x4 x5).bind fun x6 =>
    bif x6 != 0 then
      (rational_exact k x2 x4).bind fun x7 =>
      (rational_exact k x3 x4).bind fun x8 =>
      some (⟨x7, x8⟩ : RatD)
    else
      some (⟨x2, x3⟩ : RatD)
  else
    (integer_GCD k a0 a1).bind fun x9 =>
    (rational_unit k).bind fun x10 =>
    (integer_Cmp k x9 x10).bind fun x11 =>
    bif x11 != 0 then
      (rational_exact k a0 x9).bind fun x12 =>
      (rational_exact k a1 x9).bind fun x13 =>
      some (⟨x12, x13⟩ : RatD)
    else
      some (⟨a0, a1⟩ : RatD)
def rational_Mul (k : Nat) (a0 : RatD) (a1 : RatD) : Option RatD :=
  (integer_Mul k a0.num a1.num).bind fun x1 =>
  (integer_Mul k a0.den a1.den).bind fun x2 =>
  (rational_reduce k x1 x2).bind fun x3 =>
  some x3
def rational_Add (k : Nat) (a0 : RatD) (a1 : RatD) : Option RatD :=
  (integer_Cmp k a0.den a1.den).bind fun x1 =>
  bif x1 == 0 then
    (integer_Add k a0.num a1.num).bind fun x2 =>
    (rational_reduce k x2 a0.den).bind fun x3 =>
    some x3
  else
    (integer_Mul k a0.num a1.den).bind fun x4 =>
    (integer_Mul k a1.num a0.den).bind fun x5 =>
    (integer_Add k x4 x5).bind fun x6 =>
    (integer_Mul k a0.den a1.den).bind fun x7 =>
    (rational_reduce k x6 x7).bind fun x8 =>
    some x8
def rational_whole (k : Nat) (a0 : IntD) : Option RatD :=
  (rational_unit k).bind fun x1 =>
  some (⟨a0, x1⟩ : RatD)
def rational_FromInt64 (k : Nat) (a0 : Int) : Option RatD :=
  (integer_FromInt64 k a0).bind fun x1 =>
  (rational_whole k x1).bind fun x2 =>
  some x2
def root_zero (k : Nat) : Option RatD :=
  (rational_FromInt64 k 0).bind fun x1 =>
  some x1
def root_FromRat (k : Nat) (a0 : RatD) : Option RootD :=
  (root_zero k).bind fun x1 =>
  (root_zero k).bind fun x2 =>
  some (⟨a0, x1, x2⟩ : RootD)
def root_reduced (k : Nat) (a0 : RatD) (a1 : RatD) (a2 : RatD) : Option RootD :=
  (rational_Sign k a1).bind fun x1 =>
  bif x1 == 0 then
    (root_zero k).bind fun x2 =>
    some (⟨a0, a1, x2⟩ : RootD)
  else
    some (⟨a0, a1, a2⟩ : RootD)
def root_Make (k : Nat) (a0 : RatD) (a1 : RatD) (a2 : RatD) : Option (RootD × Int) :=
  (rational_Sign k a2).bind fun x1 =>
  bif decide (x1 < 0) then
    some ((⟨(⟨(⟨false, []⟩ : IntD), (⟨false, []⟩ : IntD)⟩ : RatD), (⟨(⟨false, []⟩ : IntD), (⟨false, []⟩ : IntD)⟩ : RatD), (⟨(⟨false, []⟩ : IntD), (⟨false, []⟩ : IntD)⟩ : RatD)⟩ : RootD), 7)
  else
    (rational_Sqrt k a2).bind fun x2 =>
    bif x2.2 then
      (rational_Mul k a1 x2.1).bind fun x3 =>
      (rational_Add k a0 x3).bind fun x4 =>
      (root_FromRat k x4).bind fun x5 =>
      some (x5, 0)
    else
      (root_reduced k a0 a1 a2).bind fun x6 =>
      some (x6, 0)
def swarflaw03_make3 (k : Nat) (a0 : Int) (a1 : Int) (a2 : Int) : Option (RootD × Bool) :=
  (swarfref02_FromInt64 k a0).bind fun x1 =>
  (swarfref02_FromInt64 k a1).bind fun x2 =>
  (swarfref02_FromInt64 k a2).bind fun x3 =>
  (root_Make k x1 x2 x3).bind fun x4 =>
  some (x4.1, x4.2 == 0)
def swarfref03_zero (k : Nat) : Option RatD :=
  (swarfref02_FromInt64 k 0).bind fun x1 =>
  some x1
def swarfref03_FromRat (k : Nat) (a0 : RatD) : Option RootD :=
  (swarfref03_zero k).bind fun x1 =>
  (swarfref03_zero k).bind fun x2 =>
  some (⟨a0, x1, x2⟩ : RootD)
def swarfref03_Int (k : Nat) (a0 : Int) : Option RootD :=
  (swarfref02_FromInt64 k a0).bind fun x1 =>
  (swarfref03_FromRat k x1).bind fun x2 =>
  some x2
def swarfref01_Same (k : Nat) (a0 : IntD) (a1 : IntD) : Option Bool :=
  bif a0.neg == a1.neg then
    (swarfref01_compare k a0.limbs a1.limbs).bind fun x1 =>
    some (x1 == 0)
  else
    some false
def swarfref02_Same (k : Nat) (a0 : RatD) (a1 : RatD) : Option Bool :=
  (swarfref01_Same k a0.num a1.num).bind fun x1 =>
  bif x1 then
    (swarfref01_Same k a0.den a1.den).bind fun x2 =>
    some x2
  else
    some false
def swarfref03_Same (k : Nat) (a0 : RootD) (a1 : RootD) : Option Bool :=
  (swarfref02_Same k a0.A a1.A).bind fun x1 =>
  bif x1 then
    (swarfref02_Same k a0.B a1.B).bind fun x2 =>
    bif x2 then
      (swarfref02_Same k a0.C a1.C).bind fun x3 =>
      some x3
    else
      some false
  else
    some false
def swarfref02_Sign (k : Nat) (a0 : RatD) : Option Int :=
  (swarfref01_Sign k a0.num).bind fun x1 =>
  some x1
def swarfref01_Cmp (k : Nat) (a0 : IntD) (a1 : IntD) : Option Int :=
  bif !(a0.neg == a1.neg) then
    bif a0.neg then
      some (-1)
    else
      some 1
  else
    bif a0.neg then
      (swarfref01_compare k a1.limbs a0.limbs).bind fun x1 =>
      some x1
    else
      (swarfref01_compare k a0.limbs a1.limbs).bind fun x2 =>
      some x2
def swarfref01_Sqrt_L0 (k : Nat) (t1 : IntD) (t2 : IntD) (t4 : IntD) (t5 : IntD) : Option ((IntD × IntD × IntD × IntD × Unit) ⊕ (IntD × Int × Unit)) :=
  (swarfref01_DivMod k t1 t4).bind fun x2 =>
  (swarfref01_Add k t4 x2.1).bind fun x3 =>
  (swarfref01_DivMod k x3 t5).bind fun x4 =>
  (swarfref01_Cmp k x4.1 t4).bind fun x5 =>
  bif decide (x5 ≥ 0) then
    some (.inr (t4, 0, ()))
  else
    some (.inl (t1, t2, x4.1, t5, ()))
def swarfref01_Sqrt (k : Nat) (a0 : IntD) : Option (IntD × Int) :=
  bif a0.neg then
    some ((⟨false, []⟩ : IntD), 7)
  else
    bif (a0.limbs.length : Int) == 0 then
      some ((⟨false, []⟩ : IntD), 0)
    else
      bif (decide (0 ≤ IntKind.i64.wrap ((IntKind.i64.wrap ((a0.limbs.length : Int) + 1)).tdiv 2))) && (decide (IntKind.i64.wrap ((IntKind.i64.wrap ((a0.limbs.length : Int) + 1)).tdiv 2) ≤ IntKind.i64.wrap ((IntKind.i64.wrap ((a0.limbs.length : Int) + 1)).tdiv 2)) && decide ((IntKind.i64.wrap ((IntKind.i64.wrap ((a0.limbs.length : Int) + 1)).tdiv 2)) * ((4 : Nat) : Int) ≤ 281474976710656)) then
        bif decide (((List.replicate (IntKind.i64.wrap ((IntKind.i64.wrap ((a0.limbs.length : Int) + 1)).tdiv 2)).toNat (0 : Int)).length + ([1] : List Int).length) * 4 ≤ 140737488355328) then
          (swarfref01_FromInt64 k 2).bind fun x1 =>
          (iter (fun (x7 : (IntD × IntD × IntD × IntD × Unit)) => swarfref01_Sqrt_L0 k x7.1 x7.2.1 x7.2.2.1 x7.2.2.2.1) k (a0, (⟨false, []⟩ : IntD), (⟨false, ((List.replicate (IntKind.i64.wrap ((IntKind.i64.wrap ((a0.limbs.length : Int) + 1)).tdiv 2)).toNat (0 : Int)) ++ ([1] : List Int))⟩ : IntD), x1, ())).bind fun x6 =>
          some (x6.1, x6.2.1)
        else
          none
      else
        none
def swarfref01_Mul (k : Nat) (a0 : IntD) (a1 : IntD) : Option IntD :=
  (swarfref01_times k a0.limbs a1.limbs).bind fun x1 =>
  (swarfref01_signed k (!(a0.neg == a1.neg)) x1).bind fun x2 =>
  some x2
def swarfref02_perfect (k : Nat) (a0 : IntD) : Option (IntD × Bool) :=
  (swarfref01_Sqrt k a0).bind fun x1 =>
  bif x1.2 == 0 then
    (swarfref01_Mul k x1.1 x1.1).bind fun x2 =>
    (swarfref01_Same k x2 a0).bind fun x3 =>
    some (x1.1, x3)
  else
    some (x1.1, false)
def swarfref02_Sqrt (k : Nat) (a0 : RatD) : Option (RatD × Bool) :=
  (swarfref02_perfect k a0.num).bind fun x1 =>
  (swarfref02_perfect k a0.den).bind fun x2 =>
  bif !x1.2 then
    some ((⟨(⟨false, []⟩ : IntD), (⟨false, []⟩ : IntD)⟩ : RatD), false)
  else
    bif !x2.2 then
      some ((⟨(⟨false, []⟩ : IntD), (⟨false, []⟩ : IntD)⟩ : RatD), false)
    else
      some ((⟨x1.1, x2.1⟩ : RatD), true)
def swarfref02_Mul (k : Nat) (a0 : RatD) (a1 : RatD) : Option RatD :=
  (swarfref01_Mul k a0.num a1.num).bind fun x1 =>
  (swarfref01_Mul k a0.den a1.den).bind fun x2 =>
  (swarfref02_Of k x1 x2).bind fun x3 =>
  some x3
def swarfref02_Add (k : Nat) (a0 : RatD) (a1 : RatD) : Option RatD :=
  (swarfref01_Mul k a0.num a1.den).bind fun x1 =>
  (swarfref01_Mul k a1.num a0.den).bind fun x2 =>
  (swarfref01_Add k x1 x2).bind fun x3 =>
  (swarfref01_Mul k a0.den a1.den).bind fun x4 =>
  (swarfref02_Of k x3 x4).bind fun x5 =>
  some x5
def swarfref03_reduced (k : Nat) (a0 : RatD) (a1 : RatD) (a2 : RatD) : Option RootD :=
  (swarfref02_Sign k a1).bind fun x1 =>
  bif x1 == 0 then
    (swarfref03_FromRat k a0).bind fun x2 =>
    some x2
  else
    (swarfref02_Sign k a2).bind fun x3 =>
    bif x3 == 0 then
      (swarfref03_FromRat k a0).bind fun x4 =>
      some x4
    else
      some (⟨a0, a1, a2⟩ : RootD)
def swarfref03_Make (k : Nat) (a0 : RatD) (a1 : RatD) (a2 : RatD) : Option (RootD × Int) :=
  (swarfref02_Sign k a2).bind fun x1 =>
  bif decide (x1 < 0) then
    some ((⟨(⟨(⟨false, []⟩ : IntD), (⟨false, []⟩ : IntD)⟩ : RatD), (⟨(⟨false, []⟩ : IntD), (⟨false, []⟩ : IntD)⟩ : RatD), (⟨(⟨false, []⟩ : IntD), (⟨false, []⟩ : IntD)⟩ : RatD)⟩ : RootD), 7)
  else
    (swarfref02_Sqrt k a2).bind fun x2 =>
    bif x2.2 then
      (swarfref02_Mul k a1 x2.1).bind fun x3 =>
      (swarfref02_Add k a0 x3).bind fun x4 =>
      (swarfref03_FromRat k x4).bind fun x5 =>
      some (x5, 0)
    else
      (swarfref03_reduced k a0 a1 a2).bind fun x6 =>
      some (x6, 0)
def swarfref03_Of (k : Nat) (a0 : SurdD) : Option RootD :=
  (swarfref02_Frac k (IntKind.i64.wrap (a0.A)) (IntKind.i64.wrap ((IntKind.i64.wrap (a0.D)) + 1))).bind fun x1 =>
  (swarfref02_Frac k (IntKind.i64.wrap (a0.B)) (IntKind.i64.wrap ((IntKind.i64.wrap (a0.E)) + 1))).bind fun x2 =>
  (swarfref02_Frac k (IntKind.i64.wrap (a0.C)) (IntKind.i64.wrap ((IntKind.i64.wrap (a0.F)) + 1))).bind fun x3 =>
  (swarfref03_Make k x1 x2 x3).bind fun x4 =>
  some x4.1
def rational_Neg (k : Nat) (a0 : RatD) : Option RatD :=
  (integer_Neg k a0.num).bind fun x1 =>
  some (⟨x1, a0.den⟩ : RatD)
def rational_Sub (k : Nat) (a0 : RatD) (a1 : RatD) : Option RatD :=
  (rational_Neg k a1).bind fun x1 =>
  (rational_Add k a0 x1).bind fun x2 =>
  some x2
def root_norm (k : Nat) (a0 : RootD) : Option RatD :=
  (rational_Mul k a0.A a0.A).bind fun x1 =>
  (rational_Mul k a0.B a0.B).bind fun x2 =>
  (rational_Mul k x2 a0.C).bind fun x3 =>
  (rational_Sub k x1 x3).bind fun x4 =>
  some x4
def root_Sign (k : Nat) (a0 : RootD) : Option Int :=
  (rational_Sign k a0.A).bind fun x1 =>
  (rational_Sign k a0.B).bind fun x2 =>
  bif x2 == 0 then
    some x1
  else
    bif x1 == x2 then
      some x1
    else
      bif x1 == 0 then
        some x2
      else
        (root_norm k a0).bind fun x3 =>
        (rational_Sign k x3).bind fun x4 =>
        some (IntKind.i64.wrap (x1 * x4))
def rational_Div (k : Nat) (a0 : RatD) (a1 : RatD) : Option (RatD × Int) :=
  (rational_Sign k a1).bind fun x1 =>
  bif x1 == 0 then
    some ((⟨(⟨false, []⟩ : IntD), (⟨false, []⟩ : IntD)⟩ : RatD), 6)
  else
    (integer_Mul k a0.num a1.den).bind fun x2 =>
    (integer_Mul k a0.den a1.num).bind fun x3 =>
    (rational_reduce k x2 x3).bind fun x4 =>
    some (x4, 0)
def root_Scale (k : Nat) (a0 : RootD) (a1 : RatD) : Option RootD :=
  (rational_Mul k a0.A a1).bind fun x1 =>
  (rational_Mul k a0.B a1).bind fun x2 =>
  (root_reduced k x1 x2 a0.C).bind fun x3 =>
  some x3
def root_Inv (k : Nat) (a0 : RootD) : Option (RootD × Int) :=
  (root_Sign k a0).bind fun x1 =>
  bif x1 == 0 then
    some ((⟨(⟨(⟨false, []⟩ : IntD), (⟨false, []⟩ : IntD)⟩ : RatD), (⟨(⟨false, []⟩ : IntD), (⟨false, []⟩ : IntD)⟩ : RatD), (⟨(⟨false, []⟩ : IntD), (⟨false, []⟩ : IntD)⟩ : RatD)⟩ : RootD), 6)
  else
    (rational_FromInt64 k 1).bind fun x2 =>
    (root_norm k a0).bind fun x3 =>
    (rational_Div k x2 x3).bind fun x4 =>
    bif x4.2 != 0 then
      some ((⟨(⟨(⟨false, []⟩ : IntD), (⟨false, []⟩ : IntD)⟩ : RatD), (⟨(⟨false, []⟩ : IntD), (⟨false, []⟩ : IntD)⟩ : RatD), (⟨(⟨false, []⟩ : IntD), (⟨false, []⟩ : IntD)⟩ : RatD)⟩ : RootD), x4.2)
    else
      (rational_Neg k a0.B).bind fun x5 =>
      (root_Scale k (⟨a0.A, x5, a0.C⟩ : RootD) x4.1).bind fun x6 =>
      some (x6, 0)
def rational_Floor (k : Nat) (a0 : RatD) : Option IntD :=
  (integer_DivMod k a0.num a0.den).bind fun x1 =>
  some x1.1
def root_Floor (k : Nat) (a0 : RootD) : Option IntD :=
  (rational_Sign k a0.B).bind fun x1 =>
  bif x1 == 0 then
    (rational_Floor k a0.A).bind fun x2 =>
    some x2
  else
    (rational_Mul k a0.B a0.B).bind fun x3 =>
    (rational_Mul k x3 a0.C).bind fun x4 =>
    (integer_Mul k a0.A.den a0.A.den).bind fun x5 =>
    (integer_Mul k x4.num x4.den).bind fun x6 =>
    (integer_Mul k x5 x6).bind fun x7 =>
    (integer_Sqrt k x7).bind fun x8 =>
    (rational_Sign k a0.B).bind fun x9 =>
    bif decide (x9 < 0) then
      (integer_FromInt64 k 1).bind fun x10 =>
      (integer_Add k x8.1 x10).bind fun x11 =>
      (integer_Neg k x11).bind fun x12 =>
      (integer_Mul k a0.A.num x4.den).bind fun x13 =>
      (integer_Add k x13 x12).bind fun x14 =>
      (integer_Mul k a0.A.den x4.den).bind fun x15 =>
      (integer_DivMod k x14 x15).bind fun x16 =>
      some x16.1
    else
      (integer_Mul k a0.A.num x4.den).bind fun x17 =>
      (integer_Add k x17 x8.1).bind fun x18 =>
      (integer_Mul k a0.A.den x4.den).bind fun x19 =>
      (integer_DivMod k x18 x19).bind fun x20 =>
      some x20.1
def swarflaw03_integer (k : Nat) (a0 : IntD) (a1 : Int) : Option Bool :=
  (swarfref01_FromInt64 k a1).bind fun x1 =>
  (swarfref01_Same k a0 x1).bind fun x2 =>
  some x2
def swarflaw03_awake (k : Nat) : Option Bool :=
  (swarfref02_FromInt64 k 1).bind fun x1 =>
  (swarfref02_FromInt64 k 2).bind fun x2 =>
  (swarfref02_Frac k 9 4).bind fun x3 =>
  (root_Make k x1 x2 x3).bind fun x4 =>
  (swarflaw03_make3 k 0 1 8).bind fun x5 =>
  (swarflaw03_make3 k 1 1 2).bind fun x6 =>
  (swarflaw03_make3 k 1 (-1) 2).bind fun x7 =>
  bif x4.2 != 0 then
    some false
  else
    bif !x5.2 then
      some false
    else
      bif !x6.2 then
        some false
      else
        bif !x7.2 then
          some false
        else
          (swarfref03_Int k 4).bind fun x8 =>
          (swarfref03_Same k x4.1 x8).bind fun x9 =>
          bif !x9 then
            some false
          else
            (swarfref03_Of k (⟨0, 1, 8, 0, 0, 0⟩ : SurdD)).bind fun x10 =>
            (swarfref03_Same k x5.1 x10).bind fun x11 =>
            bif !x11 then
              some false
            else
              (root_Inv k x6.1).bind fun x12 =>
              (swarflaw03_make3 k 3 (-2) 2).bind fun x13 =>
              (swarflaw03_make3 k 4 (-3) 2).bind fun x14 =>
              bif x12.2 == 0 then
                (swarfref03_Of k (⟨(-1), 1, 2, 0, 0, 0⟩ : SurdD)).bind fun x15 =>
                (swarfref03_Same k x12.1 x15).bind fun x16 =>
                bif x16 then
                  (root_Floor k x6.1).bind fun x17 =>
                  (swarflaw03_integer k x17 2).bind fun x18 =>
                  bif x18 then
                    (root_Floor k x7.1).bind fun x19 =>
                    (swarflaw03_integer k x19 (-1)).bind fun x20 =>
                    bif x20 then
                      (root_Sign k x13.1).bind fun x21 =>
                      bif x21 == 1 then
                        (root_Sign k x14.1).bind fun x22 =>
                        some (x22 == (-1))
                      else
                        some false
                    else
                      some false
                  else
                    some false
                else
                  some false
              else
                some false
def swarfref01_Valid_L0 (k : Nat) (t1 : IntD) (t3 : Int) : Option ((IntD × Int × Unit) ⊕ ((IntD × Unit) ⊕ (Bool × Unit))) :=
  bif decide (t3 < (t1.limbs.length : Int)) then
    bif ixOk t3 t1.limbs.length then
      bif decide ((t1.limbs.getD t3.toNat 0) ≥ 1000000000) then
        some (.inr (.inr (false, ())))
      else
        some (.inl (t1, IntKind.i64.wrap (t3 + 1), ()))
    else
      none
  else
    some (.inr (.inl (t1, ())))
def swarfref01_Valid (k : Nat) (a0 : IntD) : Option Bool :=
  (iter (fun (x2 : (IntD × Int × Unit)) => swarfref01_Valid_L0 k x2.1 x2.2.1) k (a0, 0, ())).bind fun x1 =>
  match x1 with
  | .inl x3 =>
    (swarfref01_trim k x3.1.limbs).bind fun x5 =>
    bif (x5.length : Int) == (x3.1.limbs.length : Int) then
      bif !x3.1.neg then
        some true
      else
        some (decide ((x3.1.limbs.length : Int) > 0))
    else
      some false
  | .inr x4 =>
    some x4.1
def swarfref02_Valid (k : Nat) (a0 : RatD) : Option Bool :=
  (swarfref01_Valid k a0.num).bind fun x1 =>
  bif !x1 then
    some false
  else
    (swarfref01_Valid k a0.den).bind fun x2 =>
    bif !x2 then
      some false
    else
      (swarfref01_Sign k a0.den).bind fun x3 =>
      bif x3 != 1 then
        some false
      else
        (swarfref01_GCD k a0.num a0.den).bind fun x4 =>
        (swarfref02_unit k).bind fun x5 =>
        (swarfref01_Same k x4 x5).bind fun x6 =>
        some x6
def swarfref02_Small (k : Nat) (a0 : RatD) (a1 : Int) : Option Bool :=
  bif decide ((a0.num.limbs.length : Int) ≤ a1) then
    bif decide ((a0.den.limbs.length : Int) ≤ a1) then
      (swarfref02_Valid k a0).bind fun x1 =>
      some x1
    else
      some false
  else
    some false
def swarflaw03_same (k : Nat) (a0 : RootD) (a1 : Int) (a2 : RootD) (a3 : Int) : Option Bool :=
  bif a1 == a3 then
    (swarfref03_Same k a0 a2).bind fun x1 =>
    some x1
  else
    some false
def root_Rational (k : Nat) (a0 : RootD) : Option (RatD × Bool) :=
  (rational_Sign k a0.B).bind fun x1 =>
  bif x1 != 0 then
    some ((⟨(⟨false, []⟩ : IntD), (⟨false, []⟩ : IntD)⟩ : RatD), false)
  else
    some (a0.A, true)
def swarfref03_Rational (k : Nat) (a0 : RootD) : Option (RatD × Bool) :=
  (swarfref02_Sign k a0.B).bind fun x1 =>
  bif x1 != 0 then
    some ((⟨(⟨false, []⟩ : IntD), (⟨false, []⟩ : IntD)⟩ : RatD), false)
  else
    some (a0.A, true)
def swarflaw03_RootMake (k : Nat) (a0 : RatD) (a1 : RatD) (a2 : RatD) : Option Bool :=
  (swarflaw03_awake k).bind fun x1 =>
  bif !x1 then
    (swarflaw03_awake k).bind fun x2 =>
    some x2
  else
    (swarfref02_Small k a0 4).bind fun x3 =>
    bif !x3 then
      (swarflaw03_awake k).bind fun x4 =>
      some x4
    else
      (swarfref02_Small k a1 4).bind fun x5 =>
      bif !x5 then
        (swarflaw03_awake k).bind fun x6 =>
        some x6
      else
        (swarfref02_Small k a2 4).bind fun x7 =>
        bif !x7 then
          (swarflaw03_awake k).bind fun x8 =>
          some x8
        else
          (root_Make k a0 a1 a2).bind fun x9 =>
          (swarfref03_Make k a0 a1 a2).bind fun x10 =>
          (swarflaw03_same k x9.1 x9.2 x10.1 x10.2).bind fun x11 =>
          bif !x11 then
            some false
          else
            (root_FromRat k a0).bind fun x12 =>
            (swarfref03_FromRat k a0).bind fun x13 =>
            (swarfref03_Same k x12 x13).bind fun x14 =>
            bif !x14 then
              some false
            else
              (root_FromRat k a0).bind fun x15 =>
              (root_Rational k x15).bind fun x16 =>
              bif !x16.2 then
                some false
              else
                (swarfref02_Same k x16.1 a0).bind fun x17 =>
                bif !x17 then
                  some false
                else
                  bif x9.2 != 0 then
                    some true
                  else
                    (root_Rational k x9.1).bind fun x18 =>
                    (swarfref03_Rational k x10.1).bind fun x19 =>
                    bif x18.2 == x19.2 then
                      (swarfref02_Same k x18.1 x19.1).bind fun x20 =>
                      some x20
                    else
                      some false
def integer_Valid_L0 (k : Nat) (t1 : IntD) (t7 : List Int) (t8 : Int) (t9 : Int) : Option ((IntD × List Int × Int × Int × Unit) ⊕ ((IntD × Unit) ⊕ (Bool × Unit))) :=
  bif decide (t9 < t8) then
    bif ixOk t9 t7.length then
      bif decide ((t7.getD t9.toNat 0) ≥ 1000000000) then
        some (.inr (.inr (false, ())))
      else
        some (.inl (t1, t7, t8, IntKind.i64.wrap (t9 + 1), ()))
    else
      none
  else
    some (.inr (.inl (t1, ())))
def integer_Valid (k : Nat) (a0 : IntD) : Option Bool :=
  (iter (fun (x2 : (IntD × List Int × Int × Int × Unit)) => integer_Valid_L0 k x2.1 x2.2.1 x2.2.2.1 x2.2.2.2.1) k (a0, a0.limbs, (a0.limbs.length : Int), 0, ())).bind fun x1 =>
  match x1 with
  | .inl x3 =>
    bif decide ((x3.1.limbs.length : Int) > 0) then
      bif ixOk (IntKind.i64.wrap ((x3.1.limbs.length : Int) - 1)) x3.1.limbs.length then
        some ((x3.1.limbs.getD (IntKind.i64.wrap ((x3.1.limbs.length : Int) - 1)).toNat 0) != 0)
      else
        none
    else
      some (!x3.1.neg)
  | .inr x4 =>
    some x4.1
def rational_Valid (k : Nat) (a0 : RatD) : Option Bool :=
  (integer_Valid k a0.num).bind fun x1 =>
  bif !x1 then
    some false
  else
    (integer_Valid k a0.den).bind fun x2 =>
    bif !x2 then
      some false
    else
      (integer_Sign k a0.den).bind fun x3 =>
      bif decide (x3 ≤ 0) then
        some false
      else
        (integer_GCD k a0.num a0.den).bind fun x4 =>
        (rational_unit k).bind fun x5 =>
        (integer_Cmp k x4 x5).bind fun x6 =>
        some (x6 == 0)
def root_Valid (k : Nat) (a0 : RootD) : Option Bool :=
  (rational_Valid k a0.A).bind fun x1 =>
  bif !x1 then
    some false
  else
    (rational_Valid k a0.B).bind fun x2 =>
    bif !x2 then
      some false
    else
      (rational_Valid k a0.C).bind fun x3 =>
      bif !x3 then
        some false
      else
        (rational_Sign k a0.B).bind fun x4 =>
        bif x4 == 0 then
          (rational_Sign k a0.C).bind fun x5 =>
          some (x5 == 0)
        else
          (rational_Sqrt k a0.C).bind fun x6 =>
          (rational_Sign k a0.C).bind fun x7 =>
          bif decide (x7 > 0) then
            some (!x6.2)
          else
            some false
def swarfref03_Valid (k : Nat) (a0 : RootD) : Option Bool :=
  (swarfref02_Valid k a0.A).bind fun x1 =>
  bif !x1 then
    some false
  else
    (swarfref02_Valid k a0.B).bind fun x2 =>
    bif !x2 then
      some false
    else
      (swarfref02_Valid k a0.C).bind fun x3 =>
      bif !x3 then
        some false
      else
        (swarfref02_Sign k a0.B).bind fun x4 =>
        bif x4 == 0 then
          (swarfref02_Sign k a0.B).bind fun x5 =>
          bif x5 == 0 then
            (swarfref02_Sign k a0.C).bind fun x6 =>
            some (x6 == 0)
          else
            some false
        else
          (swarfref02_Sign k a0.C).bind fun x7 =>
          bif x7 == 0 then
            (swarfref02_Sign k a0.B).bind fun x8 =>
            bif x8 == 0 then
              (swarfref02_Sign k a0.C).bind fun x9 =>
              some (x9 == 0)
            else
              some false
          else
            (swarfref02_Sqrt k a0.C).bind fun x10 =>
            (swarfref02_Sign k a0.C).bind fun x11 =>
            bif decide (x11 > 0) then
              some (!x10.2)
            else
              some false
def swarflaw03_RootValid (k : Nat) (a0 : RootD) : Option Bool :=
  (swarflaw03_awake k).bind fun x1 =>
  bif !x1 then
    (swarflaw03_awake k).bind fun x2 =>
    some x2
  else
    (swarfref02_Small k a0.A 4).bind fun x3 =>
    bif !x3 then
      (swarflaw03_awake k).bind fun x4 =>
      some x4
    else
      (swarfref02_Small k a0.B 4).bind fun x5 =>
      bif !x5 then
        (swarflaw03_awake k).bind fun x6 =>
        some x6
      else
        bif decide ((a0.C.num.limbs.length : Int) > 4) then
          (swarflaw03_awake k).bind fun x7 =>
          some x7
        else
          bif decide ((a0.C.den.limbs.length : Int) > 4) then
            (swarflaw03_awake k).bind fun x8 =>
            some x8
          else
            (root_Valid k a0).bind fun x9 =>
            (swarfref03_Valid k a0).bind fun x10 =>
            some (x9 == x10)
def lookahead_within (k : Nat) (a0 : Int) (a1 : Int) (a2 : Int) : Option Bool :=
  bif decide (a0 ≥ a1) then
    some (decide (a0 ≤ a2))
  else
    some false
def integer_Int64_L0 (k : Nat) (t1 : IntD) (t4 : Int) (t5 : Int) : Option ((IntD × Int × Int × Unit) ⊕ (IntD × Int × Unit)) :=
  bif decide (t5 ≥ 0) then
    bif ixOk t5 t1.limbs.length then
      some (.inl (t1, IntKind.u64.wrap ((IntKind.u64.wrap (t4 * 1000000000)) + (IntKind.u64.wrap ((t1.limbs.getD t5.toNat 0)))), IntKind.i64.wrap (t5 - 1), ()))
    else
      none
  else
    some (.inr (t1, t4, ()))
def integer_Int64 (k : Nat) (a0 : IntD) : Option (Int × Bool) :=
  (integer_FromInt64 k (-9223372036854775808)).bind fun x1 =>
  (integer_Cmp k a0 x1).bind fun x2 =>
  bif decide (x2 < 0) then
    some (0, false)
  else
    (integer_FromInt64 k 9223372036854775807).bind fun x3 =>
    (integer_Cmp k a0 x3).bind fun x4 =>
    bif decide (x4 > 0) then
      some (0, false)
    else
      (iter (fun (x6 : (IntD × Int × Int × Unit)) => integer_Int64_L0 k x6.1 x6.2.1 x6.2.2.1) k (a0, 0, IntKind.i64.wrap ((a0.limbs.length : Int) - 1), ())).bind fun x5 =>
      bif x5.1.neg then
        some (IntKind.i64.wrap (IntKind.u64.wrap (0 - x5.2.1)), true)
      else
        some (IntKind.i64.wrap (x5.2.1), true)
def lookahead_sqrt (k : Nat) (a0 : Int) : Option Int :=
  (integer_FromInt64 k a0).bind fun x1 =>
  (integer_Sqrt k x1).bind fun x2 =>
  bif x2.2 != 0 then
    some 0
  else
    (integer_Int64 k x2.1).bind fun x3 =>
    some x3.1
def lookahead_faster (k : Nat) (a0 : Int) (a1 : Int) (a2 : Int) : Option Int :=
  (lookahead_sqrt k (IntKind.i64.wrap ((IntKind.i64.wrap (a0 * a0)) + (IntKind.i64.wrap ((IntKind.i64.wrap (2 * a2)) * a1))))).bind fun x1 =>
  some x1
def lookahead_Faster (k : Nat) (a0 : Int) (a1 : Int) (a2 : Int) : Option (Int × Int) :=
  (lookahead_within k a0 0 1000000).bind fun x1 =>
  bif !x1 then
    some (0, 1)
  else
    (lookahead_within k a1 0 100000000).bind fun x2 =>
    bif !x2 then
      some (0, 1)
    else
      (lookahead_within k a2 1 100000000).bind fun x3 =>
      bif !x3 then
        some (0, 1)
      else
        (lookahead_faster k a0 a1 a2).bind fun x4 =>
        some (x4, 0)
def lookahead_Valid_L0 (k : Nat) (t13 : List PartD) (t14 : Int) (t15 : Int) : Option ((List PartD × Int × Int × Unit) ⊕ ((Unit) ⊕ (Int × Unit))) :=
  bif decide (t15 < t14) then
    bif ixOk t15 t13.length then
      (lookahead_within k ((t13.getD t15.toNat default).Length) 0 100000000).bind fun x2 =>
      bif !x2 then
        some (.inr (.inr (1, ())))
      else
        (lookahead_within k ((t13.getD t15.toNat default).Speed) 1 1000000).bind fun x3 =>
        bif !x3 then
          some (.inr (.inr (1, ())))
        else
          (lookahead_within k ((t13.getD t15.toNat default).Corner) 0 1000000).bind fun x4 =>
          bif !x4 then
            some (.inr (.inr (1, ())))
          else
            some (.inl (t13, t14, IntKind.i64.wrap (t15 + 1), ()))
    else
      none
  else
    some (.inr (.inl (())))
def lookahead_Valid (k : Nat) (a0 : List PartD) (a1 : Int) : Option Int :=
  bif decide ((a0.length : Int) > 2000) then
    some 3
  else
    (lookahead_within k a1 1 100000000).bind fun x1 =>
    bif !x1 then
      some 1
    else
      (iter (fun (x6 : (List PartD × Int × Int × Unit)) => lookahead_Valid_L0 k x6.1 x6.2.1 x6.2.2.1) k (a0, (a0.length : Int), 0, ())).bind fun x5 =>
      match x5 with
      | .inl x7 =>
        some 0
      | .inr x8 =>
        some x8.1
def lookahead_Speeds_L0 (k : Nat) (t0 : List PartD) (t1 : Int) (t7 : List Int) (t8 : Int) : Option ((List PartD × Int × List Int × Int × Unit) ⊕ (List PartD × Int × List Int × Unit)) :=
  bif decide (t8 < (t0.length : Int)) then
    bif ixOk (IntKind.i64.wrap (t8 - 1)) t0.length then
      bif ixOk (IntKind.i64.wrap (t8 - 1)) t0.length then
        bif ixOk t8 t0.length then
          bif ixOk (IntKind.i64.wrap (t8 - 1)) t7.length then
            bif ixOk (IntKind.i64.wrap (t8 - 1)) t0.length then
              (lookahead_faster k (t7.getD ((IntKind.i64.wrap (t8 - 1)).toNat) 0) ((t0.getD (IntKind.i64.wrap (t8 - 1)).toNat default).Length) t1).bind fun x2 =>
              bif ixOk t8 t7.length then
                some (.inl (t0, t1, (t7.set t8.toNat (if x2 < (if (t0.getD t8.toNat default).Speed < (if (t0.getD (IntKind.i64.wrap (t8 - 1)).toNat default).Corner < (t0.getD (IntKind.i64.wrap (t8 - 1)).toNat default).Speed then (t0.getD (IntKind.i64.wrap (t8 - 1)).toNat default).Corner else (t0.getD (IntKind.i64.wrap (t8 - 1)).toNat default).Speed) then (t0.getD t8.toNat default).Speed else (if (t0.getD (IntKind.i64.wrap (t8 - 1)).toNat default).Corner < (t0.getD (IntKind.i64.wrap (t8 - 1)).toNat default).Speed then (t0.getD (IntKind.i64.wrap (t8 - 1)).toNat default).Corner else (t0.getD (IntKind.i64.wrap (t8 - 1)).toNat default).Speed)) then x2 else (if (t0.getD t8.toNat default).Speed < (if (t0.getD (IntKind.i64.wrap (t8 - 1)).toNat default).Corner < (t0.getD (IntKind.i64.wrap (t8 - 1)).toNat default).Speed then (t0.getD (IntKind.i64.wrap (t8 - 1)).toNat default).Corner else (t0.getD (IntKind.i64.wrap (t8 - 1)).toNat default).Speed) then (t0.getD t8.toNat default).Speed else (if (t0.getD (IntKind.i64.wrap (t8 - 1)).toNat default).Corner < (t0.getD (IntKind.i64.wrap (t8 - 1)).toNat default).Speed then (t0.getD (IntKind.i64.wrap (t8 - 1)).toNat default).Corner else (t0.getD (IntKind.i64.wrap (t8 - 1)).toNat default).Speed)))), IntKind.i64.wrap (t8 + 1), ()))
              else
                none
            else
              none
          else
            none
        else
          none
      else
        none
    else
      none
  else
    some (.inr (t0, t1, t7, ()))
def lookahead_Speeds_L2 (k : Nat) (t0 : List PartD) (t1 : Int) (t7 : List Int) (t9 : Int) : Option ((List PartD × Int × List Int × Int × Unit) ⊕ (List Int × Unit)) :=
  bif decide (t9 > 0) then
    bif ixOk t9 t7.length then
      bif ixOk (IntKind.i64.wrap (t9 + 1)) t7.length then
        bif ixOk t9 t0.length then
          (lookahead_faster k (t7.getD ((IntKind.i64.wrap (t9 + 1)).toNat) 0) ((t0.getD t9.toNat default).Length) t1).bind fun x5 =>
          bif ixOk t9 t7.length then
            some (.inl (t0, t1, (t7.set t9.toNat (if x5 < (t7.getD t9.toNat 0) then x5 else (t7.getD t9.toNat 0))), IntKind.i64.wrap (t9 - 1), ()))
          else
            none
        else
          none
      else
        none
    else
      none
  else
    some (.inr (t7, ()))
def lookahead_Speeds (k : Nat) (a0 : List PartD) (a1 : Int) : Option (List Int × Int) :=
  (lookahead_Valid k a0 a1).bind fun x1 =>
  bif x1 != 0 then
    some ([], x1)
  else
    bif (decide (0 ≤ IntKind.i64.wrap ((a0.length : Int) + 1))) && (decide (IntKind.i64.wrap ((a0.length : Int) + 1) ≤ IntKind.i64.wrap ((a0.length : Int) + 1)) && decide ((IntKind.i64.wrap ((a0.length : Int) + 1)) * ((8 : Nat) : Int) ≤ 281474976710656)) then
      (iter (fun (x4 : (List PartD × Int × List Int × Int × Unit)) => lookahead_Speeds_L0 k x4.1 x4.2.1 x4.2.2.1 x4.2.2.2.1) k (a0, a1, (List.replicate (IntKind.i64.wrap ((a0.length : Int) + 1)).toNat (0 : Int)), 1, ())).bind fun x3 =>
      (iter (fun (x7 : (List PartD × Int × List Int × Int × Unit)) => lookahead_Speeds_L2 k x7.1 x7.2.1 x7.2.2.1 x7.2.2.2.1) k (x3.1, x3.2.1, x3.2.2.1, IntKind.i64.wrap ((x3.1.length : Int) - 1), ())).bind fun x6 =>
      some (x6.1, 0)
    else
      none
def lookahead_far_L0 (k : Nat) (t11 : List Int) (t12 : Int) (t13 : Int) : Option ((List Int × Int × Int × Unit) ⊕ ((Unit) ⊕ (Bool × Unit))) :=
  bif decide (t13 < t12) then
    bif ixOk t13 t11.length then
      (lookahead_within k (t11.getD t13.toNat 0) (-10000000) 10000000).bind fun x1 =>
      bif !x1 then
        some (.inr (.inr (true, ())))
      else
        some (.inl (t11, t12, IntKind.i64.wrap (t13 + 1), ()))
    else
      none
  else
    some (.inr (.inl (())))
def lookahead_far (k : Nat) (a0 : PosD) : Option Bool :=
  (iter (fun (x3 : (List Int × Int × Int × Unit)) => lookahead_far_L0 k x3.1 x3.2.1 x3.2.2.1) k (([a0.X, a0.Y, a0.Z] : List Int), (([a0.X, a0.Y, a0.Z] : List Int).length : Int), 0, ())).bind fun x2 =>
  match x2 with
  | .inl x4 =>
    some false
  | .inr x5 =>
    some x5.1
def lookahead_square (k : Nat) (a0 : PosD) : Option Int :=
  some (IntKind.i64.wrap ((IntKind.i64.wrap ((IntKind.i64.wrap (a0.X * a0.X)) + (IntKind.i64.wrap (a0.Y * a0.Y)))) + (IntKind.i64.wrap (a0.Z * a0.Z))))
def rational_Frac (k : Nat) (a0 : Int) (a1 : Int) : Option RatD :=
  bif a1 == 0 then
    (rational_FromInt64 k 0).bind fun x1 =>
    some x1
  else
    (integer_FromInt64 k a0).bind fun x2 =>
    (integer_FromInt64 k a1).bind fun x3 =>
    (rational_reduce k x2 x3).bind fun x4 =>
    some x4
def cmp_isNaN (k : Nat) (a0 : Int) : Option Bool :=
  some (a0 != a0)
def cmp_Compare (k : Nat) (a0 : Int) (a1 : Int) : Option Int :=
  (cmp_isNaN k a0).bind fun x1 =>
  (cmp_isNaN k a1).bind fun x2 =>
  bif x1 then
    bif x2 then
      some 0
    else
      some (-1)
  else
    bif x2 then
      some 1
    else
      bif decide (a0 < a1) then
        some (-1)
      else
        bif decide (a0 > a1) then
          some 1
        else
          some 0
def rational_Cmp (k : Nat) (a0 : RatD) (a1 : RatD) : Option Int :=
  (rational_Sign k a0).bind fun x1 =>
  (rational_Sign k a1).bind fun x2 =>
  (cmp_Compare k x1 x2).bind fun x3 =>
  bif x3 != 0 then
    some x3
  else
    (integer_Mul k a0.num a1.den).bind fun x4 =>
    (integer_Mul k a1.num a0.den).bind fun x5 =>
    (integer_Cmp k x4 x5).bind fun x6 =>
    some x6
def root_common (k : Nat) (a0 : RootD) (a1 : RootD) : Option (RatD × Bool) :=
  (rational_Sign k a0.B).bind fun x1 =>
  bif x1 == 0 then
    some (a1.C, true)
  else
    (rational_Sign k a1.B).bind fun x2 =>
    bif x2 == 0 then
      some (a0.C, true)
    else
      (rational_Cmp k a0.C a1.C).bind fun x3 =>
      some (a0.C, x3 == 0)
def root_Add (k : Nat) (a0 : RootD) (a1 : RootD) : Option (RootD × Int) :=
  (root_common k a0 a1).bind fun x1 =>
  bif !x1.2 then
    some ((⟨(⟨(⟨false, []⟩ : IntD), (⟨false, []⟩ : IntD)⟩ : RatD), (⟨(⟨false, []⟩ : IntD), (⟨false, []⟩ : IntD)⟩ : RatD), (⟨(⟨false, []⟩ : IntD), (⟨false, []⟩ : IntD)⟩ : RatD)⟩ : RootD), 1)
  else
    (rational_Add k a0.A a1.A).bind fun x2 =>
    (rational_Add k a0.B a1.B).bind fun x3 =>
    (root_reduced k x2 x3 x1.1).bind fun x4 =>
    some (x4, 0)
def lookahead_allowed (k : Nat) (a0 : Int) (a1 : Int) (a2 : Int) (a3 : Int) (a4 : Int) (a5 : Int) : Option Bool :=
  (rational_FromInt64 k a3).bind fun x1 =>
  (rational_FromInt64 k a4).bind fun x2 =>
  (rational_Mul k x1 x2).bind fun x3 =>
  (rational_Frac k (IntKind.i64.wrap (a1 * a1)) a3).bind fun x4 =>
  (rational_Frac k (IntKind.i64.wrap (a2 * a2)) a4).bind fun x5 =>
  (rational_Add k x4 x5).bind fun x6 =>
  (rational_FromInt64 k (-2)).bind fun x7 =>
  (rational_FromInt64 k a1).bind fun x8 =>
  (rational_FromInt64 k a2).bind fun x9 =>
  (rational_Mul k x8 x9).bind fun x10 =>
  (rational_Mul k x7 x10).bind fun x11 =>
  (rational_Div k x11 x3).bind fun x12 =>
  bif x12.2 != 0 then
    some false
  else
    (root_Make k x6 x12.1 x3).bind fun x13 =>
    bif x13.2 != 0 then
      some false
    else
      (rational_FromInt64 k a0).bind fun x14 =>
      (rational_FromInt64 k a0).bind fun x15 =>
      (rational_Mul k x14 x15).bind fun x16 =>
      (root_Scale k x13.1 x16).bind fun x17 =>
      (rational_FromInt64 k a5).bind fun x18 =>
      (rational_FromInt64 k a5).bind fun x19 =>
      (rational_Mul k x18 x19).bind fun x20 =>
      (rational_Neg k x20).bind fun x21 =>
      (root_FromRat k x21).bind fun x22 =>
      (root_Add k x17 x22).bind fun x23 =>
      bif x23.2 == 0 then
        (root_Sign k x23.1).bind fun x24 =>
        some (decide (x24 ≤ 0))
      else
        some false
def lookahead_Corner_1 (k : Nat) (a0 : Int) (a1 : PosD) (a2 : PosD) (a3 : Int) (a4 : Int) (a5 : Int) : Option Bool :=
  (lookahead_allowed k (IntKind.i64.wrap (a0 + 1)) a1.X a2.X a3 a4 a5).bind fun x1 =>
  bif !x1 then
    some true
  else
    (lookahead_allowed k (IntKind.i64.wrap (a0 + 1)) a1.Y a2.Y a3 a4 a5).bind fun x2 =>
    bif !x2 then
      some true
    else
      (lookahead_allowed k (IntKind.i64.wrap (a0 + 1)) a1.Z a2.Z a3 a4 a5).bind fun x3 =>
      some (!x3)
def sort_Search_lookahead_Corner_1_L0 (k : Nat) (t1 : (PosD × PosD × Int × Int × Int × Unit)) (t5 : Int) (t6 : Int) : Option (((PosD × PosD × Int × Int × Int × Unit) × Int × Int × Unit) ⊕ (Int × Unit)) :=
  bif decide (t5 < t6) then
    (lookahead_Corner_1 k (IntKind.i64.wrap ((IntKind.u64.wrap (IntKind.i64.wrap (t5 + t6))).fdiv (2 ^ (min 1 IntKind.u64.bits)))) t1.1 t1.2.1 t1.2.2.1 t1.2.2.2.1 t1.2.2.2.2.1).bind fun x1 =>
    bif !x1 then
      some (.inl ((t1.1, t1.2.1, t1.2.2.1, t1.2.2.2.1, t1.2.2.2.2.1, ()), IntKind.i64.wrap ((IntKind.i64.wrap ((IntKind.u64.wrap (IntKind.i64.wrap (t5 + t6))).fdiv (2 ^ (min 1 IntKind.u64.bits)))) + 1), t6, ()))
    else
      some (.inl ((t1.1, t1.2.1, t1.2.2.1, t1.2.2.2.1, t1.2.2.2.2.1, ()), t5, IntKind.i64.wrap ((IntKind.u64.wrap (IntKind.i64.wrap (t5 + t6))).fdiv (2 ^ (min 1 IntKind.u64.bits))), ()))
  else
    some (.inr (t5, ()))
def sort_Search_lookahead_Corner_1 (k : Nat) (a0 : Int) (a1 : (PosD × PosD × Int × Int × Int × Unit)) : Option Int :=
  (iter (fun (x3 : ((PosD × PosD × Int × Int × Int × Unit) × Int × Int × Unit)) => sort_Search_lookahead_Corner_1_L0 k x3.1 x3.2.1 x3.2.2.1) k ((a1.1, a1.2.1, a1.2.2.1, a1.2.2.2.1, a1.2.2.2.2.1, ()), 0, a0, ())).bind fun x2 =>
  some x2.1
def lookahead_Corner (k : Nat) (a0 : PosD) (a1 : PosD) (a2 : Int) : Option (Int × Int) :=
  (lookahead_within k a2 0 1000000).bind fun x1 =>
  bif !x1 then
    some (0, 1)
  else
    (lookahead_far k a0).bind fun x2 =>
    bif x2 then
      some (0, 11)
    else
      (lookahead_far k a1).bind fun x3 =>
      bif x3 then
        some (0, 11)
      else
        (lookahead_square k a0).bind fun x4 =>
        (lookahead_square k a1).bind fun x5 =>
        bif x4 == 0 then
          some (0, 6)
        else
          bif x5 == 0 then
            some (0, 6)
          else
            (sort_Search_lookahead_Corner_1 k 1000000 (a0, a1, x4, x5, a2, ())).bind fun x6 =>
            some (x6, 0)
def lookahead_Reach (k : Nat) (a0 : Int) (a1 : Int) (a2 : Int) : Option (RatD × Int) :=
  (lookahead_within k a0 0 1000000000000).bind fun x1 =>
  bif !x1 then
    some ((⟨(⟨false, []⟩ : IntD), (⟨false, []⟩ : IntD)⟩ : RatD), 1)
  else
    (lookahead_within k a1 1 1000000).bind fun x2 =>
    bif !x2 then
      some ((⟨(⟨false, []⟩ : IntD), (⟨false, []⟩ : IntD)⟩ : RatD), 1)
    else
      (lookahead_within k a2 1 100000000).bind fun x3 =>
      bif !x3 then
        some ((⟨(⟨false, []⟩ : IntD), (⟨false, []⟩ : IntD)⟩ : RatD), 1)
      else
        (rational_Frac k a0 1000).bind fun x4 =>
        (rational_FromInt64 k a1).bind fun x5 =>
        (rational_FromInt64 k a2).bind fun x6 =>
        (rational_Mul k x4 x6).bind fun x7 =>
        (rational_Add k x5 x5).bind fun x8 =>
        (rational_Cmp k x7 x8).bind fun x9 =>
        bif decide (x9 ≥ 0) then
          (rational_Mul k x5 x4).bind fun x10 =>
          (rational_Frac k (IntKind.i64.wrap (a1 * a1)) a2).bind fun x11 =>
          (rational_Sub k x10 x11).bind fun x12 =>
          some (x12, 0)
        else
          (rational_Frac k a2 4).bind fun x13 =>
          (rational_Mul k x4 x4).bind fun x14 =>
          (rational_Mul k x13 x14).bind fun x15 =>
          some (x15, 0)
def lookahead_Straight_1 (k : Nat) (a0 : Int) (a1 : Int) (a2 : Int) (a3 : RatD) : Option Bool :=
  (lookahead_Reach k a0 a1 a2).bind fun x1 =>
  bif x1.2 == 0 then
    (rational_Cmp k x1.1 a3).bind fun x2 =>
    some (decide (x2 ≥ 0))
  else
    some false
def sort_Search_lookahead_Straight_1_L0 (k : Nat) (t1 : (Int × Int × RatD × Unit)) (t5 : Int) (t6 : Int) : Option (((Int × Int × RatD × Unit) × Int × Int × Unit) ⊕ (Int × Unit)) :=
  bif decide (t5 < t6) then
    (lookahead_Straight_1 k (IntKind.i64.wrap ((IntKind.u64.wrap (IntKind.i64.wrap (t5 + t6))).fdiv (2 ^ (min 1 IntKind.u64.bits)))) t1.1 t1.2.1 t1.2.2.1).bind fun x1 =>
    bif !x1 then
      some (.inl ((t1.1, t1.2.1, t1.2.2.1, ()), IntKind.i64.wrap ((IntKind.i64.wrap ((IntKind.u64.wrap (IntKind.i64.wrap (t5 + t6))).fdiv (2 ^ (min 1 IntKind.u64.bits)))) + 1), t6, ()))
    else
      some (.inl ((t1.1, t1.2.1, t1.2.2.1, ()), t5, IntKind.i64.wrap ((IntKind.u64.wrap (IntKind.i64.wrap (t5 + t6))).fdiv (2 ^ (min 1 IntKind.u64.bits))), ()))
  else
    some (.inr (t5, ()))
def sort_Search_lookahead_Straight_1 (k : Nat) (a0 : Int) (a1 : (Int × Int × RatD × Unit)) : Option Int :=
  (iter (fun (x3 : ((Int × Int × RatD × Unit) × Int × Int × Unit)) => sort_Search_lookahead_Straight_1_L0 k x3.1 x3.2.1 x3.2.2.1) k ((a1.1, a1.2.1, a1.2.2.1, ()), 0, a0, ())).bind fun x2 =>
  some x2.1
def lookahead_Straight (k : Nat) (a0 : Int) (a1 : Int) (a2 : Int) : Option (Int × Int) :=
  (lookahead_within k a0 0 100000000).bind fun x1 =>
  bif !x1 then
    some (0, 1)
  else
    (lookahead_within k a1 1 1000000).bind fun x2 =>
    bif !x2 then
      some (0, 1)
    else
      (lookahead_within k a2 1 100000000).bind fun x3 =>
      bif !x3 then
        some (0, 1)
      else
        (rational_FromInt64 k a0).bind fun x4 =>
        (sort_Search_lookahead_Straight_1 k 1000000000000 (a1, a2, x4, ())).bind fun x5 =>
        some (x5, 0)
def slices_Equal_L0 (k : Nat) (t0 : List Int) (t1 : List Int) (t12 : Int) (t13 : Int) : Option ((List Int × List Int × Int × Int × Unit) ⊕ ((Unit) ⊕ (Bool × Unit))) :=
  bif decide (t13 < t12) then
    bif ixOk t13 t0.length then
      bif ixOk t13 t1.length then
        bif (t0.getD t13.toNat 0) != (t1.getD t13.toNat 0) then
          some (.inr (.inr (false, ())))
        else
          some (.inl (t0, t1, t12, IntKind.i64.wrap (t13 + 1), ()))
      else
        none
    else
      none
  else
    some (.inr (.inl (())))
def slices_Equal (k : Nat) (a0 : List Int) (a1 : List Int) : Option Bool :=
  bif (a0.length : Int) != (a1.length : Int) then
    some false
  else
    (iter (fun (x2 : (List Int × List Int × Int × Int × Unit)) => slices_Equal_L0 k x2.1 x2.2.1 x2.2.2.1 x2.2.2.2.1) k (a0, a1, (a0.length : Int), 0, ())).bind fun x1 =>
    match x1 with
    | .inl x3 =>
      some true
    | .inr x4 =>
      some x4.1
def swarfref02_FromInt (k : Nat) (a0 : IntD) : Option RatD :=
  (swarfref02_unit k).bind fun x1 =>
  some (⟨a0, x1⟩ : RatD)
def swarfref48_Whole (k : Nat) (a0 : Int) : Option RatD :=
  (swarfref01_FromInt64 k a0).bind fun x1 =>
  (swarfref02_FromInt k x1).bind fun x2 =>
  some x2
def swarflaw48_awake (k : Nat) : Option Bool :=
  (lookahead_Faster k 0 500 1000).bind fun x1 =>
  (lookahead_Speeds k ([(⟨500, 2000, 600⟩ : PartD), (⟨500, 2000, 2000⟩ : PartD)] : List PartD) 1000).bind fun x2 =>
  (lookahead_Corner k (⟨1, 0, 0⟩ : PosD) (⟨0, 1, 0⟩ : PosD) 500).bind fun x3 =>
  (lookahead_Reach k 2000 1000 1000).bind fun x4 =>
  (lookahead_Straight k 1000 1000 1000).bind fun x5 =>
  bif x1.2 == 0 then
    bif x2.2 == 0 then
      bif x3.2 == 0 then
        bif x4.2 == 0 then
          bif x5.2 == 0 then
            bif x1.1 == 1000 then
              (slices_Equal k x2.1 ([0, 600, 0] : List Int)).bind fun x6 =>
              bif x6 then
                bif x3.1 == 500 then
                  (swarfref48_Whole k 1000).bind fun x7 =>
                  (swarfref02_Same k x4.1 x7).bind fun x8 =>
                  bif x8 then
                    some (x5.1 == 2000)
                  else
                    some false
                else
                  some false
              else
                some false
            else
              some false
          else
            some false
        else
          some false
      else
        some false
    else
      some false
  else
    some false
def swarflaw48_of_L0 (k : Nat) (t3 : List PartD) (t6 : List PartD) (t7 : Int) (t8 : Int) : Option ((List PartD × List PartD × Int × Int × Unit) ⊕ (List PartD × Unit)) :=
  bif decide (t8 < t7) then
    bif ixOk t8 t6.length then
      bif decide ((t3.length + ([(t6.getD t8.toNat default)] : List PartD).length) * 24 ≤ 140737488355328) then
        some (.inl ((t3 ++ ([(t6.getD t8.toNat default)] : List PartD)), t6, t7, IntKind.i64.wrap (t8 + 1), ()))
      else
        none
    else
      none
  else
    some (.inr (t3, ()))
def swarflaw48_of (k : Nat) (a0 : List PartD) : Option (List PartD) :=
  (iter (fun (x2 : (List PartD × List PartD × Int × Int × Unit)) => swarflaw48_of_L0 k x2.1 x2.2.1 x2.2.2.1 x2.2.2.2.1) k ([], a0, (a0.length : Int), 0, ())).bind fun x1 =>
  some x1.1
def lookahead_Feasible_L0 (k : Nat) (t1 : Int) (t2 : List Int) (t38 : List PartD) (t39 : Int) (t40 : Int) : Option ((Int × List Int × List PartD × Int × Int × Unit) ⊕ ((Unit) ⊕ (Bool × Unit))) :=
  bif decide (t40 < t39) then
    bif ixOk t40 t38.length then
      bif ixOk t40 t2.length then
        bif ixOk (IntKind.i64.wrap (t40 + 1)) t2.length then
          (lookahead_within k (t2.getD t40.toNat 0) 0 ((t38.getD t40.toNat default).Speed)).bind fun x2 =>
          bif !x2 then
            some (.inr (.inr (false, ())))
          else
            (lookahead_within k (t2.getD (IntKind.i64.wrap (t40 + 1)).toNat 0) 0 (if (t38.getD t40.toNat default).Corner < (t38.getD t40.toNat default).Speed then (t38.getD t40.toNat default).Corner else (t38.getD t40.toNat default).Speed)).bind fun x3 =>
            bif !x3 then
              some (.inr (.inr (false, ())))
            else
              bif decide ((if IntKind.i64.wrap (0 - (IntKind.i64.wrap ((IntKind.i64.wrap ((t2.getD t40.toNat 0) * (t2.getD t40.toNat 0))) - (IntKind.i64.wrap ((t2.getD (IntKind.i64.wrap (t40 + 1)).toNat 0) * (t2.getD (IntKind.i64.wrap (t40 + 1)).toNat 0)))))) > IntKind.i64.wrap ((IntKind.i64.wrap ((t2.getD t40.toNat 0) * (t2.getD t40.toNat 0))) - (IntKind.i64.wrap ((t2.getD (IntKind.i64.wrap (t40 + 1)).toNat 0) * (t2.getD (IntKind.i64.wrap (t40 + 1)).toNat 0)))) then IntKind.i64.wrap (0 - (IntKind.i64.wrap ((IntKind.i64.wrap ((t2.getD t40.toNat 0) * (t2.getD t40.toNat 0))) - (IntKind.i64.wrap ((t2.getD (IntKind.i64.wrap (t40 + 1)).toNat 0) * (t2.getD (IntKind.i64.wrap (t40 + 1)).toNat 0)))))) else IntKind.i64.wrap ((IntKind.i64.wrap ((t2.getD t40.toNat 0) * (t2.getD t40.toNat 0))) - (IntKind.i64.wrap ((t2.getD (IntKind.i64.wrap (t40 + 1)).toNat 0) * (t2.getD (IntKind.i64.wrap (t40 + 1)).toNat 0))))) > (IntKind.i64.wrap ((IntKind.i64.wrap (2 * t1)) * ((t38.getD t40.toNat default).Length)))) then
                some (.inr (.inr (false, ())))
              else
                some (.inl (t1, t2, t38, t39, IntKind.i64.wrap (t40 + 1), ()))
        else
          none
      else
        none
    else
      none
  else
    some (.inr (.inl (())))
def lookahead_Feasible (k : Nat) (a0 : List PartD) (a1 : Int) (a2 : List Int) : Option Bool :=
  (lookahead_Valid k a0 a1).bind fun x1 =>
  bif x1 != 0 then
    some false
  else
    bif (a2.length : Int) != (IntKind.i64.wrap ((a0.length : Int) + 1)) then
      some false
    else
      bif ixOk 0 a2.length then
        bif (a2.getD 0 0) != 0 then
          some false
        else
          bif ixOk (a0.length : Int) a2.length then
            bif (a2.getD (a0.length : Int).toNat 0) != 0 then
              some false
            else
              (iter (fun (x5 : (Int × List Int × List PartD × Int × Int × Unit)) => lookahead_Feasible_L0 k x5.1 x5.2.1 x5.2.2.1 x5.2.2.2.1 x5.2.2.2.2.1) k (a1, a2, a0, (a0.length : Int), 0, ())).bind fun x4 =>
              match x4 with
              | .inl x6 =>
                some true
              | .inr x7 =>
                some x7.1
          else
            none
      else
        none
def swarfref48_Accel (k : Nat) (a0 : Int) : Option Bool :=
  bif decide (a0 ≥ 1) then
    some (decide (a0 ≤ 100000000))
  else
    some false
def swarfref48_Long (k : Nat) (a0 : Int) : Option Bool :=
  bif decide (a0 ≥ 0) then
    some (decide (a0 ≤ 100000000))
  else
    some false
def swarfref48_Speed (k : Nat) (a0 : Int) : Option Bool :=
  bif decide (a0 ≥ 0) then
    some (decide (a0 ≤ 1000000))
  else
    some false
def swarfref48_Valid_L0 (k : Nat) (t0 : List PartD) (t5 : Bool) (t6 : Int) : Option ((List PartD × Bool × Int × Unit) ⊕ (Bool × Unit)) :=
  bif decide (t6 < (t0.length : Int)) then
    bif t5 then
      bif ixOk t6 t0.length then
        (swarfref48_Long k ((t0.getD t6.toNat default).Length)).bind fun x2 =>
        bif x2 then
          bif ixOk t6 t0.length then
            (swarfref48_Speed k ((t0.getD t6.toNat default).Speed)).bind fun x3 =>
            bif x3 then
              bif ixOk t6 t0.length then
                bif decide (((t0.getD t6.toNat default).Speed) ≥ 1) then
                  bif ixOk t6 t0.length then
                    (swarfref48_Speed k ((t0.getD t6.toNat default).Corner)).bind fun x4 =>
                    some (.inl (t0, x4, IntKind.i64.wrap (t6 + 1), ()))
                  else
                    none
                else
                  some (.inl (t0, false, IntKind.i64.wrap (t6 + 1), ()))
              else
                none
            else
              some (.inl (t0, false, IntKind.i64.wrap (t6 + 1), ()))
          else
            none
        else
          some (.inl (t0, false, IntKind.i64.wrap (t6 + 1), ()))
      else
        none
    else
      some (.inl (t0, false, IntKind.i64.wrap (t6 + 1), ()))
  else
    some (.inr (t5, ()))
def swarfref48_Valid (k : Nat) (a0 : List PartD) (a1 : Int) : Option Int :=
  bif decide ((a0.length : Int) > 2000) then
    some 3
  else
    (swarfref48_Accel k a1).bind fun x1 =>
    (iter (fun (x6 : (List PartD × Bool × Int × Unit)) => swarfref48_Valid_L0 k x6.1 x6.2.1 x6.2.2.1) k (a0, x1, 0, ())).bind fun x5 =>
    bif !x5.1 then
      some 1
    else
      some 0
def swarfref48_Feasible_L0 (k : Nat) (t0 : List PartD) (t1 : Int) (t2 : List Int) (t7 : Int) : Option ((List PartD × Int × List Int × Int × Unit) ⊕ ((Unit) ⊕ (Bool × Unit))) :=
  bif decide (t7 < (t0.length : Int)) then
    bif ixOk t7 t2.length then
      bif ixOk (IntKind.i64.wrap (t7 + 1)) t2.length then
        bif decide ((t2.getD t7.toNat 0) < 0) then
          some (.inr (.inr (false, ())))
        else
          bif decide ((t2.getD (IntKind.i64.wrap (t7 + 1)).toNat 0) < 0) then
            some (.inr (.inr (false, ())))
          else
            bif ixOk t7 t0.length then
              bif decide ((t2.getD t7.toNat 0) > ((t0.getD t7.toNat default).Speed)) then
                some (.inr (.inr (false, ())))
              else
                bif ixOk t7 t0.length then
                  bif decide ((t2.getD (IntKind.i64.wrap (t7 + 1)).toNat 0) > ((t0.getD t7.toNat default).Speed)) then
                    some (.inr (.inr (false, ())))
                  else
                    bif ixOk t7 t0.length then
                      bif decide ((t2.getD (IntKind.i64.wrap (t7 + 1)).toNat 0) > ((t0.getD t7.toNat default).Corner)) then
                        some (.inr (.inr (false, ())))
                      else
                        bif ixOk t7 t0.length then
                          bif decide ((IntKind.i64.wrap ((IntKind.i64.wrap ((t2.getD t7.toNat 0) * (t2.getD t7.toNat 0))) - (IntKind.i64.wrap ((t2.getD (IntKind.i64.wrap (t7 + 1)).toNat 0) * (t2.getD (IntKind.i64.wrap (t7 + 1)).toNat 0))))) > (IntKind.i64.wrap ((IntKind.i64.wrap (2 * t1)) * ((t0.getD t7.toNat default).Length)))) then
                            some (.inr (.inr (false, ())))
                          else
                            bif ixOk t7 t0.length then
                              bif decide ((IntKind.i64.wrap (0 - (IntKind.i64.wrap ((IntKind.i64.wrap ((t2.getD t7.toNat 0) * (t2.getD t7.toNat 0))) - (IntKind.i64.wrap ((t2.getD (IntKind.i64.wrap (t7 + 1)).toNat 0) * (t2.getD (IntKind.i64.wrap (t7 + 1)).toNat 0))))))) > (IntKind.i64.wrap ((IntKind.i64.wrap (2 * t1)) * ((t0.getD t7.toNat default).Length)))) then
                                some (.inr (.inr (false, ())))
                              else
                                some (.inl (t0, t1, t2, IntKind.i64.wrap (t7 + 1), ()))
                            else
                              none
                        else
                          none
                    else
                      none
                else
                  none
            else
              none
      else
        none
    else
      none
  else
    some (.inr (.inl (())))
def swarfref48_Feasible (k : Nat) (a0 : List PartD) (a1 : Int) (a2 : List Int) : Option Bool :=
  (swarfref48_Valid k a0 a1).bind fun x1 =>
  bif x1 != 0 then
    some false
  else
    bif (a2.length : Int) != (IntKind.i64.wrap ((a0.length : Int) + 1)) then
      some false
    else
      bif ixOk 0 a2.length then
        bif (a2.getD 0 0) != 0 then
          some false
        else
          bif ixOk (a0.length : Int) a2.length then
            bif (a2.getD (a0.length : Int).toNat 0) != 0 then
              some false
            else
              (iter (fun (x3 : (List PartD × Int × List Int × Int × Unit)) => swarfref48_Feasible_L0 k x3.1 x3.2.1 x3.2.2.1 x3.2.2.2.1) k (a0, a1, a2, 0, ())).bind fun x2 =>
              match x2 with
              | .inl x4 =>
                some true
              | .inr x5 =>
                some x5.1
          else
            none
      else
        none
def swarflaw48_LookaheadFeasible_L0 (k : Nat) (t0 : List PartD) (t1 : Int) (t2 : List Int) (t19 : List Int) (t20 : Int) (t21 : Int) : Option ((List PartD × Int × List Int × List Int × Int × Int × Unit) ⊕ ((List PartD × Int × List Int × Unit) ⊕ (Bool × Unit))) :=
  bif decide (t21 < t20) then
    bif ixOk t21 t19.length then
      bif decide ((t19.getD t21.toNat 0) < (-100000000)) then
        some (.inr (.inr (true, ())))
      else
        bif decide ((t19.getD t21.toNat 0) > 100000000) then
          some (.inr (.inr (true, ())))
        else
          some (.inl (t0, t1, t2, t19, t20, IntKind.i64.wrap (t21 + 1), ()))
    else
      none
  else
    some (.inr (.inl (t0, t1, t2, ())))
def swarflaw48_LookaheadFeasible (k : Nat) (a0 : List PartD) (a1 : Int) (a2 : List Int) : Option Bool :=
  (swarflaw48_awake k).bind fun x1 =>
  bif !x1 then
    some false
  else
    bif decide ((a0.length : Int) > 60) then
      some true
    else
      bif decide ((a2.length : Int) > 70) then
        some true
      else
        (iter (fun (x3 : (List PartD × Int × List Int × List Int × Int × Int × Unit)) => swarflaw48_LookaheadFeasible_L0 k x3.1 x3.2.1 x3.2.2.1 x3.2.2.2.1 x3.2.2.2.2.1 x3.2.2.2.2.2.1) k (a0, a1, a2, a2, (a2.length : Int), 0, ())).bind fun x2 =>
        match x2 with
        | .inl x4 =>
          (swarflaw48_of k x4.1).bind fun x6 =>
          (lookahead_Feasible k x6 x4.2.1 x4.2.2.1).bind fun x7 =>
          (swarfref48_Feasible k x4.1 x4.2.1 x4.2.2.1).bind fun x8 =>
          some (x7 == x8)
        | .inr x5 =>
          some x5.1
def root_Mul (k : Nat) (a0 : RootD) (a1 : RootD) : Option (RootD × Int) :=
  (root_common k a0 a1).bind fun x1 =>
  bif !x1.2 then
    some ((⟨(⟨(⟨false, []⟩ : IntD), (⟨false, []⟩ : IntD)⟩ : RatD), (⟨(⟨false, []⟩ : IntD), (⟨false, []⟩ : IntD)⟩ : RatD), (⟨(⟨false, []⟩ : IntD), (⟨false, []⟩ : IntD)⟩ : RatD)⟩ : RootD), 1)
  else
    (rational_Mul k a0.A a1.A).bind fun x2 =>
    (rational_Mul k a0.B a1.B).bind fun x3 =>
    (rational_Mul k x3 x1.1).bind fun x4 =>
    (rational_Add k x2 x4).bind fun x5 =>
    (rational_Mul k a0.A a1.B).bind fun x6 =>
    (rational_Mul k a0.B a1.A).bind fun x7 =>
    (rational_Add k x6 x7).bind fun x8 =>
    (root_reduced k x5 x8 x1.1).bind fun x9 =>
    some (x9, 0)
def swarflaw03_RootField (k : Nat) (a0 : (SurdD × SurdD × SurdD)) : Option Bool :=
  (swarflaw03_awake k).bind fun x1 =>
  bif !x1 then
    some false
  else
    (swarfref03_Of k a0.1).bind fun x2 =>
    bif decide ((([] : List RootD).length + ([x2] : List RootD).length) * 192 ≤ 140737488355328) then
      (swarfref03_Of k (⟨a0.2.1.A, a0.2.1.B, a0.1.C, a0.2.1.D, a0.2.1.E, a0.1.F⟩ : SurdD)).bind fun x3 =>
      bif decide ((([x2] : List RootD).length + ([x3] : List RootD).length) * 192 ≤ 140737488355328) then
        (swarfref03_Of k (⟨a0.2.2.A, a0.2.2.B, a0.1.C, a0.2.2.D, a0.2.2.E, a0.1.F⟩ : SurdD)).bind fun x4 =>
        bif decide (((([x2] : List RootD) ++ ([x3] : List RootD)).length + ([x4] : List RootD).length) * 192 ≤ 140737488355328) then
          bif ixOk 0 ((([x2] : List RootD) ++ ([x3] : List RootD)) ++ ([x4] : List RootD)).length then
            bif ixOk 1 ((([x2] : List RootD) ++ ([x3] : List RootD)) ++ ([x4] : List RootD)).length then
              (root_Add k (⟨(⟨(((((([x2] : List RootD) ++ ([x3] : List RootD)) ++ ([x4] : List RootD)).getD 0 default).A).num), (((((([x2] : List RootD) ++ ([x3] : List RootD)) ++ ([x4] : List RootD)).getD 0 default).A).den)⟩ : RatD), (⟨(((((([x2] : List RootD) ++ ([x3] : List RootD)) ++ ([x4] : List RootD)).getD 0 default).B).num), (((((([x2] : List RootD) ++ ([x3] : List RootD)) ++ ([x4] : List RootD)).getD 0 default).B).den)⟩ : RatD), (⟨(((((([x2] : List RootD) ++ ([x3] : List RootD)) ++ ([x4] : List RootD)).getD 0 default).C).num), (((((([x2] : List RootD) ++ ([x3] : List RootD)) ++ ([x4] : List RootD)).getD 0 default).C).den)⟩ : RatD)⟩ : RootD) (⟨(⟨(((((([x2] : List RootD) ++ ([x3] : List RootD)) ++ ([x4] : List RootD)).getD 1 default).A).num), (((((([x2] : List RootD) ++ ([x3] : List RootD)) ++ ([x4] : List RootD)).getD 1 default).A).den)⟩ : RatD), (⟨(((((([x2] : List RootD) ++ ([x3] : List RootD)) ++ ([x4] : List RootD)).getD 1 default).B).num), (((((([x2] : List RootD) ++ ([x3] : List RootD)) ++ ([x4] : List RootD)).getD 1 default).B).den)⟩ : RatD), (⟨(((((([x2] : List RootD) ++ ([x3] : List RootD)) ++ ([x4] : List RootD)).getD 1 default).C).num), (((((([x2] : List RootD) ++ ([x3] : List RootD)) ++ ([x4] : List RootD)).getD 1 default).C).den)⟩ : RatD)⟩ : RootD)).bind fun x5 =>
              bif ixOk 2 ((([x2] : List RootD) ++ ([x3] : List RootD)) ++ ([x4] : List RootD)).length then
                (root_Add k x5.1 (⟨(⟨(((((([x2] : List RootD) ++ ([x3] : List RootD)) ++ ([x4] : List RootD)).getD 2 default).A).num), (((((([x2] : List RootD) ++ ([x3] : List RootD)) ++ ([x4] : List RootD)).getD 2 default).A).den)⟩ : RatD), (⟨(((((([x2] : List RootD) ++ ([x3] : List RootD)) ++ ([x4] : List RootD)).getD 2 default).B).num), (((((([x2] : List RootD) ++ ([x3] : List RootD)) ++ ([x4] : List RootD)).getD 2 default).B).den)⟩ : RatD), (⟨(((((([x2] : List RootD) ++ ([x3] : List RootD)) ++ ([x4] : List RootD)).getD 2 default).C).num), (((((([x2] : List RootD) ++ ([x3] : List RootD)) ++ ([x4] : List RootD)).getD 2 default).C).den)⟩ : RatD)⟩ : RootD)).bind fun x6 =>
                bif ixOk 1 ((([x2] : List RootD) ++ ([x3] : List RootD)) ++ ([x4] : List RootD)).length then
                  bif ixOk 2 ((([x2] : List RootD) ++ ([x3] : List RootD)) ++ ([x4] : List RootD)).length then
                    (root_Add k (⟨(⟨(((((([x2] : List RootD) ++ ([x3] : List RootD)) ++ ([x4] : List RootD)).getD 1 default).A).num), (((((([x2] : List RootD) ++ ([x3] : List RootD)) ++ ([x4] : List RootD)).getD 1 default).A).den)⟩ : RatD), (⟨(((((([x2] : List RootD) ++ ([x3] : List RootD)) ++ ([x4] : List RootD)).getD 1 default).B).num), (((((([x2] : List RootD) ++ ([x3] : List RootD)) ++ ([x4] : List RootD)).getD 1 default).B).den)⟩ : RatD), (⟨(((((([x2] : List RootD) ++ ([x3] : List RootD)) ++ ([x4] : List RootD)).getD 1 default).C).num), (((((([x2] : List RootD) ++ ([x3] : List RootD)) ++ ([x4] : List RootD)).getD 1 default).C).den)⟩ : RatD)⟩ : RootD) (⟨(⟨(((((([x2] : List RootD) ++ ([x3] : List RootD)) ++ ([x4] : List RootD)).getD 2 default).A).num), (((((([x2] : List RootD) ++ ([x3] : List RootD)) ++ ([x4] : List RootD)).getD 2 default).A).den)⟩ : RatD), (⟨(((((([x2] : List RootD) ++ ([x3] : List RootD)) ++ ([x4] : List RootD)).getD 2 default).B).num), (((((([x2] : List RootD) ++ ([x3] : List RootD)) ++ ([x4] : List RootD)).getD 2 default).B).den)⟩ : RatD), (⟨(((((([x2] : List RootD) ++ ([x3] : List RootD)) ++ ([x4] : List RootD)).getD 2 default).C).num), (((((([x2] : List RootD) ++ ([x3] : List RootD)) ++ ([x4] : List RootD)).getD 2 default).C).den)⟩ : RatD)⟩ : RootD)).bind fun x7 =>
                    bif ixOk 0 ((([x2] : List RootD) ++ ([x3] : List RootD)) ++ ([x4] : List RootD)).length then
                      (root_Add k (⟨(⟨(((((([x2] : List RootD) ++ ([x3] : List RootD)) ++ ([x4] : List RootD)).getD 0 default).A).num), (((((([x2] : List RootD) ++ ([x3] : List RootD)) ++ ([x4] : List RootD)).getD 0 default).A).den)⟩ : RatD), (⟨(((((([x2] : List RootD) ++ ([x3] : List RootD)) ++ ([x4] : List RootD)).getD 0 default).B).num), (((((([x2] : List RootD) ++ ([x3] : List RootD)) ++ ([x4] : List RootD)).getD 0 default).B).den)⟩ : RatD), (⟨(((((([x2] : List RootD) ++ ([x3] : List RootD)) ++ ([x4] : List RootD)).getD 0 default).C).num), (((((([x2] : List RootD) ++ ([x3] : List RootD)) ++ ([x4] : List RootD)).getD 0 default).C).den)⟩ : RatD)⟩ : RootD) x7.1).bind fun x8 =>
                      bif x5.2 != 0 then
                        some false
                      else
                        bif x6.2 != 0 then
                          some false
                        else
                          bif x7.2 != 0 then
                            some false
                          else
                            bif x8.2 != 0 then
                              some false
                            else
                              (swarfref03_Same k x6.1 x8.1).bind fun x9 =>
                              bif !x9 then
                                some false
                              else
                                bif ixOk 0 ((([x2] : List RootD) ++ ([x3] : List RootD)) ++ ([x4] : List RootD)).length then
                                  bif ixOk 1 ((([x2] : List RootD) ++ ([x3] : List RootD)) ++ ([x4] : List RootD)).length then
                                    (root_Mul k (⟨(⟨(((((([x2] : List RootD) ++ ([x3] : List RootD)) ++ ([x4] : List RootD)).getD 0 default).A).num), (((((([x2] : List RootD) ++ ([x3] : List RootD)) ++ ([x4] : List RootD)).getD 0 default).A).den)⟩ : RatD), (⟨(((((([x2] : List RootD) ++ ([x3] : List RootD)) ++ ([x4] : List RootD)).getD 0 default).B).num), (((((([x2] : List RootD) ++ ([x3] : List RootD)) ++ ([x4] : List RootD)).getD 0 default).B).den)⟩ : RatD), (⟨(((((([x2] : List RootD) ++ ([x3] : List RootD)) ++ ([x4] : List RootD)).getD 0 default).C).num), (((((([x2] : List RootD) ++ ([x3] : List RootD)) ++ ([x4] : List RootD)).getD 0 default).C).den)⟩ : RatD)⟩ : RootD) (⟨(⟨(((((([x2] : List RootD) ++ ([x3] : List RootD)) ++ ([x4] : List RootD)).getD 1 default).A).num), (((((([x2] : List RootD) ++ ([x3] : List RootD)) ++ ([x4] : List RootD)).getD 1 default).A).den)⟩ : RatD), (⟨(((((([x2] : List RootD) ++ ([x3] : List RootD)) ++ ([x4] : List RootD)).getD 1 default).B).num), (((((([x2] : List RootD) ++ ([x3] : List RootD)) ++ ([x4] : List RootD)).getD 1 default).B).den)⟩ : RatD), (⟨(((((([x2] : List RootD) ++ ([x3] : List RootD)) ++ ([x4] : List RootD)).getD 1 default).C).num), (((((([x2] : List RootD) ++ ([x3] : List RootD)) ++ ([x4] : List RootD)).getD 1 default).C).den)⟩ : RatD)⟩ : RootD)).bind fun x10 =>
                                    bif ixOk 2 ((([x2] : List RootD) ++ ([x3] : List RootD)) ++ ([x4] : List RootD)).length then
                                      (root_Mul k x10.1 (⟨(⟨(((((([x2] : List RootD) ++ ([x3] : List RootD)) ++ ([x4] : List RootD)).getD 2 default).A).num), (((((([x2] : List RootD) ++ ([x3] : List RootD)) ++ ([x4] : List RootD)).getD 2 default).A).den)⟩ : RatD), (⟨(((((([x2] : List RootD) ++ ([x3] : List RootD)) ++ ([x4] : List RootD)).getD 2 default).B).num), (((((([x2] : List RootD) ++ ([x3] : List RootD)) ++ ([x4] : List RootD)).getD 2 default).B).den)⟩ : RatD), (⟨(((((([x2] : List RootD) ++ ([x3] : List RootD)) ++ ([x4] : List RootD)).getD 2 default).C).num), (((((([x2] : List RootD) ++ ([x3] : List RootD)) ++ ([x4] : List RootD)).getD 2 default).C).den)⟩ : RatD)⟩ : RootD)).bind fun x11 =>
                                      bif ixOk 1 ((([x2] : List RootD) ++ ([x3] : List RootD)) ++ ([x4] : List RootD)).length then
                                        bif ixOk 2 ((([x2] : List RootD) ++ ([x3] : List RootD)) ++ ([x4] : List RootD)).length then
                                          (root_Mul k (⟨(⟨(((((([x2] : List RootD) ++ ([x3] : List RootD)) ++ ([x4] : List RootD)).getD 1 default).A).num), (((((([x2] : List RootD) ++ ([x3] : List RootD)) ++ ([x4] : List RootD)).getD 1 default).A).den)⟩ : RatD), (⟨(((((([x2] : List RootD) ++ ([x3] : List RootD)) ++ ([x4] : List RootD)).getD 1 default).B).num), (((((([x2] : List RootD) ++ ([x3] : List RootD)) ++ ([x4] : List RootD)).getD 1 default).B).den)⟩ : RatD), (⟨(((((([x2] : List RootD) ++ ([x3] : List RootD)) ++ ([x4] : List RootD)).getD 1 default).C).num), (((((([x2] : List RootD) ++ ([x3] : List RootD)) ++ ([x4] : List RootD)).getD 1 default).C).den)⟩ : RatD)⟩ : RootD) (⟨(⟨(((((([x2] : List RootD) ++ ([x3] : List RootD)) ++ ([x4] : List RootD)).getD 2 default).A).num), (((((([x2] : List RootD) ++ ([x3] : List RootD)) ++ ([x4] : List RootD)).getD 2 default).A).den)⟩ : RatD), (⟨(((((([x2] : List RootD) ++ ([x3] : List RootD)) ++ ([x4] : List RootD)).getD 2 default).B).num), (((((([x2] : List RootD) ++ ([x3] : List RootD)) ++ ([x4] : List RootD)).getD 2 default).B).den)⟩ : RatD), (⟨(((((([x2] : List RootD) ++ ([x3] : List RootD)) ++ ([x4] : List RootD)).getD 2 default).C).num), (((((([x2] : List RootD) ++ ([x3] : List RootD)) ++ ([x4] : List RootD)).getD 2 default).C).den)⟩ : RatD)⟩ : RootD)).bind fun x12 =>
                                          bif ixOk 0 ((([x2] : List RootD) ++ ([x3] : List RootD)) ++ ([x4] : List RootD)).length then
                                            (root_Mul k (⟨(⟨(((((([x2] : List RootD) ++ ([x3] : List RootD)) ++ ([x4] : List RootD)).getD 0 default).A).num), (((((([x2] : List RootD) ++ ([x3] : List RootD)) ++ ([x4] : List RootD)).getD 0 default).A).den)⟩ : RatD), (⟨(((((([x2] : List RootD) ++ ([x3] : List RootD)) ++ ([x4] : List RootD)).getD 0 default).B).num), (((((([x2] : List RootD) ++ ([x3] : List RootD)) ++ ([x4] : List RootD)).getD 0 default).B).den)⟩ : RatD), (⟨(((((([x2] : List RootD) ++ ([x3] : List RootD)) ++ ([x4] : List RootD)).getD 0 default).C).num), (((((([x2] : List RootD) ++ ([x3] : List RootD)) ++ ([x4] : List RootD)).getD 0 default).C).den)⟩ : RatD)⟩ : RootD) x12.1).bind fun x13 =>
                                            bif x10.2 != 0 then
                                              some false
                                            else
                                              bif x11.2 != 0 then
                                                some false
                                              else
                                                bif x12.2 != 0 then
                                                  some false
                                                else
                                                  bif x13.2 != 0 then
                                                    some false
                                                  else
                                                    (swarfref03_Same k x11.1 x13.1).bind fun x14 =>
                                                    bif !x14 then
                                                      some false
                                                    else
                                                      bif ixOk 0 ((([x2] : List RootD) ++ ([x3] : List RootD)) ++ ([x4] : List RootD)).length then
                                                        (root_Mul k (⟨(⟨(((((([x2] : List RootD) ++ ([x3] : List RootD)) ++ ([x4] : List RootD)).getD 0 default).A).num), (((((([x2] : List RootD) ++ ([x3] : List RootD)) ++ ([x4] : List RootD)).getD 0 default).A).den)⟩ : RatD), (⟨(((((([x2] : List RootD) ++ ([x3] : List RootD)) ++ ([x4] : List RootD)).getD 0 default).B).num), (((((([x2] : List RootD) ++ ([x3] : List RootD)) ++ ([x4] : List RootD)).getD 0 default).B).den)⟩ : RatD), (⟨(((((([x2] : List RootD) ++ ([x3] : List RootD)) ++ ([x4] : List RootD)).getD 0 default).C).num), (((((([x2] : List RootD) ++ ([x3] : List RootD)) ++ ([x4] : List RootD)).getD 0 default).C).den)⟩ : RatD)⟩ : RootD) x7.1).bind fun x15 =>
                                                        bif ixOk 0 ((([x2] : List RootD) ++ ([x3] : List RootD)) ++ ([x4] : List RootD)).length then
                                                          bif ixOk 2 ((([x2] : List RootD) ++ ([x3] : List RootD)) ++ ([x4] : List RootD)).length then
                                                            (root_Mul k (⟨(⟨(((((([x2] : List RootD) ++ ([x3] : List RootD)) ++ ([x4] : List RootD)).getD 0 default).A).num), (((((([x2] : List RootD) ++ ([x3] : List RootD)) ++ ([x4] : List RootD)).getD 0 default).A).den)⟩ : RatD), (⟨(((((([x2] : List RootD) ++ ([x3] : List RootD)) ++ ([x4] : List RootD)).getD 0 default).B).num), (((((([x2] : List RootD) ++ ([x3] : List RootD)) ++ ([x4] : List RootD)).getD 0 default).B).den)⟩ : RatD), (⟨(((((([x2] : List RootD) ++ ([x3] : List RootD)) ++ ([x4] : List RootD)).getD 0 default).C).num), (((((([x2] : List RootD) ++ ([x3] : List RootD)) ++ ([x4] : List RootD)).getD 0 default).C).den)⟩ : RatD)⟩ : RootD) (⟨(⟨(((((([x2] : List RootD) ++ ([x3] : List RootD)) ++ ([x4] : List RootD)).getD 2 default).A).num), (((((([x2] : List RootD) ++ ([x3] : List RootD)) ++ ([x4] : List RootD)).getD 2 default).A).den)⟩ : RatD), (⟨(((((([x2] : List RootD) ++ ([x3] : List RootD)) ++ ([x4] : List RootD)).getD 2 default).B).num), (((((([x2] : List RootD) ++ ([x3] : List RootD)) ++ ([x4] : List RootD)).getD 2 default).B).den)⟩ : RatD), (⟨(((((([x2] : List RootD) ++ ([x3] : List RootD)) ++ ([x4] : List RootD)).getD 2 default).C).num), (((((([x2] : List RootD) ++ ([x3] : List RootD)) ++ ([x4] : List RootD)).getD 2 default).C).den)⟩ : RatD)⟩ : RootD)).bind fun x16 =>
                                                            (root_Add k x10.1 x16.1).bind fun x17 =>
                                                            bif x15.2 == 0 then
                                                              bif x16.2 == 0 then
                                                                bif x17.2 == 0 then
                                                                  (swarfref03_Same k x15.1 x17.1).bind fun x18 =>
                                                                  some x18
                                                                else
                                                                  some false
                                                              else
                                                                some false
                                                            else
                                                              some false
                                                          else
                                                            none
                                                        else
                                                          none
                                                      else
                                                        none
                                          else
                                            none
                                        else
                                          none
                                      else
                                        none
                                    else
                                      none
                                  else
                                    none
                                else
                                  none
                    else
                      none
                  else
                    none
                else
                  none
              else
                none
            else
              none
          else
            none
        else
          none
      else
        none
    else
      none
def swarfref48_root_L0 (k : Nat) (t0 : Int) (t3 : Int) (t4 : Int) : Option ((Int × Int × Int × Unit) ⊕ (Int × Unit)) :=
  bif decide (t3 < t4) then
    bif decide ((IntKind.i64.wrap ((IntKind.i64.wrap ((IntKind.i64.wrap ((IntKind.i64.wrap (t3 + t4)) + 1)).tdiv 2)) * (IntKind.i64.wrap ((IntKind.i64.wrap ((IntKind.i64.wrap (t3 + t4)) + 1)).tdiv 2)))) ≤ t0) then
      some (.inl (t0, IntKind.i64.wrap ((IntKind.i64.wrap ((IntKind.i64.wrap (t3 + t4)) + 1)).tdiv 2), t4, ()))
    else
      some (.inl (t0, t3, IntKind.i64.wrap ((IntKind.i64.wrap ((IntKind.i64.wrap ((IntKind.i64.wrap (t3 + t4)) + 1)).tdiv 2)) - 1), ()))
  else
    some (.inr (t3, ()))
def swarfref48_root (k : Nat) (a0 : Int) : Option Int :=
  (iter (fun (x2 : (Int × Int × Int × Unit)) => swarfref48_root_L0 k x2.1 x2.2.1 x2.2.2.1) k (a0, 0, 3000000000, ())).bind fun x1 =>
  some x1.1
def swarfref48_after (k : Nat) (a0 : Int) (a1 : Int) (a2 : Int) : Option Int :=
  (swarfref48_root k (IntKind.i64.wrap ((IntKind.i64.wrap (a0 * a0)) + (IntKind.i64.wrap ((IntKind.i64.wrap (2 * a2)) * a1))))).bind fun x1 =>
  some x1
def swarfref48_Speeds_L0 (k : Nat) (t0 : List PartD) (t1 : Int) (t7 : List Int) (t8 : Int) : Option ((List PartD × Int × List Int × Int × Unit) ⊕ (List PartD × Int × List Int × Unit)) :=
  bif decide (t8 < (t0.length : Int)) then
    bif ixOk (IntKind.i64.wrap (t8 - 1)) t0.length then
      bif ixOk (IntKind.i64.wrap (t8 - 1)) t0.length then
        bif ixOk t8 t0.length then
          bif ixOk t8 t7.length then
            some (.inl (t0, t1, (t7.set t8.toNat (if (t0.getD t8.toNat default).Speed < (if (t0.getD (IntKind.i64.wrap (t8 - 1)).toNat default).Speed < (t0.getD (IntKind.i64.wrap (t8 - 1)).toNat default).Corner then (t0.getD (IntKind.i64.wrap (t8 - 1)).toNat default).Speed else (t0.getD (IntKind.i64.wrap (t8 - 1)).toNat default).Corner) then (t0.getD t8.toNat default).Speed else (if (t0.getD (IntKind.i64.wrap (t8 - 1)).toNat default).Speed < (t0.getD (IntKind.i64.wrap (t8 - 1)).toNat default).Corner then (t0.getD (IntKind.i64.wrap (t8 - 1)).toNat default).Speed else (t0.getD (IntKind.i64.wrap (t8 - 1)).toNat default).Corner))), IntKind.i64.wrap (t8 + 1), ()))
          else
            none
        else
          none
      else
        none
    else
      none
  else
    some (.inr (t0, t1, t7, ()))
def swarfref48_Speeds_L4 (k : Nat) (t0 : List PartD) (t1 : Int) (t7 : List Int) (t9 : Bool) (t10 : Int) : Option ((List PartD × Int × List Int × Bool × Int × Unit) ⊕ (List PartD × Int × List Int × Bool × Unit)) :=
  bif decide (t10 < (t0.length : Int)) then
    bif ixOk t10 t7.length then
      bif ixOk (IntKind.i64.wrap (t10 + 1)) t7.length then
        bif ixOk t10 t0.length then
          (swarfref48_after k (t7.getD t10.toNat 0) ((t0.getD t10.toNat default).Length) t1).bind fun x4 =>
          bif ixOk (IntKind.i64.wrap (t10 + 1)) t7.length then
            bif ixOk (IntKind.i64.wrap (t10 + 1)) (t7.set ((IntKind.i64.wrap (t10 + 1)).toNat) (if x4 < (t7.getD ((IntKind.i64.wrap (t10 + 1)).toNat) 0) then x4 else (t7.getD ((IntKind.i64.wrap (t10 + 1)).toNat) 0))).length then
              bif ixOk t10 t0.length then
                (swarfref48_after k ((t7.set ((IntKind.i64.wrap (t10 + 1)).toNat) (if x4 < (t7.getD ((IntKind.i64.wrap (t10 + 1)).toNat) 0) then x4 else (t7.getD ((IntKind.i64.wrap (t10 + 1)).toNat) 0))).getD ((IntKind.i64.wrap (t10 + 1)).toNat) 0) ((t0.getD t10.toNat default).Length) t1).bind fun x5 =>
                bif ixOk t10 (t7.set ((IntKind.i64.wrap (t10 + 1)).toNat) (if x4 < (t7.getD ((IntKind.i64.wrap (t10 + 1)).toNat) 0) then x4 else (t7.getD ((IntKind.i64.wrap (t10 + 1)).toNat) 0))).length then
                  bif t9 then
                    some (.inl (t0, t1, ((t7.set ((IntKind.i64.wrap (t10 + 1)).toNat) (if x4 < (t7.getD ((IntKind.i64.wrap (t10 + 1)).toNat) 0) then x4 else (t7.getD ((IntKind.i64.wrap (t10 + 1)).toNat) 0))).set t10.toNat (if x5 < (t7.getD t10.toNat 0) then x5 else (t7.getD t10.toNat 0))), true, IntKind.i64.wrap (t10 + 1), ()))
                  else
                    bif ixOk t10 ((t7.set ((IntKind.i64.wrap (t10 + 1)).toNat) (if x4 < (t7.getD ((IntKind.i64.wrap (t10 + 1)).toNat) 0) then x4 else (t7.getD ((IntKind.i64.wrap (t10 + 1)).toNat) 0))).set t10.toNat (if x5 < (t7.getD t10.toNat 0) then x5 else (t7.getD t10.toNat 0))).length then
                      bif (((t7.set ((IntKind.i64.wrap (t10 + 1)).toNat) (if x4 < (t7.getD ((IntKind.i64.wrap (t10 + 1)).toNat) 0) then x4 else (t7.getD ((IntKind.i64.wrap (t10 + 1)).toNat) 0))).set t10.toNat (if x5 < (t7.getD t10.toNat 0) then x5 else (t7.getD t10.toNat 0))).getD t10.toNat 0) != (t7.getD t10.toNat 0) then
                        some (.inl (t0, t1, ((t7.set ((IntKind.i64.wrap (t10 + 1)).toNat) (if x4 < (t7.getD ((IntKind.i64.wrap (t10 + 1)).toNat) 0) then x4 else (t7.getD ((IntKind.i64.wrap (t10 + 1)).toNat) 0))).set t10.toNat (if x5 < (t7.getD t10.toNat 0) then x5 else (t7.getD t10.toNat 0))), true, IntKind.i64.wrap (t10 + 1), ()))
                      else
                        bif ixOk (IntKind.i64.wrap (t10 + 1)) ((t7.set ((IntKind.i64.wrap (t10 + 1)).toNat) (if x4 < (t7.getD ((IntKind.i64.wrap (t10 + 1)).toNat) 0) then x4 else (t7.getD ((IntKind.i64.wrap (t10 + 1)).toNat) 0))).set t10.toNat (if x5 < (t7.getD t10.toNat 0) then x5 else (t7.getD t10.toNat 0))).length then
                          some (.inl (t0, t1, ((t7.set ((IntKind.i64.wrap (t10 + 1)).toNat) (if x4 < (t7.getD ((IntKind.i64.wrap (t10 + 1)).toNat) 0) then x4 else (t7.getD ((IntKind.i64.wrap (t10 + 1)).toNat) 0))).set t10.toNat (if x5 < (t7.getD t10.toNat 0) then x5 else (t7.getD t10.toNat 0))), (((t7.set ((IntKind.i64.wrap (t10 + 1)).toNat) (if x4 < (t7.getD ((IntKind.i64.wrap (t10 + 1)).toNat) 0) then x4 else (t7.getD ((IntKind.i64.wrap (t10 + 1)).toNat) 0))).set t10.toNat (if x5 < (t7.getD t10.toNat 0) then x5 else (t7.getD t10.toNat 0))).getD ((IntKind.i64.wrap (t10 + 1)).toNat) 0) != (t7.getD ((IntKind.i64.wrap (t10 + 1)).toNat) 0), IntKind.i64.wrap (t10 + 1), ()))
                        else
                          none
                    else
                      none
                else
                  none
              else
                none
            else
              none
          else
            none
        else
          none
      else
        none
    else
      none
  else
    some (.inr (t0, t1, t7, t9, ()))
def swarfref48_Speeds_L2 (k : Nat) (t0 : List PartD) (t1 : Int) (t7 : List Int) (t9 : Bool) : Option ((List PartD × Int × List Int × Bool × Unit) ⊕ (List Int × Unit)) :=
  bif t9 then
    (iter (fun (x7 : (List PartD × Int × List Int × Bool × Int × Unit)) => swarfref48_Speeds_L4 k x7.1 x7.2.1 x7.2.2.1 x7.2.2.2.1 x7.2.2.2.2.1) k (t0, t1, t7, false, 0, ())).bind fun x6 =>
    some (.inl (x6.1, x6.2.1, x6.2.2.1, x6.2.2.2.1, ()))
  else
    some (.inr (t7, ()))
def swarfref48_Speeds (k : Nat) (a0 : List PartD) (a1 : Int) : Option (List Int × Int) :=
  (swarfref48_Valid k a0 a1).bind fun x1 =>
  bif x1 != 0 then
    some ([], x1)
  else
    bif (decide (0 ≤ IntKind.i64.wrap ((a0.length : Int) + 1))) && (decide (IntKind.i64.wrap ((a0.length : Int) + 1) ≤ IntKind.i64.wrap ((a0.length : Int) + 1)) && decide ((IntKind.i64.wrap ((a0.length : Int) + 1)) * ((8 : Nat) : Int) ≤ 281474976710656)) then
      (iter (fun (x3 : (List PartD × Int × List Int × Int × Unit)) => swarfref48_Speeds_L0 k x3.1 x3.2.1 x3.2.2.1 x3.2.2.2.1) k (a0, a1, (List.replicate (IntKind.i64.wrap ((a0.length : Int) + 1)).toNat (0 : Int)), 1, ())).bind fun x2 =>
      (iter (fun (x9 : (List PartD × Int × List Int × Bool × Unit)) => swarfref48_Speeds_L2 k x9.1 x9.2.1 x9.2.2.1 x9.2.2.2.1) k (x2.1, x2.2.1, x2.2.2.1, true, ())).bind fun x8 =>
      some (x8.1, 0)
    else
      none
def swarflaw48_LookaheadSpeeds (k : Nat) (a0 : List PartD) (a1 : Int) : Option Bool :=
  (swarflaw48_awake k).bind fun x1 =>
  bif !x1 then
    some false
  else
    bif decide ((a0.length : Int) > 60) then
      bif decide ((a0.length : Int) ≤ 2000) then
        some true
      else
        (swarflaw48_of k a0).bind fun x2 =>
        (lookahead_Speeds k x2 a1).bind fun x3 =>
        (swarfref48_Speeds k a0 a1).bind fun x4 =>
        (swarflaw48_of k a0).bind fun x5 =>
        (lookahead_Valid k x5 a1).bind fun x6 =>
        (swarfref48_Valid k a0 a1).bind fun x7 =>
        bif x6 == x7 then
          bif x3.2 == x4.2 then
            (slices_Equal k x3.1 x4.1).bind fun x8 =>
            some x8
          else
            some false
        else
          some false
    else
      (swarflaw48_of k a0).bind fun x9 =>
      (lookahead_Speeds k x9 a1).bind fun x10 =>
      (swarfref48_Speeds k a0 a1).bind fun x11 =>
      (swarflaw48_of k a0).bind fun x12 =>
      (lookahead_Valid k x12 a1).bind fun x13 =>
      (swarfref48_Valid k a0 a1).bind fun x14 =>
      bif x13 == x14 then
        bif x10.2 == x11.2 then
          (slices_Equal k x10.1 x11.1).bind fun x15 =>
          some x15
        else
          some false
      else
        some false
def swarfref48_Faster (k : Nat) (a0 : Int) (a1 : Int) (a2 : Int) : Option (Int × Int) :=
  (swarfref48_Speed k a0).bind fun x1 =>
  bif !x1 then
    some (0, 1)
  else
    (swarfref48_Long k a1).bind fun x2 =>
    bif !x2 then
      some (0, 1)
    else
      (swarfref48_Accel k a2).bind fun x3 =>
      bif !x3 then
        some (0, 1)
      else
        (swarfref48_after k a0 a1 a2).bind fun x4 =>
        some (x4, 0)
def lookahead_Length (k : Nat) (a0 : PosD) (a1 : PosD) : Option (Int × Int) :=
  (lookahead_far k a0).bind fun x1 =>
  bif x1 then
    some (0, 11)
  else
    (lookahead_far k a1).bind fun x2 =>
    bif x2 then
      some (0, 11)
    else
      (lookahead_square k (⟨IntKind.i64.wrap (a1.X - a0.X), IntKind.i64.wrap (a1.Y - a0.Y), IntKind.i64.wrap (a1.Z - a0.Z)⟩ : PosD)).bind fun x3 =>
      (lookahead_sqrt k x3).bind fun x4 =>
      bif decide ((IntKind.i64.wrap (x4 * x4)) < x3) then
        some (IntKind.i64.wrap (x4 + 1), 0)
      else
        some (x4, 0)
def swarfref48_inside (k : Nat) (a0 : PosD) : Option Bool :=
  bif decide (a0.X ≥ (-10000000)) then
    bif decide (a0.X ≤ 10000000) then
      bif decide (a0.Y ≥ (-10000000)) then
        bif decide (a0.Y ≤ 10000000) then
          bif decide (a0.Z ≥ (-10000000)) then
            some (decide (a0.Z ≤ 10000000))
          else
            some false
        else
          some false
      else
        some false
    else
      some false
  else
    some false
def swarfref48_Square (k : Nat) (a0 : PosD) : Option Int :=
  some (IntKind.i64.wrap ((IntKind.i64.wrap ((IntKind.i64.wrap (a0.X * a0.X)) + (IntKind.i64.wrap (a0.Y * a0.Y)))) + (IntKind.i64.wrap (a0.Z * a0.Z))))
def swarfref48_Length (k : Nat) (a0 : PosD) (a1 : PosD) : Option (Int × Int) :=
  (swarfref48_inside k a0).bind fun x1 =>
  bif !x1 then
    some (0, 11)
  else
    (swarfref48_inside k a1).bind fun x2 =>
    bif !x2 then
      some (0, 11)
    else
      (swarfref48_Square k (⟨IntKind.i64.wrap (a1.X - a0.X), IntKind.i64.wrap (a1.Y - a0.Y), IntKind.i64.wrap (a1.Z - a0.Z)⟩ : PosD)).bind fun x3 =>
      (swarfref48_root k x3).bind fun x4 =>
      bif decide ((IntKind.i64.wrap (x4 * x4)) < x3) then
        some (IntKind.i64.wrap (x4 + 1), 0)
      else
        some (x4, 0)
def swarflaw48_LookaheadFaster (k : Nat) (a0 : (Int × Int × Int)) (a1 : PosD) (a2 : PosD) : Option Bool :=
  (swarflaw48_awake k).bind fun x1 =>
  bif !x1 then
    some false
  else
    (lookahead_Faster k a0.1 a0.2.1 a0.2.2).bind fun x2 =>
    (swarfref48_Faster k a0.1 a0.2.1 a0.2.2).bind fun x3 =>
    (lookahead_Length k a1 a2).bind fun x4 =>
    (swarfref48_Length k a1 a2).bind fun x5 =>
    bif x2.1 == x3.1 then
      bif x2.2 == x3.2 then
        bif x4.1 == x5.1 then
          some (x4.2 == x5.2)
        else
          some false
      else
        some false
    else
      some false
end Go.Proofs.YtbjkpogfgijmaaaGreat
