/- The plain law RootEnclose: Enclose returns an interval that contains the value and is narrow enough, or ErrInvalid. -/
import Derived.Test.YtbjkpogfgijmaaaGreatLawRootFloor
import Derived.Test.YtbjkpogfgijmaaaGreatLawRootSign
namespace Go.Proofs.YtbjkpogfgijmaaaGreat
open Go
set_option linter.unusedVariables false
set_option linter.unusedSimpArgs false
theorem two_pow_sz {i : Nat} (h : i ≤ 256) : Sz 30 (((2 ^ i : Nat)) : Int) := Sz.of (by
  rw [Int.natAbs_natCast]
  have h1 : 2 ^ i ≤ 2 ^ 256 := Nat.pow_le_pow_right (by decide) h
  have h2 : ((2 ^ 256 : Nat) : Int) < bp 30 := by decide
  omega)
theorem two_pow_rz {i : Nat} (h : i ≤ 256) : Rz 32 ((((2 ^ i : Nat)) : Int) : Rat) := rzOfInt (two_pow_sz h)
theorem enc_loop {k : Nat} [F : Fuel k] {r : RootD} {v : IvD} {n : Nat} (h : n ≤ 256) :
    iter (fun (x4 : (RootD × IvD × IntD × Int × Int × Unit)) => root_Enclose_L0 k x4.1 x4.2.1 x4.2.2.1 x4.2.2.2.1 x4.2.2.2.2.1) k (r, v, I 1, (n : Int), 0, ()) = some (r, v, I ((2 ^ n : Nat) : Int), ()) := by
  refine Exists.elim (iter_ok (fun (x4 : (RootD × IvD × IntD × Int × Int × Unit)) => root_Enclose_L0 k x4.1 x4.2.1 x4.2.2.1 x4.2.2.2.1 x4.2.2.2.2.1) (fun m s => ∃ i : Nat, m = n - i ∧ i ≤ n ∧ s = (r, v, I ((2 ^ i : Nat) : Int), (n : Int), (i : Int), ()))
    (fun x => x = (r, v, I ((2 ^ n : Nat) : Int), ())) ?_ k n (r, v, I 1, (n : Int), 0, ()) (F.len (by have := LM_val; omega)) ⟨0, by omega, by omega, rfl⟩) ?_
  rotate_left
  · rintro x ⟨hx, rfl⟩; exact hx
  · rintro m s ⟨i, rfl, hi, rfl⟩
    dsimp only
    unfold root_Enclose_L0
    by_cases h0 : i = n
    · right
      subst h0
      exact ⟨_, by rw [cdecF (by omega), cond_false], rfl⟩
    · left
      have s1 := two_pow_sz (i := i) (by omega)
      refine ⟨_, n - (i + 1), by rw [cdec (by omega), cond_true, integer_Add_eq (by decide), Option.bind_some, wI64 (by omega) (by omega)], by omega, i + 1, rfl, by omega, ?_⟩
      have e : ((2 ^ i : Nat) : Int) + ((2 ^ i : Nat) : Int) = ((2 ^ (i + 1) : Nat) : Int) := by rw [Nat.pow_succ]; omega
      rw [e]; rfl
theorem power_loop {k : Nat} [F : Fuel k] {n : Nat} (h : n ≤ 256) : swarfref03_Power k (n : Int) = some (Q (((2 ^ n : Nat) : Int) : Rat)) := by
  unfold swarfref03_Power
  rw [rone_ok, Option.bind_some]
  refine Exists.elim (iter_ok (fun (x4 : (Int × RatD × RatD × Int × Unit)) => swarfref03_Power_L0 k x4.1 x4.2.1 x4.2.2.1 x4.2.2.2.1) (fun m s => ∃ i : Nat, m = n - i ∧ i ≤ n ∧ s = ((n : Int), zR, Q (((2 ^ i : Nat) : Int) : Rat), (i : Int), ()))
    (fun x => x = (zR, Q (((2 ^ n : Nat) : Int) : Rat), ())) ?_ k n ((n : Int), zR, Q 1, 0, ()) (F.len (by have := LM_val; omega)) ⟨0, by omega, by omega, rfl⟩) ?_
  rotate_left
  · rintro x ⟨hx, rfl⟩
    show ((iter _ k ((n : Int), zR, Q 1, 0, ())).bind _) = _
    rw [hx]; rfl
  · rintro m s ⟨i, rfl, hi, rfl⟩
    dsimp only
    unfold swarfref03_Power_L0
    by_cases h0 : i = n
    · right
      subst h0
      exact ⟨_, by rw [cdecF (by omega), cond_false], rfl⟩
    · left
      have s1 := two_pow_rz (i := i) (by omega)
      refine ⟨_, n - (i + 1), by rw [cdec (by omega), cond_true, rQAdd (by decide), Option.bind_some, wI64 (by omega) (by omega)], by omega, i + 1, rfl, by omega, ?_⟩
      have e : ((((2 ^ i : Nat) : Int) : Rat)) + (((2 ^ i : Nat) : Int) : Rat) = (((2 ^ (i + 1) : Nat) : Int) : Rat) := by
        rw [← Rat.intCast_add]
        have : ((2 ^ i : Nat) : Int) + ((2 ^ i : Nat) : Int) = ((2 ^ (i + 1) : Nat) : Int) := by rw [Nat.pow_succ]; omega
        rw [this]
      rw [e]; rfl
theorem WfQ_Q (q : Rat) : WfQ (Q q) := by
  constructor
  · intro x hx; have := lim_dig q.num.natAbs x hx; omega
  · intro x hx; have := lim_dig (q.den : Int).natAbs x hx; omega
theorem rQValid_Q {k : Nat} [F : Fuel k] {n : Nat} {q : Rat} (z : Rz n q) (h : n ≤ 10000) : swarfref02_Valid k (Q q) = some true := by
  have hl := lens_of (q := q)
  obtain ⟨t, e, f⟩ := rQValid (k := k) (WfQ_Q q) (by omega) (by omega)
  rw [e, f.2 ⟨q, rfl⟩]
/-- Signs after a scaling. -/
theorem sgR_shift {x : Rt} (vx : Vr x) {p : Rat} (hp : 0 < p) (m : Rat) : sgR ⟨(scale x p).A - m, (scale x p).B, (scale x p).C⟩ = sgR ⟨x.A - m / p, x.B, x.C⟩ := by
  have hv : Vr ⟨x.A - m / p, x.B, x.C⟩ := vx
  have h := sgR_scale (q := p) hv
  have h1 : sg p = 1 := by unfold sg; grind
  rw [h1, Int.mul_one] at h
  rw [← h]
  unfold scale red
  dsimp only
  have e : (x.A - m / p) * p = x.A * p - m := by grind
  rw [e]
  split
  · rfl
  · rfl
theorem law_RootEnclose (r : RootD) (bits : Int) (hr : WfRoot r) (hb : In64 bits) : ∃ k, swarflaw03_RootEnclose k r bits = some true := by
  obtain ⟨k, F⟩ := fuel_exists
  refine ⟨k, ?_⟩
  unfold swarflaw03_RootEnclose
  rw [awake03, Option.bind_some, Bool.not_true, cond_false]
  obtain ⟨t1, e1, f1⟩ := guard1 (k := k) hr
  rw [e1, Option.bind_some]
  cases t1 with
  | false => rfl
  | true =>
    obtain ⟨x, rfl, zx, vx⟩ := f1 rfl
    rw [Bool.not_true, cond_false]
    by_cases h0 : bits < 0
    · unfold root_Enclose
      rw [cdec h0]; rfl
    · by_cases h1 : bits > 256
      · unfold root_Enclose
        rw [cdecF h0, cdec h1]; rfl
      · obtain ⟨n, rfl⟩ : ∃ n : Nat, bits = n := ⟨bits.toNat, by omega⟩
        have hn : n ≤ 256 := by omega
        have sp := two_pow_sz hn
        have zp := two_pow_rz hn
        have s1 : Sz 2 (1 : Int) := szSmall (by decide)
        have hpos : (0 : Int) < ((2 ^ n : Nat) : Int) := by have := Nat.pow_pos (n := n) (show 0 < 2 by decide); omega
        have ppos := castPos hpos
        have zs := scale_zt zx zp (by decide)
        have vs : Vr (scale x (((2 ^ n : Nat) : Int) : Rat)) := scale_vr vx
        have hy := fY_nonneg vs
        have zf := flo_rz zs
        have zf1 := szAdd zf s1
        obtain ⟨p1, p2⟩ := flo_spec vs
        rw [sgR_shift vx ppos] at p1
        have e4 : ∀ A B : Rat, A - B - 1 = A - (B + 1) := fun A B => by grind
        rw [e4, sgR_shift vx ppos] at p2
        have e0 : ((0 : Int) != 0) = false := rfl
        have eenc : root_Enclose k (R x) (n : Int) = some (⟨Q (Rat.divInt (flo (scale x (((2 ^ n : Nat) : Int) : Rat))) ((2 ^ n : Nat) : Int)), Q (Rat.divInt (flo (scale x (((2 ^ n : Nat) : Int) : Rat)) + 1) ((2 ^ n : Nat) : Int))⟩, 0) := by
          unfold root_Enclose
          rw [cdecF h0, cond_false, cdecF h1, cond_false, integer_FromInt64_eq (by omega) (by omega), Option.bind_some, enc_loop hn, Option.bind_some, Option.bind_some]
          dsimp only
          rw [qMake (by decide), if_neg (by decide), Option.bind_some, divInt_one]
          dsimp only
          rw [scale_ok (by decide), Option.bind_some, floor_ok (by decide) hy, Option.bind_some, qMake (by decide), if_neg (by omega), Option.bind_some, Option.bind_some, integer_Add_eq (by decide), Option.bind_some, qMake (by decide), if_neg (by omega), Option.bind_some]
        have zlow : Rz 1090 (Rat.divInt (flo (scale x (((2 ^ n : Nat) : Int) : Rat))) ((2 ^ n : Nat) : Int)) := (rzDiv zf sp (by omega)).mono (by decide)
        have zhigh : Rz 1091 (Rat.divInt (flo (scale x (((2 ^ n : Nat) : Int) : Rat)) + 1) ((2 ^ n : Nat) : Int)) := (rzDiv zf1 sp (by omega)).mono (by decide)
        rw [eenc, Option.bind_some, cdecF h0, cond_false, cdecF h1, cond_false]
        dsimp only
        rw [e0, cond_false, rQValid_Q zlow (by decide), Option.bind_some, Bool.not_true, cond_false, rQValid_Q zhigh (by decide), Option.bind_some, Bool.not_true, cond_false, rQSub (by decide), Option.bind_some, rcmpRat_ok (by decide) vx, Option.bind_some]
        have d1 : Rat.divInt (flo (scale x (((2 ^ n : Nat) : Int) : Rat))) ((2 ^ n : Nat) : Int) = (flo (scale x (((2 ^ n : Nat) : Int) : Rat)) : Rat) / (((2 ^ n : Nat) : Int) : Rat) := Rat.divInt_eq_div _ _
        have d2 : Rat.divInt (flo (scale x (((2 ^ n : Nat) : Int) : Rat)) + 1) ((2 ^ n : Nat) : Int) = ((flo (scale x (((2 ^ n : Nat) : Int) : Rat)) : Rat) + 1) / (((2 ^ n : Nat) : Int) : Rat) := by rw [Rat.divInt_eq_div, Rat.intCast_add]; rfl
        rw [d1] at zlow
        rw [d2] at zhigh
        rw [d1, d2, cdec p1, cond_true, rcmpRat_ok (by decide) vx, Option.bind_some, cdec (by omega), cond_true, power_loop hn, Option.bind_some]
        have zw := rzSub zhigh zlow
        rw [rQMul (by decide), Option.bind_some, rQFrom (by omega) (by omega), Option.bind_some]
        have e2 : (((1 : Int) : Rat)) = (1 : Rat) := rfl
        have zwp := rzMul zw zp
        have o := one_rz
        rw [e2, rQCmp (by decide), Option.bind_some]
        have e5 : (((flo (scale x (((2 ^ n : Nat) : Int) : Rat)) : Rat) + 1) / (((2 ^ n : Nat) : Int) : Rat) - (flo (scale x (((2 ^ n : Nat) : Int) : Rat)) : Rat) / (((2 ^ n : Nat) : Int) : Rat)) * (((2 ^ n : Nat) : Int) : Rat) = 1 := by
          generalize (((2 ^ n : Nat) : Int) : Rat) = p at *
          grind
        rw [e5, cmpQ_zero.2 rfl]; rfl
end Go.Proofs.YtbjkpogfgijmaaaGreat
