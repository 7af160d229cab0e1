/- Plain laws: the program's common points of a line and a circle are the reference's; lists of points; guards. -/
import Derived.Test.YtbjkpogfgijmaaaGreatMe1
namespace Go.Proofs.YtbjkpogfgijmaaaGreat
open Go
set_option linter.unusedVariables false
set_option linter.unusedSimpArgs false

theorem room_kk {l : Ln} {c : Ci} (hl : Lok l) : room l c = nrm l * nrm l * kk l c := by
  have hn := nrm_pos hl
  have hne : nrm l ≠ 0 := by grind
  have e1 : nrm l * kk l c = c.Q - ((ftX l c - c.X) * (ftX l c - c.X) + (ftY l c - c.Y) * (ftY l c - c.Y)) := by
    unfold kk
    generalize nrm l = n at *
    grind
  have e2 : (ftX l c - c.X) * (ftX l c - c.X) + (ftY l c - c.Y) * (ftY l c - c.Y) = tt l c * tt l c * nrm l := by unfold ftX ftY nrm; grind
  have e3 : tt l c * nrm l = vl l c.X c.Y := by unfold tt; generalize nrm l = n at *; grind
  rw [e2] at e1
  unfold room
  rw [← e3]
  generalize nrm l = n at *
  generalize tt l c = t at *
  grind
theorem isSq_scale {n q : Rat} (hn : 0 < n) : (IsSq (n * n * q) ↔ IsSq q) := by
  constructor
  · rintro ⟨s, hs, he⟩
    refine ⟨s / n, ?_, by grind⟩
    have : s / n = s * n⁻¹ := Rat.div_def s n
    rw [this]; exact Rat.mul_nonneg hs (by have := Rat.inv_pos.2 hn; grind)
  · rintro ⟨s, hs, he⟩
    exact ⟨n * s, Rat.mul_nonneg (by grind) hs, by grind⟩
theorem rsq_scale {n q : Rat} (hn : 0 < n) (h : IsSq q) : rsq (n * n * q) = n * rsq q := by
  have h1 := rsq_nonneg h
  have h2 := rsq_sq h
  exact (rsq_eq (Rat.mul_nonneg (by grind) h1) (by rw [← h2]; grind)).2
theorem div_zero_of {u n : Rat} (hn : n ≠ 0) (h : u / n = 0) : u = 0 := by
  have : u / n * n = u := by grind
  rw [h] at this; grind
theorem sg_div {u n : Rat} (hn : 0 < n) : sg (u / n) = sg u := by
  have h1 : sg (u / n * n) = sg (u / n) * sg n := sg_mul _ _
  have h2 : u / n * n = u := by grind
  have h3 : sg n = 1 := by unfold sg; grind
  rw [h2, h3, Int.mul_one] at h1
  exact h1.symm
/-- The same point, with another radicand. -/
theorem cmpP_surd {x u y v q n : Rat} (hn : 0 < n) (hq : 0 < q) (hd : ¬ (u = 0 ∧ v = 0)) : cmpP (surdP x u y v q) (surdP x (u / n) y (v / n) (n * n * q)) = 0 := by
  unfold surdP
  by_cases hs : IsSq q
  · rw [if_pos hs, if_pos ((isSq_scale hn).2 hs), rsq_scale hn hs]
    have e1 : u / n * (n * rsq q) = u * rsq q := by grind
    have e2 : v / n * (n * rsq q) = v * rsq q := by grind
    rw [e1, e2]
    exact cmpP_self (.inl ⟨rfl, rfl, rfl⟩)
  · have hne : n ≠ 0 := by grind
    have h0 : ¬ (u / n = 0 ∧ v / n = 0) := fun ⟨h1, h2⟩ => hd ⟨div_zero_of hne h1, div_zero_of hne h2⟩
    rw [if_neg hs, if_neg (fun h => hs ((isSq_scale hn).1 h)), if_neg hd, if_neg h0]
    have nn := Rat.mul_pos hn hn
    have hq2 := Rat.mul_pos nn hq
    unfold cmpP
    dsimp only
    rw [cmp5_eq (by grind) (by grind) (sg_div hn).symm (by grind), cmp5_eq (by grind) (by grind) (sg_div hn).symm (by grind)]; rfl
/-- Which of the two conjugate points comes first. -/
theorem cmpP_conj {x u y v q : Rat} (hq : 0 < q) (hd : ¬ (u = 0 ∧ v = 0)) : cmpP (surdP x (-u) y (-v) q) (surdP x u y v q) = if sg u ≠ 0 then -sg u else -sg v := by
  have hd' : ¬ (-u = 0 ∧ -v = 0) := fun ⟨h1, h2⟩ => hd ⟨by grind, by grind⟩
  unfold surdP
  by_cases hs : IsSq q
  · rw [if_pos hs, if_pos hs]
    have s0 := rsq_nonneg hs
    have s1 := rsq_sq hs
    have sp : 0 < rsq q := by
      rcases (show rsq q = 0 ∨ 0 < rsq q by grind) with h | h
      · rw [h] at s1; grind
      · exact h
    have key : ∀ a b : Rat, sg (a + -b * rsq q - (a + b * rsq q)) = -sg b := fun a b => by
      have e : a + -b * rsq q - (a + b * rsq q) = -(b * (2 * rsq q)) := by grind
      rw [e, sg_neg_eq, sg_mul]
      have : sg (2 * rsq q) = 1 := by unfold sg; grind
      rw [this, Int.mul_one]
    have cr : ∀ a b c d : Rat, cmpP (atP a b) (atP c d) = if sg (a - c) ≠ 0 then sg (a - c) else sg (b - d) := fun a b c d => by
      unfold cmpP atP; dsimp only
      have r : ∀ z : Rat, red z 0 0 = rat z := fun z => by unfold red; rw [if_pos rfl]
      rw [r, r, r, r, cmp5_rat, cmp5_rat]
    rw [cr, key, key]
    by_cases h : sg u = 0
    · rw [if_neg (by omega), if_neg (by omega)]
    · rw [if_pos (by omega), if_pos (by omega)]
  · rw [if_neg hs, if_neg hs, if_neg hd', if_neg hd]
    unfold cmpP
    dsimp only
    rw [cmp5_conj hq, cmp5_conj hq]
    by_cases h : sg u = 0
    · rw [if_neg (by omega), if_neg (by omega)]
    · rw [if_pos (by omega), if_pos (by omega)]
theorem dir_ne {l : Ln} (hl : Lok l) : ¬ (dirU l = 0 ∧ dirV l = 0) := by
  unfold dirU dirV Lok at *; split <;> grind
theorem dir_ne' {l : Ln} (hl : Lok l) : ¬ (-dirU l = 0 ∧ -dirV l = 0) := by
  unfold dirU dirV Lok at *; split <;> grind
theorem flip_iff {l : Ln} {c : Ci} (hl : Lok l) (h : 0 < room l c) : cmpP (lcQ l c).1 (lcQ l c).2 > 0 ↔ flipP l := by
  have hn := nrm_pos hl
  unfold lcQ
  dsimp only
  have hd : ¬ (l.B / nrm l = 0 ∧ -l.A / nrm l = 0) := by
    rintro ⟨h1, h2⟩
    have e1 : sg (l.B / nrm l) = 0 := by rw [h1]; rfl
    have e2 : sg (-l.A / nrm l) = 0 := by rw [h2]; rfl
    rw [sg_div hn, sg_zero] at e1 e2
    unfold Lok at hl; grind
  rw [cmpP_conj h hd, sg_div hn, sg_div hn]
  have h1 := @sg_zero l.B; have h2 := @sg_neg l.B; have h3 := @sg_neg (-l.A)
  unfold flipP
  by_cases hb : sg l.B = 0
  · rw [if_neg (by omega)]
    have : l.B = 0 := h1.1 hb
    constructor
    · intro h; exact .inr ⟨this, h3.1 (by omega)⟩
    · rintro (h | ⟨_, h⟩)
      · grind
      · have := h3.2 h; omega
  · rw [if_pos hb]
    have hb' : l.B ≠ 0 := fun h => hb (h1.2 h)
    constructor
    · intro h; exact .inl (h2.1 (by omega))
    · rintro (h | ⟨h, _⟩)
      · have := h2.2 h; omega
      · exact absurd h hb'
/-- The reference's list, in the program's order. -/
theorem lcR_eq {l : Ln} {c : Ci} (hl : Lok l) : lcR l c = if kk l c < 0 then [] else if kk l c = 0 then [atP (ftX l c) (ftY l c)] else [surdP (ftX l c) (-dirU l / nrm l) (ftY l c) (-dirV l / nrm l) (nrm l * nrm l * kk l c), surdP (ftX l c) (dirU l / nrm l) (ftY l c) (dirV l / nrm l) (nrm l * nrm l * kk l c)] := by
  have hn := nrm_pos hl
  have nn := Rat.mul_pos hn hn
  have hr := room_kk (c := c) hl
  have e1 : room l c < 0 ↔ kk l c < 0 := by rw [hr, ← sg_neg, ← sg_neg, sg_mul]; have : sg (nrm l * nrm l) = 1 := by unfold sg; grind
                                            rw [this, Int.one_mul]
  have e2 : room l c = 0 ↔ kk l c = 0 := by rw [hr, ← sg_zero, ← sg_zero, sg_mul]; have : sg (nrm l * nrm l) = 1 := by unfold sg; grind
                                            rw [this, Int.one_mul]
  unfold lcR
  by_cases h0 : kk l c < 0
  · rw [if_pos h0, if_pos (e1.2 h0)]
  · rw [if_neg h0, if_neg (fun h => h0 (e1.1 h))]
    by_cases h1 : kk l c = 0
    · rw [if_pos h1, if_pos (e2.2 h1)]
    · have h2 : room l c ≠ 0 := fun h => h1 (e2.1 h)
      have h3 : ¬ room l c < 0 := fun h => h0 (e1.1 h)
      rw [if_neg h1, if_neg h2]
      have hf := flip_iff (c := c) hl (by grind)
      rw [← hr]
      unfold dirU dirV
      by_cases hp : flipP l
      · rw [if_pos (hf.2 hp), if_pos hp, if_pos hp]
        unfold lcQ; dsimp only
        have a1 : - -l.B / nrm l = l.B / nrm l := by grind
        have a2 : - - -l.A / nrm l = -l.A / nrm l := by grind
        have a3 : -l.B / nrm l = -(l.B / nrm l) := by grind
        have a4 : - -l.A / nrm l = -(-l.A / nrm l) := by grind
        rw [a1, a2, a3, a4]
      · rw [if_neg (fun h => hp (hf.1 h)), if_neg hp, if_neg hp]
        unfold lcQ; dsimp only
        have a3 : -l.B / nrm l = -(l.B / nrm l) := by grind
        have a4 : - -l.A / nrm l = -(-l.A / nrm l) := by grind
        rw [a3, a4]
/-- Lists of the same points. -/
def PwEq : List Pt → List Pt → Prop
  | [], [] => True
  | p :: ps, q :: qs => cmpP p q = 0 ∧ PwEq ps qs
  | _, _ => False
theorem lc_same {l : Ln} {c : Ci} (hl : Lok l) : PwEq (lcP l c) (lcR l c) := by
  have hn := nrm_pos hl
  rw [lcR_eq hl]
  unfold lcP
  split
  · exact trivial
  · split
    · exact ⟨cmpP_self (.inl ⟨rfl, rfl, rfl⟩), trivial⟩
    · have hk : 0 < kk l c := by grind
      exact ⟨cmpP_surd hn hk (dir_ne' hl), cmpP_surd hn hk (dir_ne hl), trivial⟩
theorem lcP_vp {l : Ln} {c : Ci} : ∀ p ∈ lcP l c, Vp p := by
  intro p hp
  unfold lcP at hp
  split at hp
  · cases hp
  · split at hp
    · simp at hp; subst hp; exact .inl ⟨rfl, rfl, rfl⟩
    · have hk : 0 ≤ kk l c := by grind
      simp at hp
      rcases hp with rfl | rfl
      · exact surdP_vp hk
      · exact surdP_vp hk
theorem lcP_zp {m : Nat} {l : Ln} {c : Ci} (z : Zl m l) (w : Zc m c) : ∀ p ∈ lcP l c, Zp (200 * m + 200) p := by
  have fx : Rz (60 * m + 60) (ftX l c) := (ftX_rz z w).mono (by omega)
  have fy : Rz (60 * m + 60) (ftY l c) := (ftY_rz z w).mono (by omega)
  have zk : Rz (60 * m + 60) (kk l c) := (kk_rz z w).mono (by omega)
  have zu : Rz (60 * m + 60) (dirU l) := (dirU_rz z).mono (by omega)
  have zv : Rz (60 * m + 60) (dirV l) := (dirV_rz z).mono (by omega)
  intro p hp
  unfold lcP at hp
  split at hp
  · cases hp
  · split at hp
    · simp at hp; subst hp; exact (atP_zp fx fy (by omega)).mono (by omega)
    · simp at hp
      rcases hp with rfl | rfl
      · exact (surdP_zp fx (rzNeg zu) fy (rzNeg zv) zk (by omega)).mono (by omega)
      · exact (surdP_zp fx zu fy zv zk (by omega)).mono (by omega)
theorem lcR_zp {m : Nat} {l : Ln} {c : Ci} (z : Zl m l) (w : Zc m c) : ∀ p ∈ lcR l c, Zp (200 * m + 200) p := by
  have fx : Rz (60 * m + 60) (ftX l c) := (ftX_rz z w).mono (by omega)
  have fy : Rz (60 * m + 60) (ftY l c) := (ftY_rz z w).mono (by omega)
  have zk : Rz (60 * m + 60) (room l c) := (room_rz z w).mono (by omega)
  have zu : Rz (60 * m + 60) (l.B / nrm l) := (rzQuo z.B (nrm_rz z)).mono (by omega)
  have zv : Rz (60 * m + 60) (-l.A / nrm l) := (rzQuo (rzNeg z.A) (nrm_rz z)).mono (by omega)
  intro p hp
  have h1 : Zp (200 * m + 200) (lcQ l c).1 := (surdP_zp fx (rzNeg zu) fy (rzNeg zv) zk (by omega)).mono (by omega)
  have h2 : Zp (200 * m + 200) (lcQ l c).2 := (surdP_zp fx zu fy zv zk (by omega)).mono (by omega)
  unfold lcR at hp
  split at hp
  · cases hp
  · split at hp
    · simp at hp; subst hp; exact (atP_zp fx fy (by omega)).mono (by omega)
    · split at hp
      · simp at hp; rcases hp with rfl | rfl; exact h2; exact h1
      · simp at hp; rcases hp with rfl | rfl; exact h1; exact h2

/-! ### Lists of points -/
section
variable {k : Nat} [F : Fuel k] {n : Nat}
theorem getD_map {l : List Pt} {i : Nat} (h : i < l.length) : (l.map P).getD i default = P l[i] := by
  rw [List.getD_eq_getElem?_getD, List.getElem?_map, List.getElem?_eq_getElem h]; rfl
theorem good_ok {l : List Pt} (hl : l.length ≤ 100) (hv : ∀ p ∈ l, Vp p) (hz : ∀ p ∈ l, Zp n p) (h : n ≤ 10000) : swarfref09_Good k (l.map P) = some true := by
  have hlm := LM_val
  unfold swarfref09_Good
  refine Exists.elim (iter_ok (fun (x3 : (List PointD × Int × Unit)) => swarfref09_Good_L0 k x3.1 x3.2.1) (fun m s => ∃ i : Nat, m = l.length - i ∧ i ≤ l.length ∧ s = (l.map P, (i : Int), ())) (fun x => x = .inl ()) ?_ k l.length (l.map P, 0, ()) (F.len (by omega)) ⟨0, by omega, by omega, rfl⟩) ?_
  rotate_left
  · rintro x ⟨hx, rfl⟩; rw [hx]; rfl
  · rintro m s ⟨i, rfl, hi, rfl⟩
    dsimp only
    unfold swarfref09_Good_L0
    rw [List.length_map]
    by_cases h0 : i = l.length
    · right
      subst h0
      exact ⟨_, by rw [cdecF (by omega), cond_false], rfl⟩
    · left
      have hlt : i < l.length := by omega
      have z := hz _ (List.getElem_mem hlt)
      rw [cdec (by omega), cond_true, ixOk_of (by omega) (by omega), cond_true, Int.toNat_natCast, getD_map hlt]
      refine ⟨_, l.length - (i + 1), ?_, by omega, i + 1, rfl, by omega, rfl⟩
      show ((swarfref07_Valid k (P l[i])).bind _) = _
      rw [rPValid h (hv _ (List.getElem_mem hlt)), Option.bind_some, Bool.not_true, cond_false, wI64 (by omega) (by omega)]; rfl
theorem PwEq.len : ∀ {l m : List Pt}, PwEq l m → l.length = m.length
  | [], [], _ => rfl
  | [], _ :: _, h => h.elim
  | _ :: _, [], h => h.elim
  | _ :: _, _ :: _, h => by simp [PwEq.len h.2]
theorem PwEq.at : ∀ {l m : List Pt} (h : PwEq l m) (i : Nat) (h1 : i < l.length) (h2 : i < m.length), cmpP l[i] m[i] = 0
  | [], [], _, i, h1, _ => by simp at h1
  | [], _ :: _, h, _, _, _ => h.elim
  | _ :: _, [], h, _, _, _ => h.elim
  | _ :: _, _ :: _, h, 0, _, _ => h.1
  | _ :: _, _ :: _, h, i + 1, h1, h2 => PwEq.at h.2 i (by simpa using h1) (by simpa using h2)
theorem PwEq.self : ∀ {l : List Pt}, (∀ p ∈ l, Vp p) → PwEq l l
  | [], _ => trivial
  | p :: l, h => ⟨cmpP_self (h p (by simp)), PwEq.self fun q hq => h q (by simp [hq])⟩
theorem same_ok {l m : List Pt} (hl : l.length ≤ 100) (he : PwEq l m) (hz : ∀ p ∈ l, Zp n p) (hw : ∀ p ∈ m, Zp n p) (h2 : 2 ≤ n) (h : 100000 * n + 100000 ≤ LM) : swarfref09_Same k (l.map P) (m.map P) = some true := by
  have hlm := LM_val
  have hlen := he.len
  unfold swarfref09_Same
  have e0 : (((l.map P).length : Int) != ((m.map P).length : Int)) = false := by simp [hlen]
  rw [e0, cond_false]
  refine Exists.elim (iter_ok (fun (x3 : (List PointD × List PointD × Int × Unit)) => swarfref09_Same_L0 k x3.1 x3.2.1 x3.2.2.1) (fun j s => ∃ i : Nat, j = l.length - i ∧ i ≤ l.length ∧ s = (l.map P, m.map P, (i : Int), ())) (fun x => x = .inl ()) ?_ k l.length (l.map P, m.map P, 0, ()) (F.len (by omega)) ⟨0, by omega, by omega, rfl⟩) ?_
  rotate_left
  · rintro x ⟨hx, rfl⟩; rw [hx]; rfl
  · rintro j s ⟨i, rfl, hi, rfl⟩
    dsimp only
    unfold swarfref09_Same_L0
    rw [List.length_map, List.length_map]
    by_cases h0 : i = l.length
    · right
      subst h0
      exact ⟨_, by rw [cdecF (by omega), cond_false], rfl⟩
    · left
      have hlt : i < l.length := by omega
      have hlt2 : i < m.length := by omega
      have z := hz _ (List.getElem_mem hlt)
      have w := hw _ (List.getElem_mem hlt2)
      rw [cdec (by omega), cond_true, ixOk_of (by omega) (by omega), cond_true, ixOk_of (by omega) (by omega), cond_true, Int.toNat_natCast, getD_map hlt, getD_map hlt2]
      refine ⟨_, l.length - (i + 1), ?_, by omega, i + 1, rfl, by omega, rfl⟩
      show ((swarfref07_Equal k (P l[i]) (P m[i])).bind _) = _
      rw [rEqual h2 h, Option.bind_some, cdec (he.at i hlt hlt2), Bool.not_true, cond_false, wI64 (by omega) (by omega)]; rfl
theorem lawSame9 {l m : List Pt} {e : Int} (hl : l.length ≤ 100) (hv : ∀ p ∈ l, Vp p) (he : PwEq l m) (hz : ∀ p ∈ l, Zp n p) (hw : ∀ p ∈ m, Zp n p) (h2 : 2 ≤ n) (h : n ≤ 9000) : swarflaw09_same k (l.map P) e (m.map P) e = some true := by
  have hlm := LM_val
  unfold swarflaw09_same
  rw [show (e == e) = true by simp, cond_true, good_ok hl hv hz (by omega), Option.bind_some, cond_true, same_ok hl he hz hw h2 (by omega)]; rfl

/-! ### Guards -/
theorem few_ok {l : List RatD} (hl : l.length ≤ 100) (hw : ∀ r ∈ l, WfQ r) : ∃ t, swarfref05_Few k l = some t ∧ (t = true → ∀ r ∈ l, ∃ q, r = Q q ∧ Rz 2 q) := by
  have hlm := LM_val
  unfold swarfref05_Few
  refine Exists.elim (iter_ok (fun (x3 : (List RatD × Int × Unit)) => swarfref05_Few_L0 k x3.1 x3.2.1) (fun m s => ∃ i : Nat, m = l.length - i ∧ i ≤ l.length ∧ s = (l, (i : Int), ()) ∧ ∀ j (h : j < l.length), j < i → ∃ q, l[j] = Q q ∧ Rz 2 q)
    (fun x => x = .inr (false, ()) ∨ (x = .inl () ∧ ∀ r ∈ l, ∃ q, r = Q q ∧ Rz 2 q)) ?_ k l.length (l, 0, ()) (F.len (by omega)) ⟨0, by omega, by omega, rfl, fun j _ h => by omega⟩) ?_
  rotate_left
  · rintro x ⟨hx, h⟩
    rcases h with rfl | ⟨rfl, h⟩
    · rw [hx]; exact ⟨false, rfl, fun h => by cases h⟩
    · rw [hx]; exact ⟨true, rfl, fun _ => h⟩
  · rintro m s ⟨i, rfl, hi, rfl, hs⟩
    dsimp only
    unfold swarfref05_Few_L0
    by_cases h0 : i = l.length
    · right
      subst h0
      refine ⟨_, by rw [cdecF (by omega), cond_false], .inr ⟨rfl, fun r hr => ?_⟩⟩
      obtain ⟨j, hj, rfl⟩ := List.getElem_of_mem hr
      exact hs j hj hj
    · have hlt : i < l.length := by omega
      have hg : l.getD i default = l[i] := by rw [List.getD_eq_getElem?_getD, List.getElem?_eq_getElem hlt]; rfl
      have hwi := hw _ (List.getElem_mem hlt)
      rw [cdec (by omega), cond_true, ixOk_of (by omega) (by omega), cond_true, Int.toNat_natCast, hg]
      by_cases h1 : ((l[i].num.limbs.length : Nat) : Int) > 2
      · right; exact ⟨_, by rw [cdec h1]; rfl, .inl rfl⟩
      · rw [cdecF h1, cond_false]
        by_cases h2 : ((l[i].den.limbs.length : Nat) : Int) > 2
        · right; exact ⟨_, by rw [cdec h2]; rfl, .inl rfl⟩
        · rw [cdecF h2, cond_false]
          obtain ⟨t, ht, hi'⟩ := rQValid (k := k) hwi (by omega) (by omega)
          show (∃ s' m, ((swarfref02_Valid k l[i]).bind _) = some (Sum.inl s') ∧ _) ∨ (∃ x, ((swarfref02_Valid k l[i]).bind _) = some (Sum.inr x) ∧ _)
          rw [ht]
          simp only [Option.bind_some]
          cases t with
          | false => right; exact ⟨_, rfl, .inl rfl⟩
          | true =>
            left
            refine ⟨_, l.length - (i + 1), by rw [Bool.not_true, cond_false, wI64 (by omega) (by omega)]; rfl, by omega, i + 1, rfl, by omega, rfl, fun j hj hji => ?_⟩
            by_cases hj' : j = i
            · subst hj'
              obtain ⟨q, hq⟩ := hi'.1 rfl
              refine ⟨q, hq, rz_of (by rw [← hq]; omega) (by rw [← hq]; omega)⟩
            · exact hs j hj (by omega)
theorem line_ok {l : LineD} (hw : WfLine l) : ∃ t, swarfref09_Line k l = some t ∧ (t = true → ∃ x : Ln, l = x.d ∧ Zl 2 x ∧ Lok x) := by
  unfold swarfref09_Line
  obtain ⟨t, e, f⟩ := few_ok (k := k) (l := [l.A, l.B, l.C]) (by simp) (by intro r hr; simp at hr; rcases hr with rfl | rfl | rfl; exact hw.1; exact hw.2.1; exact hw.2.2)
  rw [e, Option.bind_some]
  cases t with
  | false => exact ⟨false, rfl, fun h => by cases h⟩
  | true =>
    have g := f rfl
    obtain ⟨a, ha, za⟩ := g l.A (by simp)
    obtain ⟨b, hb, zb⟩ := g l.B (by simp)
    obtain ⟨c, hc, zc⟩ := g l.C (by simp)
    have hl : l = (⟨a, b, c⟩ : Ln).d := by cases l; simp at ha hb hc; subst ha hb hc; rfl
    subst hl
    rw [cond_true]
    show ∃ t, ((swarfref02_Sign k (Q a)).bind _) = some t ∧ _
    rw [rQSign, Option.bind_some, bne0]
    by_cases h1 : a = 0
    · rw [cdecF (by simpa using h1), cond_false]
      show ∃ t, ((swarfref02_Sign k (Q b)).bind _) = some t ∧ _
      rw [rQSign, Option.bind_some, bne0]
      exact ⟨_, rfl, fun h => ⟨⟨a, b, c⟩, rfl, ⟨za, zb, zc⟩, .inr (by simpa using h)⟩⟩
    · rw [cdec h1, cond_true]
      exact ⟨true, rfl, fun _ => ⟨⟨a, b, c⟩, rfl, ⟨za, zb, zc⟩, .inl h1⟩⟩
theorem circle_ok {c : CircleD} (hw : WfCircle c) : ∃ t, swarfref09_Circle k c = some t ∧ (t = true → ∃ x : Ci, c = x.d ∧ Zc 2 x ∧ 0 < x.Q) := by
  unfold swarfref09_Circle
  obtain ⟨t, e, f⟩ := few_ok (k := k) (l := [c.X, c.Y, c.Q]) (by simp) (by intro r hr; simp at hr; rcases hr with rfl | rfl | rfl; exact hw.1; exact hw.2.1; exact hw.2.2)
  rw [e, Option.bind_some]
  cases t with
  | false => exact ⟨false, rfl, fun h => by cases h⟩
  | true =>
    have g := f rfl
    obtain ⟨a, ha, za⟩ := g c.X (by simp)
    obtain ⟨b, hb, zb⟩ := g c.Y (by simp)
    obtain ⟨q, hc, zc⟩ := g c.Q (by simp)
    have hl : c = (⟨a, b, q⟩ : Ci).d := by cases c; simp at ha hb hc; subst ha hb hc; rfl
    subst hl
    rw [cond_true]
    show ∃ t, ((swarfref02_Sign k (Q q)).bind _) = some t ∧ _
    rw [rQSign, Option.bind_some, gt0]
    exact ⟨_, rfl, fun h => ⟨⟨a, b, q⟩, rfl, ⟨za, zb, zc⟩, by simpa using h⟩⟩
end
end Go.Proofs.YtbjkpogfgijmaaaGreat
