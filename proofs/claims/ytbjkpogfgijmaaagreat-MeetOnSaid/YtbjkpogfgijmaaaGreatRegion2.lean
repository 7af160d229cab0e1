/- A region run: in the order of the text, and in any order. -/
import Derived.Test.YtbjkpogfgijmaaaGreatRegion
namespace Go.Proofs.YtbjkpogfgijmaaaGreat
open Go Go.RowKit
set_option linter.unusedVariables false
set_option linter.unusedSimpArgs false

def Old (g : Gh) (ep : Nat) : Prop := ∀ b p, g.map b = some p → b.2 ≤ ep

/-- The segment that the call may write stays where it is. -/
def Inv0 (F : Fr) (g : Gh) : Prop := ∀ k c n p, F.bor = some (k, c, n) → g.map (0, 0) = some p → p.blk = k
structure RegOk (P : Program) (nt : Nat) (nb : Bool) (l : List Oper) (evs : List Ev) (s0 : FS) (ep : Nat) : Prop where
  pos : 0 < ep
  len : evs.length = l.length
  done : ∀ (k : Nat) o e, l[k]? = some o → evs[k]? = some e → OpDone P nt nb l (SD (fun j => Nat.blt j k) 0 (l.zip evs) s0) ep o e
  lt : ∀ (k : Nat) o d, l[k]? = some o → o.dst = some d → d < nt
  ne : ∀ (j k : Nat) o o' d, l[j]? = some o → l[k]? = some o' → o.dst = some d → o'.dst = some d → j = k

section
variable {P : Program} {nt : Nat} {nb : Bool} {ops : Array Oper} {evs : List Ev} {s0 : FS} {ep : Nat} {F : Fr} {Q : Exit → Act → World → Prop}

theorem RegOk.zip (h : RegOk P nt nb ops.toList evs s0 ep) {k : Nat} (hk : k < ops.size) : ∃ o e, ops[k]? = some o ∧ ops.toList[k]? = some o ∧ evs[k]? = some e ∧ (ops.toList.zip evs)[k]? = some (o, e) := by
  have h1 : k < ops.toList.length := by simpa using hk
  have h2 : k < evs.length := by rw [h.len]; exact h1
  refine ⟨ops[k], evs[k], by simp [hk], by simp [hk], by simp [h2], ?_⟩
  rw [List.getElem?_zip_eq_some]
  exact ⟨by simp [hk], by simp [h2]⟩
theorem zip_get {l : List Oper} {evs : List Ev} {j : Nat} {x : Oper × Ev} (h : (l.zip evs)[j]? = some x) : l[j]? = some x.1 ∧ evs[j]? = some x.2 := by
  rw [List.getElem?_zip_eq_some] at h
  exact h

def Fresh (F : Fr) (l : List Oper) (D : Nat → Bool) (ep : Nat) (g : Gh) : Prop := Inv0 F g ∧ ∀ b p, g.map b = some p → b.2 < ep ∨ (b.2 = ep ∧ ∃ (j : Nat) (o : Oper), D j = true ∧ l[j]? = some o ∧ o.dst = some b.1)

/-- One operation of a region is run, out of a state that agrees with the text's on what it looks at. -/
theorem step_ok (h : RegOk P nt nb ops.toList evs s0 ep) (hnb : nb = true → F.bor = none) {D : Nat → Bool} {k : Nat} (hk : k < ops.size) (hD : D k = false) {o : Oper} {e : Ev} (ho : ops.toList[k]? = some o) (he : evs[k]? = some e)
    (hrd : ∀ (j : Nat) o', ops.toList[j]? = some o' → ∀ t ∈ readsOf ops.toList o, o'.dst = some t → D j = Nat.blt j k) (huse : ∀ (j : Nat) e', evs[j]? = some e' → ∀ b ∈ e.use, b ∈ keys e'.blk → D j = Nat.blt j k)
    (hwr : ∀ (j : Nat) e', k < j → evs[j]? = some e' → D j = true → ∀ b ∈ keys e.blk, b ∉ keys e'.blk) {g : Gh} {a : Act} {w : World} (hT : TR nt g (SD D 0 (ops.toList.zip evs) s0).1 a) (hW : WR F g (SD D 0 (ops.toList.zip evs) s0).2 w) (hF : Fresh F ops.toList D ep g)
    {K : Act → World → Prop} (hK : ∀ g' a' w', TR nt g' (SD (fun j => D j || j == k) 0 (ops.toList.zip evs) s0).1 a' → WR F g' (SD (fun j => D j || j == k) 0 (ops.toList.zip evs) s0).2 w' → Fresh F ops.toList (fun j => D j || j == k) ep g' → K a' w') :
    wpOp P ops Q k K a w := by
  have hzip : (ops.toList.zip evs)[k]? = some (o, e) := by rw [List.getElem?_zip_eq_some]; exact ⟨ho, he⟩
  have hadd : SD (fun j => D j || j == k) 0 (ops.toList.zip evs) s0 = stepF (SD D 0 (ops.toList.zip evs) s0) o e := SD_add hzip
    (fun j y hj hy hDj t ht ht' => by
      have := h.ne k j o y.1 t ho (zip_get hy).1 ht ht'
      omega)
    (fun j y hj hy hDj b hb => hwr j y.2 hj (zip_get hy).2 hDj b hb)
  rw [hadd] at hK
  have htm : ∀ t ∈ readsOf ops.toList o, (SD D 0 (ops.toList.zip evs) s0).1 t = (SD (fun j => Nat.blt j k) 0 (ops.toList.zip evs) s0).1 t := fun t ht =>
    SD_tm rfl (fun j x hx hxt => by rw [Nat.zero_add]; exact hrd j x.1 (zip_get hx).1 t ht hxt)
  have hbk : ∀ b ∈ e.use, (SD D 0 (ops.toList.zip evs) s0).2 b = (SD (fun j => Nat.blt j k) 0 (ops.toList.zip evs) s0).2 b := fun b hb =>
    SD_bk rfl (fun j x hx hxb => by rw [Nat.zero_add]; exact huse j x.2 (zip_get hx).2 b hb hxb)
  have hok : ops[k]? = some o := by simpa using ho
  have hfresh : ∀ d, o.dst = some d → g.map (d, ep) = none := by
    intro d hd
    cases hm : g.map (d, ep) with
    | none => rfl
    | some p =>
      rcases hF.2 (d, ep) p hm with h1 | ⟨_, j, o', hDj, ho', hd'⟩
      · simp at h1
      · have := h.ne j k o' o d ho' ho hd' hd
        subst this; rw [hD] at hDj; cases hDj
  have hFD : ∀ g' : Gh, (∀ b p, g'.map b = some p → g.map b = some p ∨ ∃ d, o.dst = some d ∧ b = (d, ep)) → Fresh F ops.toList (fun j => D j || j == k) ep g' := by
    intro g' hg'
    refine ⟨fun k c n p hk hp => ?_, fun b p hb => ?_⟩
    · rcases hg' (0, 0) p hp with h1 | ⟨d, hd, he⟩
      · exact hF.1 k c n p hk h1
      · have := h.pos
        have he := congrArg Prod.snd he
        simp only at he; omega
    rcases hg' b p hb with h1 | ⟨d, hd, rfl⟩
    · rcases hF.2 b p h1 with h2 | ⟨h2, j, o', hDj, h3, h4⟩
      · exact .inl h2
      · exact .inr ⟨h2, j, o', by simp [hDj], h3, h4⟩
    · exact .inr ⟨rfl, k, o, by simp, ho, hd⟩
  have hrun : EvOk P nt nb (SD (fun j => Nat.blt j k) 0 (ops.toList.zip evs) s0).1 (SD (fun j => Nat.blt j k) 0 (ops.toList.zip evs) s0).2 ep o e → o.wp P a w K Q := fun hev =>
    hev F g _ _ a w K Q hnb (fun t ht => htm t (by simp [readsOf, ht])) hbk hT hW (fun d hd => h.lt k o d ho hd) hfresh fun g' a' w' _ hmap hT' hW' => hK g' a' w' hT' hW' (hFD g' hmap)
  unfold wpOp
  rw [hok]
  dsimp only
  rcases h.done k o e ho he with ⟨hg, hev⟩ | ⟨j, want, t, b, hg, ht, hb, hcase⟩ | ⟨j, want, t, hg, ht, hb, rfl⟩
  · rw [if_pos (by simp [Region.wanted, hg])]
    exact .inl (hrun hev)
  · have htr : t ∈ readsOf ops.toList o := by simp [readsOf, hg, ht]
    have hv := hT.vals t
    rw [htm t htr, hb] at hv
    have hval := vr_bool hv
    have hy : yielded ops a.tmps j = some b := by
      unfold yielded
      have h1 : (ops[j]?).bind (·.dst) = some t := by simpa [dstAt] using ht
      rw [h1]
      have h2 : a.tmps[t]? = some (.bool b) := by
        rw [Array.getD_eq_getD_getElem?] at hval
        cases hq : a.tmps[t]? with
        | none => rw [hq] at hval; simp [undef] at hval
        | some u => rw [hq] at hval; simpa using hval
      simp [h2]
    rcases hcase with ⟨rfl, hev⟩ | ⟨hne, rfl⟩
    · rw [if_pos (by simp [Region.wanted, hg, hy])]
      exact .inl (hrun hev)
    · rw [if_neg (by simp [Region.wanted, hg, hy, hne])]
      refine hK g _ w ?_ (by simpa [stepF, skipEv, upB] using hW) (hFD g (fun b p h => .inl h))
      exact hT.put (fun d hd => h.lt k o d ho hd) LR.void
  · have htr : t ∈ readsOf ops.toList o := by simp [readsOf, hg, ht]
    have hv := hT.vals t
    rw [htm t htr, hb] at hv
    have hval : a.tmps.getD t undef = undef := by
      have h1 : LR g .void (a.tmps.getD t undef) := hv
      generalize a.tmps.getD t undef = z at h1
      cases h1; rfl
    have hy : yielded ops a.tmps j = none := by
      unfold yielded
      have h1 : (ops[j]?).bind (·.dst) = some t := by simpa [dstAt] using ht
      rw [h1]
      rw [Array.getD_eq_getD_getElem?] at hval
      cases hq : a.tmps[t]? with
      | none => simp [hq]
      | some u => rw [hq] at hval; simp only [Option.getD_some] at hval; subst hval; simp [hq, undef]
    rw [if_neg (by simp [Region.wanted, hg, hy])]
    refine hK g _ w ?_ (by simpa [stepF, skipEv, upB] using hW) (hFD g (fun b p h => .inl h))
    exact hT.put (fun d hd => h.lt k o d ho hd) LR.void

theorem SD_all {D : Nat → Bool} {l : List (Oper × Ev)} {s : FS} (h : ∀ j, j < l.length → D j = true) : SD D 0 l s = SD (fun _ => true) 0 l s := by
  refine Prod.ext (funext fun t => SD_tm rfl fun j x hx _ => ?_) (funext fun b => SD_bk rfl fun j x hx _ => ?_)
  · rw [Nat.zero_add]; exact h j (List.getElem?_eq_some_iff.1 hx).1
  · rw [Nat.zero_add]; exact h j (List.getElem?_eq_some_iff.1 hx).1

theorem blt_iff {a b : Nat} : Nat.blt a b = true ↔ a < b := ⟨nblt_lt, fun h => by unfold Nat.blt; exact Nat.ble_eq_true_of_le h⟩
theorem blt_false {a b : Nat} (h : ¬ a < b) : Nat.blt a b = false := by
  cases hb : Nat.blt a b with
  | false => rfl
  | true => exact absurd (nblt_lt hb) h

/-- In the order of the text. -/
theorem ops_text (h : RegOk P nt nb ops.toList evs s0 ep) (hnb : nb = true → F.bor = none)
    (hQ : ∀ g a w, TR nt g (SD (fun _ => true) 0 (ops.toList.zip evs) s0).1 a → WR F g (SD (fun _ => true) 0 (ops.toList.zip evs) s0).2 w → Fresh F ops.toList (fun _ => true) ep g → Q .normal a w) :
    ∀ (m k : Nat), k + m = ops.size → ∀ (g : Gh) (a : Act) (w : World), TR nt g (SD (fun j => Nat.blt j k) 0 (ops.toList.zip evs) s0).1 a → WR F g (SD (fun j => Nat.blt j k) 0 (ops.toList.zip evs) s0).2 w → Fresh F ops.toList (fun j => Nat.blt j k) ep g →
      wpOps P ops Q (List.range' k m) a w
  | 0, k, hkm, g, a, w, hT, hW, hF => by
    have hall : SD (fun j => Nat.blt j k) 0 (ops.toList.zip evs) s0 = SD (fun _ => true) 0 (ops.toList.zip evs) s0 := SD_all fun j hj => blt_iff.2 (by simp at hj; omega)
    rw [hall] at hT hW
    exact hQ g a w hT hW ⟨hF.1, fun b p hb => (hF.2 b p hb).imp_right fun ⟨h1, j, o, _, h2⟩ => ⟨h1, j, o, rfl, h2⟩⟩
  | m + 1, k, hkm, g, a, w, hT, hW, hF => by
    rw [List.range'_succ, wpOps_cons]
    have hk : k < ops.size := by omega
    obtain ⟨o, e, _, ho, he, _⟩ := h.zip hk
    have hset : (fun j => Nat.blt j k || j == k) = fun j => Nat.blt j (k + 1) := by
      funext j
      by_cases h1 : j < k
      · rw [blt_iff.2 h1, blt_iff.2 (by omega)]; rfl
      · by_cases h2 : j = k
        · subst h2; rw [blt_iff.2 (show j < j + 1 by omega)]; simp
        · rw [blt_false h1, blt_false (by omega)]; simp [h2]
    refine step_ok (D := fun j => Nat.blt j k) h hnb hk (blt_false (Nat.lt_irrefl k)) ho he (fun _ _ _ _ _ _ => rfl) (fun _ _ _ _ _ _ => rfl) (fun j e' hj _ hD => ?_) hT hW hF fun g' a' w' hT' hW' hF' => ?_
    · have := nblt_lt hD; omega
    · rw [hset] at hT' hW' hF'
      exact ops_text h hnb hQ m (k + 1) (by omega) g' a' w' hT' hW' hF'

/-! ### In any order that the edges allow -/
/-- What is done is closed under waiting. -/
def Closed (l : List Oper) (D : Nat → Bool) : Prop := ∀ (i : Nat) o, l[i]? = some o → D i = true → ∀ x ∈ o.after.toList, Region.binds .any x = true → D x.on = true
def BitsOk (l : List Oper) (D : Nat → Bool) (i b : Nat) : Prop := ∀ o, l[i]? = some o → (∀ x ∈ o.after.toList, Region.binds .any x = true → D x.on = true) → ∀ j, b.testBit j = true → D j = true

theorem befAdd_bit {acc : List Nat} {o : Oper} {j : Nat} (h : (befAdd acc o).testBit j = true) : ∃ x ∈ o.after.toList, Region.binds .any x = true ∧ (j = x.on ∨ (acc.getD x.on 0).testBit j = true) := by
  unfold befAdd at h
  suffices hs : ∀ (l : List Edge) (s : Nat), (l.foldl (fun s e => if Region.binds .any e then s ||| 2 ^ e.on ||| acc.getD e.on 0 else s) s).testBit j = true → s.testBit j = true ∨ ∃ x ∈ l, Region.binds .any x = true ∧ (j = x.on ∨ (acc.getD x.on 0).testBit j = true) by
    rcases hs _ 0 h with h1 | h1
    · simp at h1
    · exact h1
  intro l
  induction l with
  | nil => intro s h; exact .inl h
  | cons x l ih =>
    intro s h
    rw [List.foldl_cons] at h
    rcases ih _ h with h1 | ⟨y, h1, h2⟩
    · split at h1
      · rename_i hb
        rw [Nat.testBit_or, Nat.testBit_or, Nat.testBit_two_pow] at h1
        simp only [Bool.or_eq_true, decide_eq_true_eq] at h1
        rcases h1 with (h1 | h1) | h1
        · exact .inl h1
        · exact .inr ⟨x, by simp, hb, .inl h1.symm⟩
        · exact .inr ⟨x, by simp, hb, .inr h1⟩
      · exact .inl h1
    · exact .inr ⟨y, by simp [h1], h2⟩
theorem bef_ok {l : List Oper} {D : Nat → Bool} (hc : Closed l D) : ∀ (rest pre : List Oper) (acc : List Nat), l = pre ++ rest → acc.length = pre.length → (∀ (i : Nat) b, acc[i]? = some b → BitsOk l D i b) → ∀ (i : Nat) b, (bef acc rest)[i]? = some b → BitsOk l D i b
  | [], pre, acc, hl, hlen, hacc => hacc
  | o :: rest, pre, acc, hl, hlen, hacc => by
    unfold bef
    refine bef_ok hc rest (pre ++ [o]) (acc ++ [befAdd acc o]) (by simp [hl]) (by simp [hlen]) fun i b hb => ?_
    rw [List.getElem?_append] at hb
    split at hb
    · exact hacc i b hb
    · rename_i hi
      have hi' : i = acc.length := by
        have := (List.getElem?_eq_some_iff.1 hb).1
        simp at this; omega
      subst hi'
      simp at hb; subst hb
      intro o' ho' hd j hj
      have : o' = o := by
        rw [hl, hlen, List.getElem?_append_right (Nat.le_refl _)] at ho'
        simpa using ho'.symm
      subst this
      obtain ⟨x, hx, hbx, hj⟩ := befAdd_bit hj
      have hDx := hd x hx hbx
      rcases hj with rfl | hj
      · exact hDx
      · rw [List.getD_eq_getElem?_getD] at hj
        cases hq : acc[x.on]? with
        | none => rw [hq] at hj; simp at hj
        | some b =>
          rw [hq] at hj
          have hlt := (List.getElem?_eq_some_iff.1 hq).1
          have hlt2 : x.on < l.length := by rw [hl]; simp; omega
          exact hacc _ b hq l[x.on] (List.getElem?_eq_getElem hlt2) (hc _ _ (List.getElem?_eq_getElem hlt2) hDx) j hj

theorem ordRow_ok {bits : Nat} {f : Foot} : ∀ {gs : List Foot} {i : Nat}, ordRow bits f i gs = true → ∀ (j : Nat) g, gs[j]? = some g → clash g f = true → bits.testBit (i + j) = true
  | [], _, _, j, g, hg, _ => by simp at hg
  | x :: gs, i, h, j, g, hg, hc => by
    simp only [ordRow, Bool.and_eq_true, Bool.or_eq_true, Bool.not_eq_true'] at h
    cases j with
    | zero =>
      simp at hg; subst hg
      rcases h.1 with h1 | h1
      · simpa using h1
      · rw [hc] at h1; cases h1
    | succ j =>
      have := ordRow_ok h.2 j g (by simpa using hg) hc
      rwa [show i + (j + 1) = i + 1 + j from by omega]
theorem ordB_ok : ∀ {bs : List Nat} {done rest : List Foot}, ordB bs done rest = true → ∀ (k : Nat) f, rest[k]? = some f → ∃ b, bs[k]? = some b ∧ ∀ (i : Nat) g, (done ++ rest.take k)[i]? = some g → clash g f = true → b.testBit i = true
  | _, _, [], _, k, f, hf => by simp at hf
  | [], _, _ :: _, h, _, _, _ => by simp [ordB] at h
  | b :: bs, done, x :: rest, h, k, f, hf => by
    simp only [ordB, Bool.and_eq_true] at h
    cases k with
    | zero =>
      simp at hf; subst hf
      exact ⟨b, rfl, fun i g hg hc => by have := ordRow_ok h.1 i g (by simpa using hg) hc; simpa using this⟩
    | succ k =>
      obtain ⟨b', h1, h2⟩ := ordB_ok h.2 k f (by simpa using hf)
      exact ⟨b', by simpa using h1, fun i g hg hc => h2 i g (by simpa [List.append_assoc] using hg) hc⟩
theorem feet_get {all : List Oper} : ∀ {l : List Oper} {evs : List Ev} {k : Nat} {o : Oper} {e : Ev}, l[k]? = some o → evs[k]? = some e → (feet all l (evs.map Ev.foot))[k]? = some (footOf all o e.foot)
  | [], _, _, _, _, h, _ => by simp at h
  | _ :: _, [], _, _, _, _, h => by simp at h
  | x :: l, y :: evs, 0, o, e, h, h' => by simp at h h'; subst h h'; simp [feet]
  | x :: l, y :: evs, k + 1, o, e, h, h' => by
    have := feet_get (all := all) (l := l) (evs := evs) (k := k) (by simpa using h) (by simpa using h')
    simpa [feet] using this

theorem tMem_iff {t : Tmp} {l : List Tmp} : tMem t l = true ↔ t ∈ l := by
  unfold tMem
  rw [List.any_eq_true]
  exact ⟨fun ⟨x, hx, h⟩ => by rw [Nat.eq_of_beq_eq_true h]; exact hx, fun h => ⟨t, h, Nat.beq_refl t⟩⟩
theorem bMem_iff {b : BId} {l : List BId} : bMem b l = true ↔ b ∈ l := by
  unfold bMem
  rw [List.any_eq_true]
  exact ⟨fun ⟨x, hx, h⟩ => by rw [bidEq_iff.1 h]; exact hx, fun h => ⟨b, h, bidEq_self b⟩⟩
theorem clash_rd {all : List Oper} {o o' : Oper} {f f' : List BId × List BId} {t : Tmp} (h : o.dst = some t) (ht : t ∈ readsOf all o') : clash (footOf all o f) (footOf all o' f') = true ∧ clash (footOf all o' f') (footOf all o f) = true := by
  have : oMem o.dst (readsOf all o') = true := by rw [h]; exact tMem_iff.2 ht
  constructor <;> simp [clash, footOf, this]
theorem clash_use {all : List Oper} {o o' : Oper} {f f' : List BId × List BId} {b : BId} (h : b ∈ f.2) (h' : b ∈ f'.1) : clash (footOf all o f) (footOf all o' f') = true ∧ clash (footOf all o' f') (footOf all o f) = true := by
  have h1 : bMem b f'.1 = true := bMem_iff.2 h'
  have h2 : f.2.any (fun x => bMem x f'.1) = true := List.any_eq_true.2 ⟨b, h, h1⟩
  have h3 : f.2.any (fun x => bMem x f'.1 || bMem x f'.2) = true := List.any_eq_true.2 ⟨b, h, by simp [h1]⟩
  constructor <;> simp only [clash, footOf, h2, h3, Bool.or_true, Bool.true_or]
theorem clash_wr {all : List Oper} {o o' : Oper} {f f' : List BId × List BId} {b : BId} (h : b ∈ f.2) (h' : b ∈ f'.2) : clash (footOf all o f) (footOf all o' f') = true := by
  have h1 : bMem b f'.2 = true := bMem_iff.2 h'
  have h3 : f.2.any (fun x => bMem x f'.1 || bMem x f'.2) = true := List.any_eq_true.2 ⟨b, h, by simp [h1]⟩
  simp only [clash, footOf, h3, Bool.or_true, Bool.true_or]

theorem edgesB_ok : ∀ {l : List Oper} {i : Nat}, edgesB i l = true → ∀ (k : Nat) o, l[k]? = some o → ∀ x ∈ o.after.toList, Region.binds .any x = true → x.on < i + k
  | [], _, _, k, o, h => by simp at h
  | y :: l, i, h, k, o, hk => by
    simp only [edgesB, Bool.and_eq_true, List.all_eq_true, Bool.or_eq_true, Bool.not_eq_true'] at h
    cases k with
    | zero =>
      simp at hk; subst hk
      intro x hx hb
      rcases h.1.1 x hx with h1 | h1
      · rw [hb] at h1; cases h1
      · have := nblt_lt h1; omega
    | succ k =>
      intro x hx hb
      have := edgesB_ok h.2 k o (by simpa using hk) x hx hb
      omega
theorem mem_ready {md : Region.Mode} {listed : Array Bool} {k : Nat} : k ∈ Region.ready md ops listed ↔ k < ops.size ∧ listed.getD k true = false ∧ ∃ o, ops[k]? = some o ∧ ∀ x ∈ o.after.toList, Region.binds md x = true → listed.getD x.on false = true := by
  unfold Region.ready
  rw [List.mem_filter, List.mem_range]
  constructor
  · rintro ⟨h1, h2⟩
    simp only [Bool.and_eq_true, Bool.not_eq_true'] at h2
    have ho : ops[k]? = some ops[k] := by simp [h1]
    rw [ho] at h2
    simp only [Option.map_some, Option.getD_some, Array.all_eq_true', Bool.or_eq_true, Bool.not_eq_true'] at h2
    refine ⟨h1, h2.1, ops[k], ho, fun x hx hb => ?_⟩
    rcases h2.2 x (by simpa using hx) with h3 | h3
    · rw [hb] at h3; cases h3
    · exact h3
  · rintro ⟨h1, h2, o, h3, h4⟩
    refine ⟨h1, ?_⟩
    rw [h2, h3]
    simp only [Bool.not_false, Option.map_some, Option.getD_some, Bool.true_and, Array.all_eq_true', Bool.or_eq_true, Bool.not_eq_true']
    intro x hx
    cases hb : Region.binds md x with
    | false => exact .inl rfl
    | true => exact .inr (h4 x (by simpa using hx) hb)

theorem ops_any (h : RegOk P nt nb ops.toList evs s0 ep) (hnb : nb = true → F.bor = none) (hedge : edgesB 0 ops.toList = true) (hord : ordB (bef [] ops.toList) [] (feet ops.toList ops.toList (evs.map Ev.foot)) = true)
    (hQ : ∀ g a w, TR nt g (SD (fun _ => true) 0 (ops.toList.zip evs) s0).1 a → WR F g (SD (fun _ => true) 0 (ops.toList.zip evs) s0).2 w → Fresh F ops.toList (fun _ => true) ep g → Q .normal a w) :
    ∀ (fuel : Nat) (listed : Array Bool), listed.size = ops.size → listed.toList.count false ≤ fuel → Closed ops.toList (fun i => listed.getD i false) → ∀ (g : Gh) (a : Act) (w : World),
      TR nt g (SD (fun i => listed.getD i false) 0 (ops.toList.zip evs) s0).1 a → WR F g (SD (fun i => listed.getD i false) 0 (ops.toList.zip evs) s0).2 w → Fresh F ops.toList (fun i => listed.getD i false) ep g → wpAny P .any ops Q fuel listed a w := by
  intro fuel
  have hfin : ∀ (listed : Array Bool), listed.size = ops.size → Region.ready .any ops listed = [] → ∀ (g : Gh) (a : Act) (w : World),
      TR nt g (SD (fun i => listed.getD i false) 0 (ops.toList.zip evs) s0).1 a → WR F g (SD (fun i => listed.getD i false) 0 (ops.toList.zip evs) s0).2 w → Fresh F ops.toList (fun i => listed.getD i false) ep g → Q .normal a w := by
    intro listed hsz hr g a w hT hW hF
    have hall : ∀ i, i < ops.size → listed.getD i false = true := by
      intro i
      induction i using Nat.strongRecOn with
      | ind i ih =>
        intro hi
        cases hq : listed.getD i false with
        | true => rfl
        | false =>
          have ho : ops[i]? = some ops[i] := by simp [hi]
          have hmem : i ∈ Region.ready .any ops listed := mem_ready.2 ⟨hi, by
            rw [Array.getD_eq_getD_getElem?] at hq ⊢
            have : listed[i]? = some listed[i] := by simp [hsz, hi]
            rw [this] at hq ⊢; exact hq, ops[i], ho, fun x hx hb => by
              have := edgesB_ok hedge i ops[i] (by simp [hi]) x hx hb
              exact ih x.on (by omega) (by omega)⟩
          rw [hr] at hmem; cases hmem
    have hall2 : SD (fun i => listed.getD i false) 0 (ops.toList.zip evs) s0 = SD (fun _ => true) 0 (ops.toList.zip evs) s0 := SD_all fun j hj => hall j (by simp at hj; omega)
    rw [hall2] at hT hW
    exact hQ g a w hT hW ⟨hF.1, fun b p hb => (hF.2 b p hb).imp_right fun ⟨h1, j, o, _, h2⟩ => ⟨h1, j, o, rfl, h2⟩⟩
  induction fuel with
  | zero =>
    intro listed hsz hcnt hcl g a w hT hW hF
    have hr : Region.ready .any ops listed = [] := by
      cases hq : Region.ready .any ops listed with
      | nil => rfl
      | cons k ks =>
        have hk : k ∈ Region.ready .any ops listed := by rw [hq]; simp
        obtain ⟨h1, h2, _⟩ := mem_ready.1 hk
        have : listed[k]? = some listed[k] := by simp [hsz, h1]
        rw [Array.getD_eq_getD_getElem?, this] at h2
        have hm : false ∈ listed.toList := by
          have h3 : listed[k] = false := h2
          rw [← h3]; simp
        have := List.count_pos_iff.2 hm
        omega
    exact ⟨hr, hfin listed hsz hr g a w hT hW hF⟩
  | succ fuel ih =>
    intro listed hsz hcnt hcl g a w hT hW hF
    refine ⟨fun hr => hfin listed hsz hr g a w hT hW hF, fun k hk => ?_⟩
    obtain ⟨hk1, hk2, o, hko, hedges⟩ := mem_ready.1 hk
    obtain ⟨o', e, hko', ho, he, _⟩ := h.zip hk1
    rw [hko] at hko'; obtain rfl := Option.some.inj hko'
    have hlk : listed[k]? = some false := by
      have : listed[k]? = some listed[k] := by simp [hsz, hk1]
      rw [Array.getD_eq_getD_getElem?, this] at hk2
      rw [this]; exact congrArg some hk2
    have hD : listed.getD k false = false := by rw [Array.getD_eq_getD_getElem?, hlk]; rfl
    -- those that clash with it earlier are done, those later are not
    have hbits := bef_ok hcl ops.toList [] [] rfl rfl (fun i b hb => by simp at hb)
    have hclash : ∀ (j : Nat) oj ej, ops.toList[j]? = some oj → evs[j]? = some ej → (clash (footOf ops.toList oj ej.foot) (footOf ops.toList o e.foot) = true → j < k → listed.getD j false = true) ∧ (clash (footOf ops.toList o e.foot) (footOf ops.toList oj ej.foot) = true → k < j → listed.getD j false = false) := by
      intro j oj ej hoj hej
      have hfj := feet_get (all := ops.toList) hoj hej
      have hfk := feet_get (all := ops.toList) ho he
      constructor
      · intro hc hjk
        obtain ⟨b, hb1, hb2⟩ := ordB_ok hord k _ hfk
        have := hb2 j _ (by rw [List.nil_append, List.getElem?_take, if_pos hjk]; exact hfj) hc
        exact hbits k b hb1 o ho hedges j this
      · intro hc hjk
        cases hq : listed.getD j false with
        | false => rfl
        | true =>
          obtain ⟨b, hb1, hb2⟩ := ordB_ok hord j _ hfj
          have := hb2 k _ (by rw [List.nil_append, List.getElem?_take, if_pos hjk]; exact hfk) hc
          have h9 : listed.getD k false = true := hbits j b hb1 oj hoj (hcl j oj hoj hq) k this
          rw [hD] at h9; cases h9
    have hev : ∀ (j : Nat) oj, ops.toList[j]? = some oj → ∃ ej, evs[j]? = some ej := fun j oj hj => by
      have h1 := (List.getElem?_eq_some_iff.1 hj).1
      have h2 : j < evs.length := by rw [h.len]; exact h1
      exact ⟨evs[j], by simp [h2]⟩
    have hop : ∀ (j : Nat) ej, evs[j]? = some ej → ∃ oj, ops.toList[j]? = some oj := fun j ej hj => by
      have h1 := (List.getElem?_eq_some_iff.1 hj).1
      rw [h.len] at h1
      exact ⟨ops.toList[j], by simp⟩
    have hjk : ∀ (j : Nat), ((j < k → listed.getD j false = true) ∧ (k < j → listed.getD j false = false)) → listed.getD j false = Nat.blt j k := by
      intro j ⟨h1, h2⟩
      by_cases hlt : j < k
      · rw [h1 hlt, blt_iff.2 hlt]
      · rw [blt_false hlt]
        by_cases he : j = k
        · subst he; exact hD
        · exact h2 (by omega)
    have hset : (fun i => (listed.setIfInBounds k true).getD i false) = fun j => listed.getD j false || j == k := by
      funext j
      rw [Array.getD_eq_getD_getElem?, Array.getD_eq_getD_getElem?]
      by_cases hj : k = j
      · subst hj; simp [hsz, hk1]
      · rw [Array.getElem?_setIfInBounds_ne hj]; simp [Ne.symm hj]
    refine step_ok h hnb hk1 hD ho he (fun j oj hoj t ht hd => hjk j ?_) (fun j ej hej b hb hkb => hjk j ?_) (fun j ej hlt hej hDj b hb hb' => ?_) hT hW hF fun g' a' w' hT' hW' hF' => ?_
    · obtain ⟨ej, hej⟩ := hev j oj hoj
      obtain ⟨c1, c2⟩ := clash_rd (all := ops.toList) (f := ej.foot) (f' := e.foot) hd ht
      exact ⟨(hclash j oj ej hoj hej).1 c1, (hclash j oj ej hoj hej).2 c2⟩
    · obtain ⟨oj, hoj⟩ := hop j ej hej
      obtain ⟨c1, c2⟩ := clash_use (all := ops.toList) (o := oj) (o' := o) (f := ej.foot) (f' := e.foot) hkb hb
      exact ⟨(hclash j oj ej hoj hej).1 c1, (hclash j oj ej hoj hej).2 c2⟩
    · obtain ⟨oj, hoj⟩ := hop j ej hej
      have c1 := clash_wr (all := ops.toList) (o := o) (o' := oj) (f := e.foot) (f' := ej.foot) hb hb'
      have := (hclash j oj ej hoj hej).2 c1 hlt
      rw [this] at hDj; cases hDj
    · refine ih (listed.setIfInBounds k true) (by simp [hsz]) ?_ ?_ g' a' w' (by rw [hset]; exact hT') (by rw [hset]; exact hW') (by rw [hset]; exact hF')
      · have hlt : k < listed.toList.length := by simp [hsz, hk1]
        have h1 : listed.toList[k] = false := by
          have := hlk
          simp only [Array.getElem?_eq_some_iff] at this
          obtain ⟨_, h2⟩ := this
          simpa using h2
        have h2 : (listed.setIfInBounds k true).toList = listed.toList.set k true := by simp
        rw [h2, List.count_set hlt, h1]
        simp only [BEq.rfl, if_true, show (true == false) = false from rfl, Bool.false_eq_true, if_false]
        omega
      · intro i oi hoi hDi x hx hb
        have hDi' : (listed.getD i false || i == k) = true := by rw [← hDi]; exact (congrFun hset i).symm
        show (fun i => (listed.setIfInBounds k true).getD i false) x.on = true
        rw [hset]
        simp only [Bool.or_eq_true, beq_iff_eq] at hDi' ⊢
        rcases hDi' with h1 | h1
        · exact .inl (hcl i oi hoi h1 x hx hb)
        · subst h1
          rw [ho] at hoi; obtain rfl := Option.some.inj hoi
          exact .inl (hedges x hx hb)
end
end Go.Proofs.YtbjkpogfgijmaaaGreat
