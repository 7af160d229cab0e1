/- Code: regions in a row, branches, blocks, loops. -/
import Derived.Test.YtbjkpogfgijmaaaGreatRegion2
import Derived.LoopN
namespace Go.Proofs.YtbjkpogfgijmaaaGreat
open Go Go.RowKit
set_option linter.unusedVariables false
set_option linter.unusedSimpArgs false

structure SR (nt : Nat) (F : Fr) (g : Gh) (st : St) (a : Act) (w : World) : Prop where
  tr : TR nt g (lk st.tm) a
  wr : WR F g (lkb st.bk) w
  old : Old g st.ep
  inv0 : Inv0 F g

def Ex.toExit : Ex → Exit
  | .normal => .normal
  | .exit id => .exit id
  | .ret => .ret

def Post {R : Type} (nt : Nat) (F : Fr) (K : Ex → St → Option R) (r : R) (x : Exit) (a : Act) (w : World) : Prop := ∃ e st g, x = Ex.toExit e ∧ K e st = some r ∧ SR nt F g st a w

section
variable {P : Program} {R : Type} {C : Ctx} {r : R}

theorem dstsB_ok {nt : Nat} : ∀ {l : List Oper} {seen : List Tmp}, dstsB nt l seen = true → (∀ (k : Nat) o d, l[k]? = some o → o.dst = some d → d < nt ∧ d ∉ seen) ∧ ∀ (j k : Nat) o o' d, l[j]? = some o → l[k]? = some o' → o.dst = some d → o'.dst = some d → j = k
  | [], _, _ => ⟨fun k o d h => by simp at h, fun j k o o' d h => by simp at h⟩
  | x :: l, seen, h => by
    unfold dstsB at h
    split at h
    · rename_i d hd
      simp only [Bool.and_eq_true, Bool.not_eq_true'] at h
      obtain ⟨⟨h1, h2⟩, h3⟩ := h
      obtain ⟨ih1, ih2⟩ := dstsB_ok h3
      have hns : d ∉ seen := fun hm => by rw [tMem_iff.2 hm] at h2; cases h2
      refine ⟨fun k o d' hk hd' => ?_, fun j k o o' d' hj hk hd1 hd2 => ?_⟩
      · cases k with
        | zero => simp at hk; subst hk; rw [hd] at hd'; obtain rfl := Option.some.inj hd'; exact ⟨nblt_lt h1, hns⟩
        | succ k =>
          obtain ⟨a1, a2⟩ := ih1 k o d' (by simpa using hk) hd'
          exact ⟨a1, fun hm => a2 (by simp [hm])⟩
      · cases j with
        | zero =>
          cases k with
          | zero => rfl
          | succ k =>
            simp at hj; subst hj
            rw [hd] at hd1; obtain rfl := Option.some.inj hd1
            have := (ih1 k o' d (by simpa using hk) hd2).2
            simp at this
        | succ j =>
          cases k with
          | zero =>
            simp at hk; subst hk
            rw [hd] at hd2; obtain rfl := Option.some.inj hd2
            have := (ih1 j o d (by simpa using hj) hd1).2
            simp at this
          | succ k => exact congrArg (· + 1) (ih2 j k o o' d' (by simpa using hj) (by simpa using hk) hd1 hd2)
    · rename_i hd
      obtain ⟨ih1, ih2⟩ := dstsB_ok h
      refine ⟨fun k o d' hk hd' => ?_, fun j k o o' d' hj hk hd1 hd2 => ?_⟩
      · cases k with
        | zero => simp at hk; subst hk; rw [hd] at hd'; cases hd'
        | succ k => exact ih1 k o d' (by simpa using hk) hd'
      · cases j with
        | zero => simp at hj; subst hj; rw [hd] at hd1; cases hd1
        | succ j =>
          cases k with
          | zero => simp at hk; subst hk; rw [hd] at hd2; cases hd2
          | succ k => exact congrArg (· + 1) (ih2 j k o o' d' (by simpa using hj) (by simpa using hk) hd1 hd2)

theorem region_ok (hC : CtxOk P C) (hm : P.follows .mixedOrders = true) {id : Nat} {ops : Array Oper} {draw : Bool} {st : St} {K : St → Option R} (h : evRegion C ops.toList draw st K = some r) {F : Fr} (hnb : C.nb = true → F.bor = none) {g : Gh} {a : Act} {w : World} (hs : SR C.nt F g st a w) :
    (Code.region id ops draw).wp P (fun x a w => ∃ st' g', x = .normal ∧ K st' = some r ∧ SR C.nt F g' st' a w) a w := by
  unfold evRegion at h
  obtain ⟨hd, h⟩ := cond_some h
  obtain ⟨evs, st', h1, h2, h3, h4, h5⟩ := evOps_ok (nb := C.nb) hC rfl h
  obtain ⟨hd1, hd2⟩ := dstsB_ok hd
  have hreg : RegOk P C.nt C.nb ops.toList evs (lk st.tm, lkb st.bk) (st.ep + 1) := ⟨by omega, h1, h5, fun k o d hk hd => (hd1 k o d hk hd).1, hd2⟩
  have h2' : K st' = some r ∧ (draw = true → edgesB 0 ops.toList = true ∧ ordB (bef [] ops.toList) [] (feet ops.toList ops.toList (evs.map Ev.foot)) = true) := by
    cases draw with
    | true =>
      rw [cond_true] at h2
      obtain ⟨h6, h7⟩ := cond_some h2
      simp only [Bool.and_eq_true, List.append_nil, List.reverse_reverse] at h6
      exact ⟨h7, fun _ => h6⟩
    | false => exact ⟨h2, fun h => by cases h⟩
  obtain ⟨hK, hdr⟩ := h2'
  have hQ : ∀ g a w, TR C.nt g (SD (fun _ => true) 0 (ops.toList.zip evs) (lk st.tm, lkb st.bk)).1 a → WR F g (SD (fun _ => true) 0 (ops.toList.zip evs) (lk st.tm, lkb st.bk)).2 w → Fresh F ops.toList (fun _ => true) (st.ep + 1) g →
      (fun x a w => ∃ st' g', x = Exit.normal ∧ K st' = some r ∧ SR C.nt F g' st' a w) .normal a w := by
    intro g a w hT hW hF
    rw [h4] at hT hW
    refine ⟨st', g, rfl, hK, hT, hW, fun b p hb => ?_, hF.1⟩
    rw [h3]
    rcases hF.2 b p hb with h6 | ⟨h6, _⟩
    · show b.2 ≤ st.ep + 1
      omega
    · show b.2 ≤ st.ep + 1
      omega
  have hF0 : ∀ D, Fresh F ops.toList D (st.ep + 1) g := fun D => ⟨hs.inv0, fun b p hb => .inl (by have := hs.old b p hb; omega)⟩
  have hnone : ∀ (D : Nat → Bool), (∀ j, D j = false) → SD D 0 (ops.toList.zip evs) (lk st.tm, lkb st.bk) = (lk st.tm, lkb st.bk) := by
    intro D hD
    have h2 : ∀ (l : List (Oper × Ev)) (i : Nat) (s : FS), SD D i l s = s := by
      intro l; induction l with
      | nil => intro i s; rfl
      | cons z l ih => intro i s; unfold SD; rw [hD, cond_false]; exact ih _ _
    exact h2 _ _ _
  cases draw with
  | false =>
    refine wp_region ?_
    have e0 : ∀ j, (fun j => Nat.blt j 0) j = false := fun j => blt_false (Nat.not_lt_zero j)
    have := ops_text (Q := fun x a w => ∃ st' g', x = Exit.normal ∧ K st' = some r ∧ SR C.nt F g' st' a w) hreg hnb hQ ops.size 0 (by omega) g a w (by rw [hnone _ e0]; exact hs.tr) (by rw [hnone _ e0]; exact hs.wr) (hF0 _)
    rw [List.range_eq_range']; exact this
  | true =>
    obtain ⟨he, ho⟩ := hdr rfl
    refine wp_region_any hm ?_
    have e0 : ∀ j, (fun i => (Array.replicate ops.size false).getD i false) j = false := fun j => by
      show (Array.replicate ops.size false).getD j false = false
      rw [Array.getD_eq_getD_getElem?, Array.getElem?_replicate]; split <;> rfl
    refine ops_any (Q := fun x a w => ∃ st' g', x = Exit.normal ∧ K st' = some r ∧ SR C.nt F g' st' a w) hreg hnb he ho hQ ops.size (Array.replicate ops.size false) (by simp) (by simp) (fun i o _ hD => by rw [e0 i] at hD; cases hD) g a { w with drawn := w.drawn + 1 } (by rw [hnone _ e0]; exact hs.tr) (by rw [hnone _ e0]; exact hs.wr.drew) (hF0 _)

/-! ### A loop's state, written anew -/
def look : List (BId × Pl) → BId → Option Pl
  | [], _ => none
  | (k, v) :: r, b => if b = k then some v else look r b
theorem look_le {m : Imm} {ml : List (BId × Pl)} {k : BId} {p : Pl} (h : look ml k = none) : Gh.le ⟨m, look ml⟩ ⟨m, look ((k, p) :: ml)⟩ := by
  refine ⟨fun _ _ h => h, fun b q hq => ?_⟩
  show (if b = k then some p else look ml b) = some q
  rw [if_neg]; exact hq
  rintro rfl
  have : look ml b = some q := hq
  rw [h] at this; cases this

theorem norm_ok {mu : Bool} {nt : Nat} {F : Fr} {g : Gh} {st : St} {a : Act} {w : World} (hs : SR nt F g st a w) : ∀ (l : List Slot) (u : List BId) (v : SV l), (∀ s ∈ l, SlotOk s) → (l.map Slot.t).Nodup → rvS mu st l u = some v →
    ∃ (ml : List (BId × Pl)) (orig : BId → BId), (∀ t, VR ⟨g.imm, look ml⟩ (lk (mkT l v) t) (a.tmps.getD t undef)) ∧ (∀ b p, look ml b = some p → b.2 = 0 ∧ b.1 ∈ l.map Slot.t) ∧
      (∀ b x, lkb (mkB l v) b = some x → ∃ p, look ml b = some p ∧ BR ⟨g.imm, look ml⟩ p w x ∧ (p.isNil = false → (∃ x0, lkb st.bk (orig b) = some x0) ∧ g.map (orig b) = some p ∧ orig b ∉ u)) ∧
      (∀ b b' x x' p p', lkb (mkB l v) b = some x → lkb (mkB l v) b' = some x' → look ml b = some p → look ml b' = some p' → p.isNil = false → p'.isNil = false → orig b = orig b' → b = b') ∧ (mu = true → ∀ p, look ml (0, 0) = some p → g.map (0, 0) = some p)
  | [], u, v, _, _, _ => ⟨[], id, fun t => LR.undef _, fun b p h => by simp [look] at h, fun b x h => by simp [mkB, lkb] at h, fun b b' x x' p p' h => by simp [mkB, lkb] at h, fun _ p h => by simp [look] at h⟩
  | .val t T enc dec :: l, u, v, hok, hnd, h => by
    simp only [rvS, Option.bind_eq_some_iff] at h
    obtain ⟨x, h1, y, h2, h3⟩ := h
    have h3 := Option.some.inj h3
    subst h3
    obtain ⟨ml, orig, a1, a2, a3, a4, a5⟩ := norm_ok hs l u y (fun s hs => hok s (by simp [hs])) (by simpa using (List.nodup_cons.1 hnd).2) h2
    refine ⟨ml, orig, fun t' => ?_, fun b p hb => ?_, a3, a4, a5⟩
    · show VR _ (bif Nat.beq t t' then enc x else lk (mkT l y) t') _
      cases hb : Nat.beq t t' with
      | false => exact a1 t'
      | true =>
        have := Nat.eq_of_beq_eq_true hb; subst this
        exact (hok (.val t T enc dec) (by simp) _ x h1 g _ (hs.tr.vals t)).mono (Gh.of_le g.imm (look ml))
    · obtain ⟨b1, b2⟩ := a2 b p hb
      exact ⟨b1, by simp [b2]⟩
  | .arr t e et :: l, u, v, hok, hnd, h => by
    have hnd' := List.nodup_cons.1 hnd
    -- the rest, once the row's place is known
    have rest : ∀ (u' : List BId) (xs : List e.T) (y : SV l) (p : Pl) (b0 : BId), rvS mu st l u' = some y → (mu = true → t = 0 → g.map (0, 0) = some p) → (∀ b ∈ u, b ∈ u') → (p.isNil = false → b0 ∈ u' ∧ b0 ∉ u ∧ (∃ x0, lkb st.bk b0 = some x0) ∧ g.map b0 = some p) → BR g p w (.arr e et xs) →
        (∀ ml, look ml (t, 0) = some p → LR ⟨g.imm, look ml⟩ (.own (t, 0)) (a.tmps.getD t undef)) →
        ∃ (ml : List (BId × Pl)) (orig : BId → BId), (∀ t', VR ⟨g.imm, look ml⟩ (lk (mkT (.arr t e et :: l) (xs, y)) t') (a.tmps.getD t' undef)) ∧ (∀ b p, look ml b = some p → b.2 = 0 ∧ b.1 ∈ (Slot.arr t e et :: l).map Slot.t) ∧
          (∀ b x, lkb (mkB (.arr t e et :: l) (xs, y)) b = some x → ∃ p, look ml b = some p ∧ BR ⟨g.imm, look ml⟩ p w x ∧ (p.isNil = false → (∃ x0, lkb st.bk (orig b) = some x0) ∧ g.map (orig b) = some p ∧ orig b ∉ u)) ∧
          (∀ b b' x x' p p', lkb (mkB (.arr t e et :: l) (xs, y)) b = some x → lkb (mkB (.arr t e et :: l) (xs, y)) b' = some x' → look ml b = some p → look ml b' = some p' → p.isNil = false → p'.isNil = false → orig b = orig b' → b = b') ∧ (mu = true → ∀ p, look ml (0, 0) = some p → g.map (0, 0) = some p) := by
      intro u' xs y p b0 hr hmu hu hp hbr hv
      obtain ⟨ml, orig, a1, a2, a3, a4, a5⟩ := norm_ok hs l u' y (fun s hs => hok s (by simp [hs])) hnd'.2 hr
      have hno : look ml (t, 0) = none := by
        cases hq : look ml (t, 0) with
        | none => rfl
        | some q => exact absurd (a2 _ _ hq).2 hnd'.1
      have hle := look_le (m := g.imm) (p := p) hno
      have hself : look (((t, 0), p) :: ml) (t, 0) = some p := by simp [look]
      have hother : ∀ b, b ≠ (t, 0) → look (((t, 0), p) :: ml) b = look ml b := fun b hb => by simp [look, hb]
      have hbk : ∀ b, lkb (mkB (.arr t e et :: l) (xs, y)) b = if b = (t, 0) then some (.arr e et xs) else lkb (mkB l y) b := by
        intro b
        show (bif bidEq (t, 0) b then some (Blk.arr e et xs) else lkb (mkB l y) b) = _
        by_cases hb : b = (t, 0)
        · subst hb; rw [bidEq_self]; simp
        · rw [bidEq_false (fun e => hb e.symm), if_neg hb]; rfl
      refine ⟨((t, 0), p) :: ml, fun b => if b = (t, 0) then b0 else orig b, fun t' => ?_, fun b q hb => ?_, fun b x hx => ?_, fun b b' x x' q q' hx hx' hq hq' hn hn' ho => ?_, fun hm q hq => ?_⟩
      · show VR _ (bif Nat.beq t t' then .lf (.own (t, 0)) else lk (mkT l y) t') _
        cases hb : Nat.beq t t' with
        | false => exact (a1 t').mono hle
        | true => have := Nat.eq_of_beq_eq_true hb; subst this; exact hv _ hself
      · by_cases he : b = (t, 0)
        · subst he; exact ⟨rfl, by simp [Slot.t]⟩
        · rw [hother b he] at hb
          obtain ⟨c1, c2⟩ := a2 b q hb
          exact ⟨c1, by simp [c2]⟩
      · rw [hbk] at hx
        by_cases he : b = (t, 0)
        · subst he
          rw [if_pos rfl] at hx; obtain rfl := Option.some.inj hx
          refine ⟨p, hself, ?_, fun hn => ?_⟩
          · obtain ⟨c1, c2, c3, c4⟩ := hbr
            exact ⟨c1, c2, c3, c4⟩
          · dsimp only
            rw [if_pos rfl]
            obtain ⟨c1, c2, c3, c4⟩ := hp hn
            exact ⟨c3, c4, c2⟩
        · rw [if_neg he] at hx
          obtain ⟨q, c1, c2, c3⟩ := a3 b x hx
          refine ⟨q, by rw [hother b he]; exact c1, c2.same hle (fun _ => rfl), fun hn => ?_⟩
          dsimp only
          rw [if_neg he]
          obtain ⟨d1, d2, d3⟩ := c3 hn
          exact ⟨d1, d2, fun hm => d3 (hu _ hm)⟩
      · dsimp only at ho
        rw [hbk] at hx hx'
        by_cases he : b = (t, 0)
        · by_cases he' : b' = (t, 0)
          · rw [he, he']
          · exfalso
            rw [if_neg he'] at hx'
            rw [if_pos he, if_neg he'] at ho
            rw [he, hself] at hq; obtain rfl := Option.some.inj hq
            obtain ⟨q2, c1, _, c3⟩ := a3 b' x' hx'
            rw [hother b' he', c1] at hq'; obtain rfl := Option.some.inj hq'
            exact (c3 hn').2.2 (ho ▸ (hp hn).1)
        · by_cases he' : b' = (t, 0)
          · exfalso
            rw [if_neg he] at hx
            rw [if_neg he, if_pos he'] at ho
            rw [he', hself] at hq'; obtain rfl := Option.some.inj hq'
            obtain ⟨q2, c1, _, c3⟩ := a3 b x hx
            rw [hother b he, c1] at hq; obtain rfl := Option.some.inj hq
            exact (c3 hn).2.2 (ho ▸ (hp hn').1)
          · rw [if_neg he] at hx
            rw [if_neg he'] at hx'
            rw [if_neg he, if_neg he'] at ho
            rw [hother b he] at hq
            rw [hother b' he'] at hq'
            exact a4 b b' x x' q q' hx hx' hq hq' hn hn' ho
      · by_cases ht : t = 0
        · subst ht
          rw [hself] at hq; obtain rfl := Option.some.inj hq
          exact hmu hm rfl
        · rw [hother _ (fun e => ht (congrArg Prod.fst e).symm)] at hq
          exact a5 hm q hq
    unfold rvS at h
    split at h
    · rename_i hnil
      obtain ⟨hb, h⟩ := cond_none h
      simp only [Option.bind_eq_some_iff] at h
      obtain ⟨y, h2, h3⟩ := h
      have h3 := Option.some.inj h3
      subst h3
      have hv := hs.tr.vals t
      rw [hnil] at hv
      have hv := vr_p hv
      refine rest u [] y ⟨0, 0, e.sz, 0, true, none, et⟩ (0, 0) h2 (fun hm ht => by rw [hm, ht] at hb; simp at hb) (fun b h => h) (fun h => by cases h) ⟨rfl, rfl, rfl, .inl ⟨rfl, rfl⟩⟩ (fun ml hl => ?_)
      generalize a.tmps.getD t undef = z at hv
      cases hv
      exact LR.ownN _ _ hl rfl
    · rename_i b hown
      obtain ⟨hb, h⟩ := cond_none h
      split at h
      · rename_i e' et' xs hbk
        split at h
        · rename_i he; subst he
          obtain ⟨het, h⟩ := cond_some h
          have het := Nat.eq_of_beq_eq_true het
          subst het
          simp only [Option.bind_eq_some_iff] at h
          obtain ⟨y, h2, h3⟩ := h
          have h3 := Option.some.inj h3
          subst h3
          have hv := hs.tr.vals t
          rw [hown] at hv
          obtain ⟨p, hp, hbr⟩ := hs.wr.blk b _ hbk
          have hnm : b ∉ u := fun hm => by rw [bMem_iff.2 hm] at hb; simp at hb
          refine rest (b :: u) xs y p b h2 (fun hm ht => by
            rw [hm, ht] at hb
            simp only [Bool.or_eq_false_iff, Bool.true_and, Bool.and_eq_false_iff, Bool.not_eq_false'] at hb
            rcases hb.2 with h7 | h7
            · simp at h7
            · rw [bidEq_iff.1 h7] at hp; exact hp) (fun b h => by simp [h]) (fun _ => ⟨by simp, hnm, ⟨_, hbk⟩, hp⟩) hbr (fun ml hl => ?_)
          have hv1 : LR g (.own b) (a.tmps.getD t undef) := hv
          generalize a.tmps.getD t undef = z at hv1
          cases hv1 with
          | own _ p' cap c1 c2 c3 c4 => rw [hp] at c1; obtain rfl := Option.some.inj c1; exact LR.own _ p cap hl c2 c3 c4
          | ownN _ p' c1 c2 => rw [hp] at c1; obtain rfl := Option.some.inj c1; exact LR.ownN _ p hl c2
        · cases h
      · cases h
    · cases h
  | .var t T enc dec :: l, u, v, hok, hnd, h => by
    have hnd' := List.nodup_cons.1 hnd
    unfold rvS at h
    split at h
    · rename_i b0 hown
      obtain ⟨hb, h⟩ := cond_none h
      split at h
      · rename_i ls hbk0
        simp only [Option.bind_eq_some_iff] at h
        obtain ⟨x, ⟨f, hf, hx⟩, y, h2, h3⟩ := h
        have h3 := Option.some.inj h3
        subst h3
        have hv := hs.tr.vals t
        rw [hown] at hv
        obtain ⟨p, hp, hpv⟩ := hv.ref
        obtain ⟨p', hp', hnil, hbase, hesz, hlen, cs, hcs, hrow, hc1⟩ := hs.wr.blk b0 _ hbk0
        rw [hp] at hp'; obtain rfl := Option.some.inj hp'
        have hnm : b0 ∉ u := fun hm => by rw [bMem_iff.2 hm] at hb; simp at hb
        obtain ⟨ml, orig, a1, a2, a3, a4, a5⟩ := norm_ok hs l (b0 :: u) y (fun s hs => hok s (by simp [hs])) hnd'.2 h2
        have hsl := hok (.var t T enc dec) (by simp) f x hx
        rw [pls_some hf] at hrow
        have hrow2 : PRow g.imm (enc x) cs.toList := hsl.2 _ _ (row_lvs.1 hrow)
        have hlen2 : p.len = (lvs (enc x)).length := by rw [hlen, pls_some hf, lvs_length, lvs_length, hsl.1]
        have hno : look ml (t, 0) = none := by
          cases hq : look ml (t, 0) with
          | none => rfl
          | some q => exact absurd (a2 _ _ hq).2 hnd'.1
        have hle := look_le (m := g.imm) (p := p) hno
        have hself : look (((t, 0), p) :: ml) (t, 0) = some p := by simp [look]
        have hother : ∀ b, b ≠ (t, 0) → look (((t, 0), p) :: ml) b = look ml b := fun b hb => by simp [look, hb]
        have hbk : ∀ b, lkb (mkB (.var t T enc dec :: l) (x, y)) b = if b = (t, 0) then some (.var (lvs (enc x))) else lkb (mkB l y) b := by
          intro b
          show (bif bidEq (t, 0) b then some (Blk.var (lvs (enc x))) else lkb (mkB l y) b) = _
          by_cases hb : b = (t, 0)
          · subst hb; rw [bidEq_self]; simp
          · rw [bidEq_false (fun e => hb e.symm), if_neg hb]; rfl
        refine ⟨((t, 0), p) :: ml, fun b => if b = (t, 0) then b0 else orig b, fun t' => ?_, fun b q hb => ?_, fun b z hz => ?_, fun b b' z z' q q' hz hz' hq hq' hn hn' ho => ?_, fun hm q hq => ?_⟩
        · show VR _ (bif Nat.beq t t' then .lf (.ref (t, 0) 0) else lk (mkT l y) t') _
          cases hb : Nat.beq t t' with
          | false => exact (a1 t').mono hle
          | true =>
            have := Nat.eq_of_beq_eq_true hb; subst this
            rw [hpv]; exact LR.ref _ 0 p hself
        · by_cases he : b = (t, 0)
          · subst he; exact ⟨rfl, by simp [Slot.t]⟩
          · rw [hother b he] at hb
            obtain ⟨c1, c2⟩ := a2 b q hb
            exact ⟨c1, by simp [c2]⟩
        · rw [hbk] at hz
          by_cases he : b = (t, 0)
          · subst he
            rw [if_pos rfl] at hz; obtain rfl := Option.some.inj hz
            refine ⟨p, hself, ⟨hnil, hbase, hesz, hlen2, cs, hcs, row_lvs.2 hrow2, hc1⟩, fun _ => ?_⟩
            dsimp only
            rw [if_pos rfl]
            exact ⟨⟨_, hbk0⟩, hp, hnm⟩
          · rw [if_neg he] at hz
            obtain ⟨q, c1, c2, c3⟩ := a3 b z hz
            refine ⟨q, by rw [hother b he]; exact c1, c2.same hle (fun _ => rfl), fun hn => ?_⟩
            dsimp only
            rw [if_neg he]
            obtain ⟨d1, d2, d3⟩ := c3 hn
            exact ⟨d1, d2, fun hm => d3 (by simp [hm])⟩
        · dsimp only at ho
          rw [hbk] at hz hz'
          by_cases he : b = (t, 0)
          · by_cases he' : b' = (t, 0)
            · rw [he, he']
            · exfalso
              rw [if_neg he'] at hz'
              rw [if_pos he, if_neg he'] at ho
              obtain ⟨q2, c1, _, c3⟩ := a3 b' z' hz'
              rw [hother b' he', c1] at hq'; obtain rfl := Option.some.inj hq'
              exact (c3 hn').2.2 (by rw [← ho]; simp)
          · by_cases he' : b' = (t, 0)
            · exfalso
              rw [if_neg he] at hz
              rw [if_neg he, if_pos he'] at ho
              obtain ⟨q2, c1, _, c3⟩ := a3 b z hz
              rw [hother b he, c1] at hq; obtain rfl := Option.some.inj hq
              exact (c3 hn).2.2 (by rw [ho]; simp)
            · rw [if_neg he] at hz
              rw [if_neg he'] at hz'
              rw [if_neg he, if_neg he'] at ho
              rw [hother b he] at hq
              rw [hother b' he'] at hq'
              exact a4 b b' z z' q q' hz hz' hq hq' hn hn' ho
        · by_cases ht : t = 0
          · rw [hm, ht] at hb; simp at hb
          · rw [hother _ (fun e => ht (congrArg Prod.fst e).symm)] at hq
            exact a5 hm q hq
      · cases h
    · cases h

theorem SR.norm {mu : Bool} {nt : Nat} {F : Fr} {g : Gh} {st : St} {a : Act} {w : World} (hmu : mu = false → F.bor = none) (hs : SR nt F g st a w) {l : List Slot} {v : SV l} (hok : ∀ s ∈ l, SlotOk s) (hnd : (l.map Slot.t).Nodup) (h : rvS mu st l [] = some v) : ∃ g', SR nt F g' (mkS l v) a w := by
  obtain ⟨ml, orig, a1, a2, a3, a4, a5⟩ := norm_ok hs l [] v hok hnd h
  refine ⟨⟨g.imm, look ml⟩, ⟨hs.tr.size, hs.tr.defers, a1⟩, ⟨hs.wr.frame, hs.wr.imm, hs.wr.ext, hs.wr.newOnly, fun b x hx => ?_, fun b x p hx hp hn => ?_, fun b b' x x' p p' hx hx' hp hp' hn hn' he => ?_⟩, fun b p hb => ?_, fun k c n p hk hp => ?_⟩
  · obtain ⟨p, c1, c2, _⟩ := a3 b x hx; exact ⟨p, c1, c2⟩
  · obtain ⟨q, c1, c2, c3⟩ := a3 b x hx
    have : look ml b = some p := hp
    rw [c1] at this; obtain rfl := Option.some.inj this
    obtain ⟨⟨x0, d1⟩, d2, d3⟩ := c3 hn
    exact hs.wr.live _ x0 q d1 d2 hn
  · obtain ⟨q, c1, c2, c3⟩ := a3 b x hx
    obtain ⟨q', c1', c2', c3'⟩ := a3 b' x' hx'
    have hp1 : look ml b = some p := hp
    have hp1' : look ml b' = some p' := hp'
    rw [c1] at hp1; obtain rfl := Option.some.inj hp1
    rw [c1'] at hp1'; obtain rfl := Option.some.inj hp1'
    obtain ⟨⟨x0, d1⟩, d2, d3⟩ := c3 hn
    obtain ⟨⟨x0', d1'⟩, d2', d3'⟩ := c3' hn'
    exact a4 b b' x x' q q' hx hx' c1 c1' hn hn' (hs.wr.inj _ _ x0 x0' q q' d1 d1' d2 d2' hn hn' he)
  · have := (a2 b p hb).1
    show b.2 ≤ 0
    omega
  · cases hm : mu with
    | true => exact hs.inv0 k c n p hk (a5 hm p hp)
    | false => rw [hmu hm] at hk; cases hk

theorem exEq_eq {a b : Ex} (h : exEq a b = true) : a = b := by
  unfold exEq at h
  split at h
  · rfl
  · rw [Nat.eq_of_beq_eq_true h]
  · rfl
  · cases h
/-- A way out: what was read is what goes on. -/
theorem colX_ok {mu : Bool} {nt : Nat} {F : Fr} (hmu : mu = false → F.bor = none) : ∀ {outs : List (Ex × List Slot)}, (∀ x ∈ outs, (∀ s ∈ x.2, SlotOk s) ∧ (x.2.map Slot.t).Nodup) → ∀ {e : Ex} {s : St} {x : SX outs}, colX mu outs e s = some x → ∀ {g : Gh} {a : Act} {w : World}, SR nt F g s a w → ∀ {R : Type} {K : Ex → St → Option R} {r : R}, exK outs x K = some r →
    ∃ s' g', K e s' = some r ∧ SR nt F g' s' a w
  | [], _, _, _, _, h, _, _, _, _, _, _, _, _ => by simp [colX] at h
  | [o], ho, e, s, x, h, g, a, w, hs, R, K, r, hK => by
    simp only [colX] at h
    obtain ⟨he, h⟩ := cond_some h
    have he := exEq_eq he
    obtain ⟨h1, h2⟩ := ho o (by simp)
    obtain ⟨g', hs'⟩ := hs.norm hmu h1 h2 h
    exact ⟨_, g', by rw [← he]; exact hK, hs'⟩
  | o :: o2 :: r, ho, e, s, x, h, g, a, w, hs, R, K, r', hK => by
    simp only [colX] at h
    cases hb : exEq o.1 e with
    | true =>
      rw [hb, cond_true] at h
      have he := exEq_eq hb
      obtain ⟨v, hv, h⟩ := Option.bind_eq_some_iff.1 h
      obtain rfl := Option.some.inj h
      obtain ⟨h1, h2⟩ := ho o (by simp)
      obtain ⟨g', hs'⟩ := hs.norm hmu h1 h2 hv
      exact ⟨_, g', by rw [← he]; exact hK, hs'⟩
    | false =>
      rw [hb, cond_false] at h
      obtain ⟨v, hv, h⟩ := Option.bind_eq_some_iff.1 h
      obtain rfl := Option.some.inj h
      exact colX_ok hmu (fun x hx => ho x (by simp only [List.mem_cons] at hx ⊢; exact .inr hx)) hv hs hK

theorem cI_ok (hC : CtxOk P C) (hm : P.follows .mixedOrders = true) : ∀ (c : Code) {R : Type} (d : Nat) (st : St) (K : Ex → St → Option R) (r : R), cI C c d st K = some r → ∀ (F : Fr), (C.nb = true → F.bor = none) → ∀ (g : Gh) (a : Act) (w : World), SR C.nt F g st a w → c.wp P (Post C.nt F K r) a w := by
  intro c
  induction c with
  | skip => intro R d st K r h F hnb g a w hs; exact wp_skip ⟨.normal, st, g, rfl, h, hs⟩
  | region id ops draw =>
    intro R d st K r h F hnb g a w hs
    exact wp_mono (region_ok hC hm h hnb hs) (fun x a w ⟨st', g', h1, h2, h3⟩ => ⟨.normal, st', g', h1, h2, h3⟩)
  | seq x y ihx ihy =>
    intro R d st K r h F hnb g a w hs
    refine wp_seq (wp_mono (ihx d st _ r h F hnb g a w hs) fun e a' w' ⟨x, st', g', h1, h2, h3⟩ => ?_)
    cases x with
    | normal => subst h1; exact ihy d st' K r h2 F hnb g' a' w' h3
    | exit i => subst h1; exact ⟨.exit i, st', g', rfl, h2, h3⟩
    | ret => subst h1; exact ⟨.ret, st', g', rfl, h2, h3⟩
  | cond c x y ihx ihy =>
    intro R d st K r h F hnb g a w hs
    simp only [cI] at h
    split at h
    · rename_i t hc
      have hv := evA_ok (tm := st.tm) (tm' := st.tm) hs.tr c st.tm rfl (fun _ _ => rfl)
      rw [hc] at hv
      have hv := vr_bool hv
      cases t with
      | true => exact wp_cond_true hv (ihx d st K r h F hnb g a w hs)
      | false => exact wp_cond_false hv (ihy d st K r h F hnb g a w hs)
    · cases h
  | block id b ih =>
    intro R d st K r h F hnb g a w hs
    refine wp_block (wp_mono (ih id st _ r h F hnb g a w hs) fun e a' w' ⟨x, st', g', h1, h2, h3⟩ => ?_)
    cases x with
    | normal => subst h1; exact ⟨.normal, st', g', rfl, h2, h3⟩
    | ret => subst h1; exact ⟨.ret, st', g', rfl, h2, h3⟩
    | exit i =>
      subst h1
      dsimp only at h2
      show (if i = id then _ else _)
      cases hb : Nat.beq i id with
      | true =>
        have := Nat.eq_of_beq_eq_true hb; subst this
        rw [hb] at h2
        rw [if_pos rfl]
        exact ⟨.normal, st', g', rfl, h2, h3⟩
      | false =>
        rw [hb] at h2
        rw [if_neg (by rintro rfl; rw [Nat.beq_refl] at hb; cases hb)]
        exact ⟨.exit i, st', g', rfl, h2, h3⟩
  | loop b ih =>
    intro R d st K r h F hnb g a w hs
    simp only [cI] at h
    have hmu : (!C.nb) = false → F.bor = none := fun h => hnb (by simpa using h)
    split at h
    · rename_i n hl
      have key : ∀ (n : Nat) (g : Gh) (a : Act) (w : World) (st : St), SR C.nt F g st a w → loopU (fun s K' => cI C b d s K') K n st = some r → Code.rounds P b (Post C.nt F K r) n a w := by
        intro n
        induction n with
        | zero => intro g a w st hs h; cases h
        | succ n ihn =>
          intro g a w st hs h
          rw [rounds_succ]
          refine wp_mono (ih d st _ r h F hnb g a w hs) fun e a' w' ⟨x, st', g', h1, h2, h3⟩ => ?_
          cases x with
          | normal => subst h1; exact ihn g' a' w' st' h3 h2
          | exit i => subst h1; exact ⟨.exit i, st', g', rfl, h2, h3⟩
          | ret => subst h1; exact ⟨.ret, st', g', rfl, h2, h3⟩
      exact wp_loop_rounds n (key n g a w st hs h)
    · rename_i n l outs hl
      obtain ⟨⟨k1, k2⟩, k3⟩ := hC.slots d n l outs hl
      obtain ⟨v, hv, h⟩ := Option.bind_eq_some_iff.1 h
      obtain ⟨x, hx, hend⟩ := Option.bind_eq_some_iff.1 h
      clear h
      obtain ⟨g0, hs0⟩ := hs.norm hmu k1 k2 hv
      have key : ∀ (n : Nat) (v : SV l) (g : Gh) (a : Act) (w : World), SR C.nt F g (mkS l v) a w → iter (fun v => cI C b d (mkS l v) (colB (!C.nb) l outs)) n v = some x → Code.rounds P b (Post C.nt F K r) n a w := by
        intro n
        induction n with
        | zero => intro v g a w hs h; cases h
        | succ n ihn =>
          intro v g a w hs h
          rw [rounds_succ]
          simp only [iter] at h
          obtain ⟨y, hy, h⟩ := Option.bind_eq_some_iff.1 h
          refine wp_mono (ih d (mkS l v) _ y hy F hnb g a w hs) fun e a' w' ⟨ex, st', g', h1, h2, h3⟩ => ?_
          cases ex with
          | normal =>
            subst h1
            obtain ⟨v', hv', h2⟩ := Option.bind_eq_some_iff.1 h2
            obtain rfl := Option.some.inj h2
            obtain ⟨g2, hs2⟩ := h3.norm hmu k1 k2 hv'
            exact ihn v' g2 a' w' hs2 h
          | exit i =>
            subst h1
            obtain ⟨x', hx', h2⟩ := Option.bind_eq_some_iff.1 h2
            obtain rfl := Option.some.inj h2
            obtain rfl := Option.some.inj h
            obtain ⟨s', g2, h4, h5⟩ := colX_ok hmu k3 hx' h3 hend
            exact ⟨.exit i, s', g2, rfl, h4, h5⟩
          | ret =>
            subst h1
            obtain ⟨x', hx', h2⟩ := Option.bind_eq_some_iff.1 h2
            obtain rfl := Option.some.inj h2
            obtain rfl := Option.some.inj h
            obtain ⟨s', g2, h4, h5⟩ := colX_ok hmu k3 hx' h3 hend
            exact ⟨.ret, s', g2, rfl, h4, h5⟩
      exact wp_loop_rounds n (key n v g0 a w hs0 hx)
  | exit id => intro R d st K r h F hnb g a w hs; exact wp_exit ⟨.exit id, st, g, rfl, h, hs⟩
  | ret => intro R d st K r h F hnb g a w hs; exact wp_ret ⟨.ret, st, g, rfl, h, hs⟩
  | _ => intro R d st K r h; simp [cI] at h
end
end Go.Proofs.YtbjkpogfgijmaaaGreat
