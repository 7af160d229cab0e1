/- A region of operations, in the order of the text or in any order that the edges allow, comes to what the interpreter says. -/
import Derived.Test.YtbjkpogfgijmaaaGreatOps9
import Derived.Orders
namespace Go.Proofs.YtbjkpogfgijmaaaGreat
open Go Go.RowKit
set_option linter.unusedVariables false
set_option linter.unusedSimpArgs false

abbrev FS := (Nat → AV) × (BId → Option Blk)
def stepF (s : FS) (o : Oper) (e : Ev) : FS := (upT s.1 o.dst e.val, upB s.2 e.blk)
/-- The state after those operations that are done, in the order of the text. -/
def SD (D : Nat → Bool) : Nat → List (Oper × Ev) → FS → FS
  | _, [], s => s
  | i, x :: r, s => SD D (i + 1) r (bif D i then stepF s x.1 x.2 else s)

theorem upT_dst (f : Nat → AV) (t : Nat) (v : AV) : upT f (some t) v t = v := by
  unfold upT; simp only [show Nat.beq t t = true from Nat.beq_refl t]; rfl
theorem upT_ne {f : Nat → AV} {d : Option Tmp} {t : Nat} {v : AV} (h : d ≠ some t) : upT f d v t = f t := by
  cases d with
  | none => rfl
  | some d =>
    unfold upT
    have : Nat.beq d t = false := by
      cases hb : Nat.beq d t with
      | false => rfl
      | true => exact absurd (congrArg some (Nat.eq_of_beq_eq_true hb)) h
    simp only [this]; rfl
def keys (l : List (BId × Option Blk)) : List BId := l.map (·.1)
theorem upB_ne {f : BId → Option Blk} : ∀ {l : List (BId × Option Blk)} {b : BId}, b ∉ keys l → upB f l b = f b
  | [], _, _ => rfl
  | (k, v) :: r, b, h => by
    simp only [keys, List.map_cons, List.mem_cons, not_or] at h
    unfold upB
    rw [bidEq_false (fun e => h.1 e.symm), cond_false]
    exact upB_ne (by simpa [keys] using h.2)
theorem upB_mem {f f' : BId → Option Blk} : ∀ {l : List (BId × Option Blk)} {b : BId}, b ∈ keys l → upB f l b = upB f' l b
  | [], _, h => by simp [keys] at h
  | (k, v) :: r, b, h => by
    simp only [keys, List.map_cons, List.mem_cons] at h
    unfold upB
    by_cases hk : k = b
    · subst hk; rw [bidEq_self]; rfl
    · rw [bidEq_false hk, cond_false, cond_false]
      rcases h with h | h
      · exact absurd h.symm hk
      · exact upB_mem (by simpa [keys] using h)

/-- A slot: only its writers count. -/
theorem SD_tm {D D' : Nat → Bool} {t : Nat} : ∀ {l : List (Oper × Ev)} {i : Nat} {s s' : FS}, s.1 t = s'.1 t → (∀ (j : Nat) x, l[j]? = some x → x.1.dst = some t → D (i + j) = D' (i + j)) → (SD D i l s).1 t = (SD D' i l s').1 t
  | [], i, s, s', hs, _ => hs
  | x :: r, i, s, s', hs, h => by
    unfold SD
    refine SD_tm ?_ (fun j y hy ht => by have := h (j + 1) y (by simpa using hy) ht; rwa [show i + (j + 1) = i + 1 + j from by omega] at this)
    by_cases ht : x.1.dst = some t
    · have := h 0 x rfl ht
      rw [Nat.add_zero] at this
      rw [this]
      cases D' i with
      | false => exact hs
      | true => simp only [cond_true, stepF]; rw [ht, upT_dst, upT_dst]
    · have h1 : ∀ (b : Bool) (s : FS), (bif b then stepF s x.1 x.2 else s).1 t = s.1 t := by
        intro b s
        cases b with
        | false => rfl
        | true => exact upT_ne ht
      rw [h1, h1]; exact hs
theorem SD_bk {D D' : Nat → Bool} {b : BId} : ∀ {l : List (Oper × Ev)} {i : Nat} {s s' : FS}, s.2 b = s'.2 b → (∀ (j : Nat) x, l[j]? = some x → b ∈ keys x.2.blk → D (i + j) = D' (i + j)) → (SD D i l s).2 b = (SD D' i l s').2 b
  | [], i, s, s', hs, _ => hs
  | x :: r, i, s, s', hs, h => by
    unfold SD
    refine SD_bk ?_ (fun j y hy ht => by have := h (j + 1) y (by simpa using hy) ht; rwa [show i + (j + 1) = i + 1 + j from by omega] at this)
    by_cases ht : b ∈ keys x.2.blk
    · have := h 0 x rfl ht
      rw [Nat.add_zero] at this
      rw [this]
      cases D' i with
      | false => exact hs
      | true => exact upB_mem ht
    · have h1 : ∀ (c : Bool) (s : FS), (bif c then stepF s x.1 x.2 else s).2 b = s.2 b := by
        intro c s
        cases c with
        | false => rfl
        | true => exact upB_ne ht
      rw [h1, h1]; exact hs
/-- The last writer of a slot. -/
theorem SD_last_tm {D : Nat → Bool} {t : Nat} : ∀ {l : List (Oper × Ev)} {i k : Nat} {s : FS} {x : Oper × Ev}, l[k]? = some x → x.1.dst = some t → D (i + k) = true → (∀ (j : Nat) y, k < j → l[j]? = some y → y.1.dst = some t → D (i + j) = false) → (SD D i l s).1 t = x.2.val
  | [], i, k, s, x, h, _, _, _ => by simp at h
  | y :: r, i, 0, s, x, h, ht, hD, hl => by
    simp at h; subst h
    unfold SD
    rw [Nat.add_zero] at hD
    rw [hD]
    have : (SD D (i + 1) r (stepF s y.1 y.2)).1 t = (SD (fun _ => false) (i + 1) r (stepF s y.1 y.2)).1 t := SD_tm rfl (fun j z hz hzt => by
      have := hl (j + 1) z (by omega) (by simpa using hz) hzt
      rwa [show i + (j + 1) = i + 1 + j from by omega] at this)
    rw [cond_true, this]
    have h2 : ∀ (l : List (Oper × Ev)) (i : Nat) (s : FS), SD (fun _ => false) i l s = s := by
      intro l; induction l with
      | nil => intro i s; rfl
      | cons z l ih => intro i s; unfold SD; rw [cond_false]; exact ih _ _
    rw [h2]
    simp only [stepF]; rw [ht, upT_dst]
  | y :: r, i, k + 1, s, x, h, ht, hD, hl => by
    unfold SD
    exact SD_last_tm (i := i + 1) (k := k) (by simpa using h) ht (by rwa [show i + 1 + k = i + (k + 1) from by omega]) (fun j z hj hz hzt => by
      have := hl (j + 1) z (by omega) (by simpa using hz) hzt
      rwa [show i + (j + 1) = i + 1 + j from by omega] at this)
theorem SD_last_bk {D : Nat → Bool} {b : BId} {f : BId → Option Blk} : ∀ {l : List (Oper × Ev)} {i k : Nat} {s : FS} {x : Oper × Ev}, l[k]? = some x → b ∈ keys x.2.blk → D (i + k) = true → (∀ (j : Nat) y, k < j → l[j]? = some y → b ∈ keys y.2.blk → D (i + j) = false) → (SD D i l s).2 b = upB f x.2.blk b
  | [], i, k, s, x, h, _, _, _ => by simp at h
  | y :: r, i, 0, s, x, h, ht, hD, hl => by
    simp at h; subst h
    unfold SD
    rw [Nat.add_zero] at hD
    rw [hD]
    have : (SD D (i + 1) r (stepF s y.1 y.2)).2 b = (SD (fun _ => false) (i + 1) r (stepF s y.1 y.2)).2 b := SD_bk rfl (fun j z hz hzt => by
      have := hl (j + 1) z (by omega) (by simpa using hz) hzt
      rwa [show i + (j + 1) = i + 1 + j from by omega] at this)
    rw [cond_true, this]
    have h2 : ∀ (l : List (Oper × Ev)) (i : Nat) (s : FS), SD (fun _ => false) i l s = s := by
      intro l; induction l with
      | nil => intro i s; rfl
      | cons z l ih => intro i s; unfold SD; rw [cond_false]; exact ih _ _
    rw [h2]
    exact upB_mem ht
  | y :: r, i, k + 1, s, x, h, ht, hD, hl => by
    unfold SD
    exact SD_last_bk (i := i + 1) (k := k) (by simpa using h) ht (by rwa [show i + 1 + k = i + (k + 1) from by omega]) (fun j z hj hz hzt => by
      have := hl (j + 1) z (by omega) (by simpa using hz) hzt
      rwa [show i + (j + 1) = i + 1 + j from by omega] at this)
/-- One more operation is done: those later in the text that are done do not touch what it changes. -/
theorem SD_add {D : Nat → Bool} {l : List (Oper × Ev)} {s : FS} {k : Nat} {x : Oper × Ev} (hk : l[k]? = some x)
    (ht : ∀ (j : Nat) y, k < j → l[j]? = some y → D j = true → ∀ t, x.1.dst = some t → y.1.dst ≠ some t) (hb : ∀ (j : Nat) y, k < j → l[j]? = some y → D j = true → ∀ b ∈ keys x.2.blk, b ∉ keys y.2.blk) :
    SD (fun j => D j || j == k) 0 l s = stepF (SD D 0 l s) x.1 x.2 := by
  refine Prod.ext (funext fun t => ?_) (funext fun b => ?_)
  · show _ = upT _ _ _ t
    by_cases hd : x.1.dst = some t
    · rw [hd, upT_dst]
      refine SD_last_tm (i := 0) hk hd (by simp) (fun j y hj hy hyt => ?_)
      simp only [Nat.zero_add, Bool.or_eq_false_iff, beq_eq_false_iff_ne]
      refine ⟨?_, by omega⟩
      cases hD : D j with
      | false => rfl
      | true => exact absurd hyt (ht j y hj hy hD t hd)
    · rw [upT_ne hd]
      refine SD_tm rfl (fun j y hy hyt => ?_)
      simp only [Nat.zero_add]
      by_cases hj : j = k
      · subst hj; rw [hk] at hy; obtain rfl := Option.some.inj hy; exact absurd hyt hd
      · simp [hj]
  · show _ = upB _ _ b
    by_cases hd : b ∈ keys x.2.blk
    · refine SD_last_bk (i := 0) hk hd (by simp) (fun j y hj hy hyt => ?_)
      simp only [Nat.zero_add, Bool.or_eq_false_iff, beq_eq_false_iff_ne]
      refine ⟨?_, by omega⟩
      cases hD : D j with
      | false => rfl
      | true => exact absurd hyt (hb j y hj hy hD b hd)
    · rw [upB_ne hd]
      refine SD_bk rfl (fun j y hy hyt => ?_)
      simp only [Nat.zero_add]
      by_cases hj : j = k
      · subst hj; rw [hk] at hy; obtain rfl := Option.some.inj hy; exact absurd hyt hd
      · simp [hj]

/-! ### What the interpreter's round over the operations gives -/
def OpDone (P : Program) (nt : Nat) (nb : Bool) (all : List Oper) (s : FS) (ep : Nat) (o : Oper) (e : Ev) : Prop :=
  (o.guard = none ∧ EvOk P nt nb s.1 s.2 ep o e) ∨
  (∃ j want t b, o.guard = some (j, want) ∧ dstAt all j = some t ∧ s.1 t = .lf (.p (.bool b)) ∧ ((b = want ∧ EvOk P nt nb s.1 s.2 ep o e) ∨ (b ≠ want ∧ e = skipEv))) ∨
  ∃ j want t, o.guard = some (j, want) ∧ dstAt all j = some t ∧ s.1 t = .lf .void ∧ e = skipEv

section
variable {P : Program} {nb : Bool} {R : Type} {C : Ctx} {r : R}

theorem lk_same {tm : List (Nat × AV)} {t : Nat} {v : AV} (h : lk tm t = v) : lk ((t, v) :: tm) = lk tm := by
  funext u
  simp only [lk]
  cases hb : Nat.beq t u with
  | false => rfl
  | true => have := Nat.eq_of_beq_eq_true hb; subst this; exact h.symm

theorem evOps_ok (hC : CtxOk P C) (hnb : C.nb = nb) {all : List Oper} {K : St → List (List BId × List BId) → Option R} : ∀ {l : List Oper} {st : St} {tr : List (List BId × List BId)}, evOps C all l st tr K = some r →
    ∃ (evs : List Ev) (st' : St), evs.length = l.length ∧ K st' ((evs.map Ev.foot).reverse ++ tr) = some r ∧ st'.ep = st.ep ∧ SD (fun _ => true) 0 (l.zip evs) (lk st.tm, lkb st.bk) = (lk st'.tm, lkb st'.bk) ∧
      ∀ (k : Nat) o e, l[k]? = some o → evs[k]? = some e → OpDone P C.nt nb all (SD (fun j => Nat.blt j k) 0 (l.zip evs) (lk st.tm, lkb st.bk)) st.ep o e
  | [], st, tr, h => ⟨[], st, rfl, h, rfl, rfl, fun k o e hk => by simp at hk⟩
  | o :: l, st, tr, h => by
    have SD_shift : ∀ (D D' : Nat → Bool) (l : List (Oper × Ev)) (i i' : Nat) (s : FS), (∀ j, D (i + j) = D' (i' + j)) → SD D i l s = SD D' i' l s := by
      intro D D' l
      induction l with
      | nil => intro i i' s _; rfl
      | cons x l ih =>
        intro i i' s hD
        unfold SD
        have := hD 0
        simp only [Nat.add_zero] at this
        rw [this]
        exact ih _ _ _ (fun j => by have := hD (j + 1); rwa [show i + (j + 1) = i + 1 + j from by omega, show i' + (j + 1) = i' + 1 + j from by omega] at this)
    -- the rest, once the first operation's event is known
    have rest : ∀ (e : Ev) (st0 : St), lk st0.tm = lk st.tm → st0.bk = st.bk → st0.ep = st.ep → evOps C all l (st0.app o.dst e) (e.foot :: tr) K = some r → OpDone P C.nt nb all (lk st.tm, lkb st.bk) st.ep o e →
        ∃ (evs : List Ev) (st' : St), evs.length = (o :: l).length ∧ K st' ((evs.map Ev.foot).reverse ++ tr) = some r ∧ st'.ep = st.ep ∧ SD (fun _ => true) 0 ((o :: l).zip evs) (lk st.tm, lkb st.bk) = (lk st'.tm, lkb st'.bk) ∧
          ∀ (k : Nat) o' e', (o :: l)[k]? = some o' → evs[k]? = some e' → OpDone P C.nt nb all (SD (fun j => Nat.blt j k) 0 ((o :: l).zip evs) (lk st.tm, lkb st.bk)) st.ep o' e' := by
      intro e st0 h1 h2 h3 hrest hdone
      obtain ⟨evs, st', a1, a2, a3, a4, a5⟩ := evOps_ok hC hnb hrest
      have hs : (lk (st0.app o.dst e).tm, lkb (st0.app o.dst e).bk) = stepF (lk st.tm, lkb st.bk) o e := by
        simp only [St.app, stepF, lk_putT, lkb_append, h1, h2]
      rw [hs] at a4 a5
      refine ⟨e :: evs, st', by simp [a1], by simpa using a2, a3.trans h3, ?_, fun k o' e' hk hk' => ?_⟩
      · simp only [List.zip_cons_cons, SD, cond_true]
        rw [← a4]; exact SD_shift _ _ _ _ _ _ (fun j => rfl)
      · cases k with
        | zero =>
          simp at hk hk'; subst hk hk'
          have : SD (fun j => Nat.blt j 0) 0 ((o :: l).zip (e :: evs)) (lk st.tm, lkb st.bk) = (lk st.tm, lkb st.bk) := by
            have h2 : ∀ (l : List (Oper × Ev)) (i : Nat) (s : FS), SD (fun j => Nat.blt j 0) i l s = s := by
              intro l; induction l with
              | nil => intro i s; rfl
              | cons z l ih =>
                intro i s; unfold SD
                rw [show Nat.blt i 0 = false from by cases hb : Nat.blt i 0 with | false => rfl | true => have := nblt_lt hb; omega, cond_false]; exact ih _ _
            exact h2 _ _ _
          rw [this]; exact hdone
        | succ k =>
          have := a5 k o' e' (by simpa using hk) (by simpa using hk')
          simp only [List.zip_cons_cons, SD]
          rw [show Nat.blt 0 (k + 1) = true from rfl, cond_true]
          rw [SD_shift (fun j => Nat.blt j (k + 1)) (fun j => Nat.blt j k) _ (0 + 1) 0 _ (fun j => by
            rw [show 0 + 1 + j = (0 + j) + 1 from by omega]; rfl)]
          have e3 : (st0.app o.dst e).ep = st.ep := h3
          rw [e3] at this; exact this
    unfold evOps at h
    split at h
    · rename_i hg
      obtain ⟨e, h1, h2⟩ := evOp_ok (nt := C.nt) hC hnb h
      exact rest e st rfl rfl rfl h1 (.inl ⟨hg, h2⟩)
    · rename_i j want hg
      split at h
      · cases h
      · rename_i t ht
        split at h
        · rename_i b hb
          dsimp only at h
          cases b with
          | true =>
            rw [cond_true] at h
            cases want with
            | true =>
              rw [cond_true] at h
              obtain ⟨e, h1, h2⟩ := evOp_ok (nt := C.nt) hC hnb h
              rw [lk_same hb] at h2
              exact rest e ⟨(t, .lf (.p (.bool true))) :: st.tm, st.bk, st.ep⟩ (lk_same hb) rfl rfl h1 (.inr (.inl ⟨j, true, t, true, hg, ht, hb, .inl ⟨rfl, h2⟩⟩))
            | false =>
              rw [cond_false] at h
              exact rest skipEv ⟨(t, .lf (.p (.bool true))) :: st.tm, st.bk, st.ep⟩ (lk_same hb) rfl rfl h (.inr (.inl ⟨j, false, t, true, hg, ht, hb, .inr ⟨by simp, rfl⟩⟩))
          | false =>
            rw [cond_false] at h
            cases want with
            | true =>
              rw [cond_true] at h
              exact rest skipEv ⟨(t, .lf (.p (.bool false))) :: st.tm, st.bk, st.ep⟩ (lk_same hb) rfl rfl h (.inr (.inl ⟨j, true, t, false, hg, ht, hb, .inr ⟨by simp, rfl⟩⟩))
            | false =>
              rw [cond_false] at h
              obtain ⟨e, h1, h2⟩ := evOp_ok (nt := C.nt) hC hnb h
              rw [lk_same hb] at h2
              exact rest e ⟨(t, .lf (.p (.bool false))) :: st.tm, st.bk, st.ep⟩ (lk_same hb) rfl rfl h1 (.inr (.inl ⟨j, false, t, false, hg, ht, hb, .inl ⟨rfl, h2⟩⟩))
        · rename_i hv
          exact rest skipEv st rfl rfl rfl h (.inr (.inr ⟨j, want, t, hg, ht, hv, rfl⟩))
        · cases h
end
end Go.Proofs.YtbjkpogfgijmaaaGreat
