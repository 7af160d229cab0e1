/- Rows handed on; structs and rows built; rows cut; lengths. -/
import Derived.Test.YtbjkpogfgijmaaaGreatOps4
import Derived.Laws.MakeOwn
import Derived.Laws.OwnMore
namespace Go.Proofs.YtbjkpogfgijmaaaGreat
open Go Go.RowKit
set_option linter.unusedVariables false
set_option linter.unusedSimpArgs false

theorem Gh.of_le (m : Imm) (f : BId → Option Pl) : (Gh.of m).le ⟨m, f⟩ := ⟨fun _ _ h => h, fun b p (h : none = some p) => by cases h⟩
/-! ### Own rows become plain data -/
open Classical in
/-- The blocks that nobody changes from now on. -/
noncomputable def frzM (g : Gh) (w : World) (bs : List BId) : Imm := fun k => match g.imm k with
  | some cs => some cs
  | none => if ∃ b p, b ∈ bs ∧ g.map b = some p ∧ p.isNil = false ∧ p.blk = k then (match w.heap[k]? with
    | some (.cells cs _ _) => some cs
    | _ => none) else none
theorem frzM_mono (g : Gh) (w : World) (bs : List BId) : ∀ k cs, g.imm k = some cs → frzM g w bs k = some cs := by
  intro k cs h; unfold frzM; rw [h]
theorem frzM_nil (g : Gh) (w : World) : frzM g w [] = g.imm := by
  funext k
  unfold frzM
  cases h : g.imm k with
  | some cs => rfl
  | none => simp
theorem frzM_at {g : Gh} {w : World} {bs : List BId} {b : BId} {p : Pl} {cs : Array Value} {ty : TypeId} {fz : Nat × Nat} (hb : b ∈ bs) (hp : g.map b = some p) (hn : p.isNil = false) (hi : g.imm p.blk = none) (hc : w.heap[p.blk]? = some (.cells cs ty fz)) :
    frzM g w bs p.blk = some cs := by
  unfold frzM
  rw [hi]
  dsimp only
  rw [if_pos ⟨b, p, hb, hp, hn, rfl⟩, hc]
theorem frzM_old {g : Gh} {w : World} {bs : List BId} {k : Nat} {cs : Array Value} (h : frzM g w bs k = some cs) : g.imm k = some cs ∨ (g.imm k = none ∧ ∃ b p ty fz, b ∈ bs ∧ g.map b = some p ∧ p.isNil = false ∧ p.blk = k ∧ w.heap[k]? = some (.cells cs ty fz)) := by
  unfold frzM at h
  split at h
  · rename_i c hc; simp at h; subst h; exact .inl hc
  · rename_i hc
    refine .inr ⟨hc, ?_⟩
    split at h
    · rename_i hex
      obtain ⟨b, p, h1, h2, h3, h4⟩ := hex
      split at h
      · rename_i c ty fz hw; simp at h; subst h; exact ⟨b, p, ty, fz, h1, h2, h3, h4, hw⟩
      · cases h
    · cases h

section
variable {F : Fr} {g : Gh} {bk : BId → Option Blk} {w : World}
theorem WR.frz_imm (h : WR F g bk w) (bs : List BId) : ImmIn (frzM g w bs) w := by
  intro k cs hk
  rcases frzM_old hk with h1 | ⟨_, b, p, ty, fz, _, _, _, _, h1⟩
  · exact h.imm k cs h1
  · exact ⟨ty, fz, h1⟩
/-- Rows of the call's own are settled. -/
theorem WR.freeze (h : WR F g bk w) {bs : List BId} (hb : F.bor = none ∨ bs = []) (hl : ∀ b ∈ bs, ∃ x, bk b = some x) : WR F ⟨frzM g w bs, g.map⟩ (upB bk (dead bs)) w := by
  have hle : g.le ⟨frzM g w bs, g.map⟩ := ⟨frzM_mono g w bs, fun _ _ h => h⟩
  have hbk : ∀ b x, upB bk (dead bs) b = some x → b ∉ bs ∧ bk b = some x := by
    intro b x hx
    rw [upB_dead] at hx
    split at hx
    · cases hx
    · exact ⟨‹_›, hx⟩
  refine ⟨h.frame, h.frz_imm bs, fun k cs hk => frzM_mono g w bs k cs (h.ext k cs hk), fun k cs hk => ?_, fun b x hx => ?_, fun b x p hx hp hn => ?_, fun b b' x x' p p' hx hx' => h.inj b b' x x' p p' (hbk b x hx).2 (hbk b' x' hx').2⟩
  · rcases frzM_old hk with h1 | ⟨_, b, p, ty, fz, hbm, hp, hn, rfl, h1⟩
    · exact h.newOnly k cs h1
    · obtain ⟨x, hx⟩ := hl b hbm
      obtain ⟨_, h2, _⟩ := h.live b x p hx hp hn
      rcases h2 with h2 | ⟨c, n, h2⟩
      · exact .inr h2
      · rcases hb with hb | hb
        · rw [hb] at h2; cases h2
        · subst hb; cases hbm
  · obtain ⟨p, h1, h2⟩ := h.blk b x (hbk b x hx).2
    exact ⟨p, h1, h2.same hle (fun _ => rfl)⟩
  · obtain ⟨hnb, hx'⟩ := hbk b x hx
    obtain ⟨h1, h2⟩ := h.live b x p hx' hp hn
    refine ⟨?_, h2⟩
    show frzM g w bs p.blk = none
    cases hm : frzM g w bs p.blk with
    | none => rfl
    | some cs =>
      rcases frzM_old hm with h3 | ⟨_, b', p', ty, fz, hbm, hp', hn', he, _⟩
      · rw [h1] at h3; cases h3
      · obtain ⟨x', hx'⟩ := hl b' hbm
        have := h.inj b b' x x' p p' ‹_› hx' hp hp' hn hn' he.symm
        subst this; exact absurd hbm hnb

theorem drop_flat (e : ETy) : ∀ (xs : List e.T) (n : Nat), flat e (xs.drop n) = (flat e xs).drop (n * e.sz)
  | xs, 0 => by simp
  | [], n + 1 => by simp [flat]
  | x :: xs, n + 1 => by
    have := drop_flat e xs n
    simp only [List.drop_succ_cons, this]
    simp only [flat, List.flatMap_cons]
    have h1 : (e.enc x).drop ((n + 1) * e.sz) = [] := List.drop_eq_nil_of_le (by rw [ETy.enc_len, Nat.add_mul]; omega)
    rw [List.drop_append, ETy.enc_len, h1, List.nil_append]
    congr 1
    rw [Nat.add_mul]; omega
theorem take_flat (e : ETy) : ∀ (xs : List e.T) (n : Nat), flat e (xs.take n) = (flat e xs).take (n * e.sz)
  | xs, 0 => by simp [flat]
  | [], n + 1 => by simp [flat]
  | x :: xs, n + 1 => by
    have := take_flat e xs n
    simp only [List.take_succ_cons]
    simp only [flat, List.flatMap_cons] at this ⊢
    rw [this, List.take_append, ETy.enc_len]
    rw [List.take_of_length_le (i := (n + 1) * e.sz) (by rw [ETy.enc_len, Nat.add_mul]; omega)]
    congr 2
    rw [Nat.add_mul]; omega

theorem PRow.take {m : Imm} {ls : List PL} {vs : List Value} (h : PRow m ls vs) (n : Nat) : PRow m (ls.take n) (vs.take n) := by
  refine ⟨by simp [h.1], fun j l v h1 h2 => ?_⟩
  rw [List.getElem?_take] at h1 h2
  by_cases hj : j < n
  · rw [if_pos hj] at h1 h2; exact h.2 j l v h1 h2
  · rw [if_neg hj] at h1; cases h1
theorem PRow.drop {m : Imm} {ls : List PL} {vs : List Value} (h : PRow m ls vs) (n : Nat) : PRow m (ls.drop n) (vs.drop n) := by
  refine ⟨by simp [h.1], fun j l v h1 h2 => ?_⟩
  rw [List.getElem?_drop] at h1 h2
  exact h.2 _ l v h1 h2
theorem PRow.append {m : Imm} {ls ms : List PL} {vs us : List Value} (h : PRow m ls vs) (k : PRow m ms us) : PRow m (ls ++ ms) (vs ++ us) := by
  refine ⟨by simp [h.1, k.1], fun j l v h1 h2 => ?_⟩
  rw [List.getElem?_append] at h1 h2
  by_cases hj : j < ls.length
  · rw [if_pos hj] at h1; rw [if_pos (by rw [← h.1]; exact hj)] at h2; exact h.2 j l v h1 h2
  · rw [if_neg hj] at h1; rw [if_neg (by rw [← h.1]; exact hj), ← h.1] at h2; exact k.2 _ l v h1 h2

/-- A part of a row stands for the part of its elements. -/
theorem PR.part {m : Imm} {e : ETy} {xs : List e.T} {lo hi : Nat} {b base cap : Nat} {cs : Array Value} {vs : List Value} (hm : m b = some cs) (hrow : PRow m (flat e xs) vs) (hat : ∀ (j : Nat) v, vs[j]? = some v → cs[base + j]? = some v)
    (hh : hi ≤ xs.length) (hc : hi - lo ≤ cap) : PR m (.sl e ((xs.take hi).drop lo)) (.slice (some ⟨b, base + lo * e.sz, none⟩) (hi - lo) cap) := by
  have hl : ((xs.take hi).drop lo).length = hi - lo := by simp; omega
  rw [← hl]
  have h1 := (hrow.take (hi * e.sz)).drop (lo * e.sz)
  refine PR.sl e _ b _ cap cs ((vs.take (hi * e.sz)).drop (lo * e.sz)) hm (by omega) ?_ (fun j v hv => ?_) ?_
  · rw [drop_flat, take_flat]; exact h1.1.symm
  · rw [List.getElem?_drop, List.getElem?_take] at hv
    split at hv
    · rw [Nat.add_assoc]; exact hat _ _ hv
    · cases hv
  · rw [drop_flat, take_flat]; exact h1.2

theorem frzL_ok (h : WR F g bk w) {bk0 : BId → Option Blk} {l l' : Leaf} {bs cs : List BId} (hf : frzL bk0 l = some (l', bs)) (hb : ∀ b ∈ bs, bk b = bk0 b) (hsub : ∀ b ∈ bs, b ∈ cs) {v : Value} (hv : LR g l v) :
    LR (Gh.of (frzM g w cs)) l' v ∧ ∀ b ∈ bs, ∃ x, bk b = some x := by
  have hmono := frzM_mono g w cs
  cases l with
  | p x =>
    simp [frzL] at hf; obtain ⟨rfl, rfl⟩ := hf
    cases hv with
    | p _ _ h1 => exact ⟨.p _ _ (h1.mono hmono), by simp⟩
  | own b =>
    simp only [frzL] at hf
    split at hf
    · rename_i e et xs hx
      simp at hf; obtain ⟨rfl, rfl⟩ := hf
      have hx' := (hb b (by simp)).trans hx
      refine ⟨?_, by simp [hx']⟩
      obtain ⟨p', hp', hesz, hlen, hpty, hor⟩ := h.blk b _ hx'
      cases hv with
      | own _ p cap h2 h3 h4 h5 =>
        rw [h2] at hp'; obtain rfl := Option.some.inj hp'
        rcases hor with ⟨hn, _⟩ | ⟨hn, c, vs, hc, hrow, hat, _⟩
        · rw [h3] at hn; cases hn
        have hi := (h.live b _ p hx' h2 h3).1
        have := PR.part (lo := 0) (hi := xs.length) (cap := cap) (frzM_at (hsub b (by simp)) h2 h3 hi hc) (hrow.mono hmono) hat (Nat.le_refl _) (by omega)
        simp at this
        rw [hlen]; exact .p _ _ this
      | ownN _ p h2 h3 =>
        rw [h2] at hp'; obtain rfl := Option.some.inj hp'
        rcases hor with ⟨_, rfl⟩ | ⟨hn, _⟩
        · exact .p _ _ (.slE e none 0)
        · rw [h3] at hn; cases hn
    · cases hf
  | osl b lo hi =>
    simp only [frzL] at hf
    split at hf
    · rename_i e et xs hx
      simp at hf; obtain ⟨rfl, rfl⟩ := hf
      have hx' := (hb b (by simp)).trans hx
      refine ⟨?_, by simp [hx']⟩
      obtain ⟨p', hp', hesz, hlen, hpty, hor⟩ := h.blk b _ hx'
      cases hv with
      | osl _ _ _ p a cap h2 h3 hle h4 =>
        rw [h2] at hp'; obtain rfl := Option.some.inj hp'
        rw [hlen] at hle
        by_cases hlt : lo < hi
        · obtain ⟨rfl, hnil⟩ := h4 hlt
          rcases hor with ⟨hn, _⟩ | ⟨hn, c, vs, hc, hrow, hat, _⟩
          · rw [hnil] at hn; cases hn
          have hi' := (h.live b _ p hx' h2 hnil).1
          have := PR.part (lo := lo) (hi := hi) (cap := cap) (frzM_at (hsub b (by simp)) h2 hnil hi' hc) (hrow.mono hmono) hat hle h3
          rw [hesz]; exact .p _ _ this
        · have h5 : (xs.take hi).drop lo = [] := by apply List.drop_eq_nil_of_le; simp; omega
          have h6 : hi - lo = 0 := by omega
          rw [h5, h6]; exact .p _ _ (.slE e a cap)
    · cases hf
  | imm ls off =>
    simp [frzL] at hf; obtain ⟨rfl, rfl⟩ := hf
    cases hv with
    | imm _ _ _ h1 => exact ⟨.imm _ _ _ (h1.mono hmono), by simp⟩
  | clo f c =>
    simp [frzL] at hf; obtain ⟨rfl, rfl⟩ := hf
    cases hv with
    | clo _ _ cv h1 h2 => exact ⟨.clo _ _ cv h1 (fun j l v hl hv => (h2 j l v hl hv).mono hmono), by simp⟩
  | ref b off => simp [frzL] at hf
  | eref b i off => simp [frzL] at hf
  | fresh e et xs => simp [frzL] at hf
  | undef => simp [frzL] at hf
  | void => simp [frzL] at hf

theorem frzLs_ok (h : WR F g bk w) {bk0 : BId → Option Blk} {cs : List BId} : ∀ {ls ls' : List Leaf} {bs : List BId} {vs : List Value}, frzLs bk0 ls = some (ls', bs) → (∀ b ∈ bs, bk b = bk0 b) → (∀ b ∈ bs, b ∈ cs) → Row g ls vs →
    Row (Gh.of (frzM g w cs)) ls' vs ∧ ∀ b ∈ bs, ∃ x, bk b = some x
  | [], ls', bs, vs, hf, hb, hs, hr => by
    simp [frzLs] at hf; obtain ⟨rfl, rfl⟩ := hf
    have := hr.1
    cases vs with
    | nil => exact ⟨Row.nil, by simp⟩
    | cons => simp at this
  | l :: ls, ls', bs, vs, hf, hb, hs, hr => by
    simp only [frzLs, Option.bind_eq_some_iff, Option.some.injEq, Prod.mk.injEq] at hf
    obtain ⟨x, h1, y, h2, rfl, rfl⟩ := hf
    cases vs with
    | nil => have := hr.1; simp at this
    | cons v vs =>
      obtain ⟨h3, h4⟩ := hr.of_cons
      obtain ⟨h5, h6⟩ := frzL_ok h h1 (fun b hbm => hb b (by simp [hbm])) (fun b hbm => hs b (by simp [hbm])) h3
      obtain ⟨h7, h8⟩ := frzLs_ok h h2 (fun b hbm => hb b (by simp [hbm])) (fun b hbm => hs b (by simp [hbm])) h4
      refine ⟨Row.cons h5 h7, fun b hbm => ?_⟩
      rcases List.mem_append.1 hbm with hbm | hbm
      · exact h6 b hbm
      · exact h8 b hbm
theorem frzA_ok (h : WR F g bk w) {bk0 : BId → Option Blk} {cs : List BId} {a a' : AV} {bs : List BId} {v : Value} (hf : frzA bk0 a = some (a', bs)) (hb : ∀ b ∈ bs, bk b = bk0 b) (hs : ∀ b ∈ bs, b ∈ cs) (hv : VR g a v) :
    VR1 (Gh.of (frzM g w cs)) a' v ∧ ∀ b ∈ bs, ∃ x, bk b = some x := by
  cases a with
  | lf l =>
    simp only [frzA, Option.bind_eq_some_iff, Option.some.injEq, Prod.mk.injEq] at hf
    obtain ⟨x, h1, rfl, rfl⟩ := hf
    exact frzL_ok h h1 hb hs hv
  | st ls =>
    simp only [frzA, Option.bind_eq_some_iff, Option.some.injEq, Prod.mk.injEq] at hf
    obtain ⟨x, h1, rfl, rfl⟩ := hf
    obtain ⟨cs', rfl, hr, h1'⟩ := hv
    obtain ⟨h2, h3⟩ := frzLs_ok h h1 hb hs hr
    exact ⟨⟨cs', rfl, h2, h1'⟩, h3⟩
  | tup vs => simp [frzA] at hf
theorem frzAs_ok (h : WR F g bk w) {bk0 : BId → Option Blk} {cs : List BId} : ∀ {as as' : List AV} {bs : List BId} {vs : List Value}, frzAs bk0 as = some (as', bs) → (∀ b ∈ bs, bk b = bk0 b) → (∀ b ∈ bs, b ∈ cs) →
    VRs g as vs → VRs (Gh.of (frzM g w cs)) as' vs ∧ ∀ b ∈ bs, ∃ x, bk b = some x
  | [], as', bs, vs, hf, hb, hs, hr => by
    simp [frzAs] at hf; obtain ⟨rfl, rfl⟩ := hf
    cases vs with
    | nil => exact ⟨trivial, by simp⟩
    | cons => exact hr.elim
  | l :: ls, as', bs, vs, hf, hb, hs, hr => by
    simp only [frzAs, Option.bind_eq_some_iff, Option.some.injEq, Prod.mk.injEq] at hf
    obtain ⟨x, h1, y, h2, rfl, rfl⟩ := hf
    cases vs with
    | nil => exact hr.elim
    | cons v vs =>
      obtain ⟨h5, h6⟩ := frzA_ok h h1 (fun b hbm => hb b (by simp [hbm])) (fun b hbm => hs b (by simp [hbm])) (VR.of1 hr.1)
      obtain ⟨h7, h8⟩ := frzAs_ok h h2 (fun b hbm => hb b (by simp [hbm])) (fun b hbm => hs b (by simp [hbm])) hr.2
      refine ⟨⟨h5, h7⟩, fun b hbm => ?_⟩
      rcases List.mem_append.1 hbm with hbm | hbm
      · exact h6 b hbm
      · exact h8 b hbm
theorem frzR_ok (h : WR F g bk w) {bk0 : BId → Option Blk} {cs : List BId} {a a' : AV} {bs : List BId} {v : Value} (hf : frzR bk0 a = some (a', bs)) (hb : ∀ b ∈ bs, bk b = bk0 b) (hs : ∀ b ∈ bs, b ∈ cs) (hv : VR g a v) :
    VR (Gh.of (frzM g w cs)) a' v ∧ ∀ b ∈ bs, ∃ x, bk b = some x := by
  cases a with
  | lf l => obtain ⟨h1, h2⟩ := frzA_ok h (a := .lf l) hf hb hs hv; exact ⟨VR.of1 h1, h2⟩
  | st l => obtain ⟨h1, h2⟩ := frzA_ok h (a := .st l) hf hb hs hv; exact ⟨VR.of1 h1, h2⟩
  | tup vs =>
    simp only [frzR, Option.bind_eq_some_iff, Option.some.injEq, Prod.mk.injEq] at hf
    obtain ⟨x, h1, rfl, rfl⟩ := hf
    obtain ⟨xs, rfl, hr⟩ := hv
    obtain ⟨h2, h3⟩ := frzAs_ok h h1 hb hs hr
    exact ⟨⟨xs, rfl, h2⟩, h3⟩
end

/-! ### Parts -/
def PartsR (g : Gh) : List (Nat × AV) → List (Nat × Value) → Prop
  | [], [] => True
  | (i, a) :: r, (j, v) :: s => i = j ∧ VR g a v ∧ PartsR g r s
  | _, _ => False
theorem freezing_ok {F : Fr} {g : Gh} {bk : BId → Option Blk} {w : World} (h : WR F g bk w) {bk0 : BId → Option Blk} {cs : List BId} : ∀ {as as' : List (Nat × AV)} {bs : List BId} {vs : List (Nat × Value)}, freezing bk0 as = some (as', bs) → (∀ b ∈ bs, bk b = bk0 b) → (∀ b ∈ bs, b ∈ cs) →
    PartsR g as vs → PartsR (Gh.of (frzM g w cs)) as' vs ∧ ∀ b ∈ bs, ∃ x, bk b = some x
  | [], as', bs, vs, hf, hb, hs, hr => by
    simp [freezing] at hf; obtain ⟨rfl, rfl⟩ := hf
    cases vs with
    | nil => exact ⟨trivial, by simp⟩
    | cons => exact hr.elim
  | (i, l) :: ls, as', bs, vs, hf, hb, hs, hr => by
    simp only [freezing, Option.bind_eq_some_iff, Option.some.injEq, Prod.mk.injEq] at hf
    obtain ⟨x, h1, y, h2, rfl, rfl⟩ := hf
    cases vs with
    | nil => exact hr.elim
    | cons v vs =>
      obtain ⟨j, v⟩ := v
      obtain ⟨h5, h6⟩ := frzA_ok h h1 (fun b hbm => hb b (by simp [hbm])) (fun b hbm => hs b (by simp [hbm])) hr.2.1
      obtain ⟨h7, h8⟩ := freezing_ok h h2 (fun b hbm => hb b (by simp [hbm])) (fun b hbm => hs b (by simp [hbm])) hr.2.2
      refine ⟨⟨hr.1, VR.of1 h5, h7⟩, fun b hbm => ?_⟩
      rcases List.mem_append.1 hbm with hbm | hbm
      · exact h6 b hbm
      · exact h8 b hbm

theorem zipIdx_set (off : Nat) : ∀ (l : List Value) (n : Nat) (cs : Array Value), off + n + l.length ≤ cs.size →
    ((l.zipIdx n).foldl (fun cs (x : Value × Nat) => cs.setIfInBounds (off + x.2) x.1) cs).toList = seg cs.toList (off + n) l
  | [], n, cs, h => by simp [seg]
  | v :: l, n, cs, h => by
    simp only [List.length_cons] at h
    rw [List.zipIdx_cons, List.foldl_cons]
    have ih := zipIdx_set off l (n + 1) (cs.setIfInBounds (off + n) v) (by simp; omega)
    rw [ih]
    apply List.ext_getElem?
    intro j
    have hlen1 : (cs.setIfInBounds (off + n) v).toList.length = cs.size := by simp
    rw [seg_get (by rw [hlen1]; omega), seg_get (by simp; omega)]
    simp only [List.length_cons]
    by_cases h1 : j < off + n
    · rw [if_pos (by omega), if_pos h1]
      have : off + n ≠ j := by omega
      simp [List.getElem?_set_ne this]
    · by_cases h2 : j = off + n
      · subst h2
        rw [if_pos (by omega), if_neg (by omega), if_pos (by omega)]
        have : off + n < cs.size := by omega
        simp [this]
      · rw [if_neg (by omega), if_neg h1]
        by_cases h3 : j < off + n + (l.length + 1)
        · rw [if_pos (by omega), if_pos h3]
          have e1 : j - (off + n) = (j - (off + (n + 1))) + 1 := by omega
          rw [e1, List.getElem?_cons_succ]
        · rw [if_neg (by omega), if_neg h3]
          have : off + n ≠ j := by omega
          simp [List.getElem?_set_ne this]
theorem Cells1.seg {vs us : List Value} (h : Cells1 vs) (k : Cells1 us) (o : Nat) : Cells1 (seg vs o us) := by
  intro u hu
  simp only [Go.Proofs.YtbjkpogfgijmaaaGreat.seg, List.mem_append] at hu
  rcases hu with (hu | hu) | hu
  · exact h u (List.mem_of_mem_take hu)
  · exact k u hu
  · exact h u (List.mem_of_mem_drop hu)
theorem set_cells (v : Value) (off : Nat) (cs : Array Value) (h : off + v.cells.size ≤ cs.size) :
    (v.cells.zipIdx.foldl (fun cs (x : Value × Nat) => cs.setIfInBounds (off + x.2) x.1) cs).toList = seg cs.toList off v.cells.toList := by
  rw [← Array.foldl_toList]
  have := zipIdx_set off v.cells.toList 0 cs (by simpa using h)
  simpa using this

theorem fill_ok {g : Gh} {fs : List (Nat × Nat × Bool)} {place : Nat → Option (Nat × Nat)} (hp : ∀ i, place i = (fs[i]?).map fun x => (x.1, x.2.1)) :
    ∀ {parts : List (Nat × AV)} {cparts : List (Nat × Value)} {ls out : List Leaf} {cs : Array Value}, fillL fs parts ls = some out → PartsR g parts cparts → Row g ls cs.toList → Cells1 cs.toList →
      ∃ cs', Instr.fill place cs cparts = some cs' ∧ Row g out cs'.toList ∧ Cells1 cs'.toList
  | [], [], ls, out, cs, h, _, hr, h1 => by
    simp [fillL] at h; subst h; exact ⟨cs, rfl, hr, h1⟩
  | [], _ :: _, _, _, _, _, h, _, _ => h.elim
  | _ :: _, [], _, _, _, _, h, _, _ => h.elim
  | (i, a) :: r, (j, v) :: s, ls, out, cs, h, hpr, hr, h1 => by
    obtain ⟨rfl, hv, hrest⟩ := hpr
    simp only [fillL] at h
    split at h
    · rename_i off sz ag c hfi hc
      obtain ⟨hcond, h⟩ := cond_some h
      simp only [Bool.and_eq_true] at hcond
      have hcl := Nat.eq_of_beq_eq_true hcond.1
      have hle := ble_le hcond.2
      obtain ⟨hr2, hc2⟩ := cells_row hc hv
      have hsz : v.cells.size = sz := by have := hr2.1; simp at this; omega
      have hcs : cs.size = ls.length := by have := hr.1; simp at this; omega
      have hset := set_cells v off cs (by omega)
      obtain ⟨cs', h3, h4, h5⟩ := fill_ok hp (cs := v.cells.zipIdx.foldl (fun cs (x : Value × Nat) => cs.setIfInBounds (off + x.2) x.1) cs) h hrest (by rw [hset]; exact hr.seg hr2 off) (by rw [hset]; exact h1.seg hc2 off)
      refine ⟨cs', ?_, h4, h5⟩
      have hpi : place i = some (off, sz) := by rw [hp, hfi]; rfl
      simp only [Instr.fill, hpi]
      rw [if_neg (by simp only [ne_eq, Bool.or_eq_true, decide_eq_true_eq, not_or, Decidable.not_not, gt_iff_lt, Nat.not_lt]; omega)]
      exact h3
    · cases h

section
variable {P : Program} {nt : Nat} {nb : Bool} {tm : List (Nat × AV)} {bk : BId → Option Blk} {ep : Nat} {o : Oper} {R : Type} {C : Ctx} {K : Ev → Option R} {r : R}

theorem places_ok : ∀ {Fs : List Field} {fs : List (Nat × Nat × Bool)}, fieldsB P Fs fs = true → ∃ places, Fs.mapM (fun f => (P.info? f.type).map fun i => (f.offset, i.size)) = some places ∧ ∀ i : Nat, places[i]? = (fs[i]?).map fun x => (x.1, x.2.1)
  | [], [], _ => ⟨[], rfl, fun i => by simp⟩
  | [], _ :: _, h => by cases h
  | _ :: _, [], h => by cases h
  | f :: Fs, (o, s, a) :: fs, h => by
    simp only [fieldsB, Bool.and_eq_true, beq_iff_eq] at h
    obtain ⟨⟨⟨h1, h2⟩, h3⟩, h4⟩ := h
    obtain ⟨i, h5, h6⟩ := sizeB_eq h2
    obtain ⟨pl, h7, h8⟩ := places_ok h4
    refine ⟨(f.offset, i.size) :: pl, by simp [List.mapM_cons, h5, h7], fun j => ?_⟩
    cases j with
    | zero => simp [Nat.eq_of_beq_eq_true h1, h6]
    | succ j => simpa using h8 j

theorem partsR_of {g : Gh} {f' : Nat → AV} {a : Act} : ∀ {parts : List (Nat × Operand)}, (∀ p ∈ parts, VR g (evA tm p.2) (a.eval p.2)) → PartsR g (parts.map fun p => (p.1, evA tm p.2)) (parts.map fun p => (p.1, a.eval p.2))
  | [], _ => trivial
  | p :: r, h => ⟨rfl, h p (by simp), partsR_of (f' := f') (fun q hq => h q (by simp [hq]))⟩

theorem ok_build (hty : TyOk P C.ty) {t : TypeId} {parts : Array (Nat × Operand)} (ho : o.op = .build t parts) {fp : List (Nat × AV) × List BId} (hfp : freezing bk (parts.toList.map fun p => (p.1, evA tm p.2)) = some fp)
    (hnb : (nb || fp.2.isEmpty) = true) (h : evBuild C t fp.1 (fun e => K ⟨e.val, dead fp.2, fp.2⟩) = some r) : ∃ e, K e = some r ∧ EvOk P nt nb (lk tm) bk ep o e := by
  unfold evBuild at h
  split at h
  · rename_i fs sz ag by' z hi
    obtain ⟨ls, hls, h⟩ := Option.bind_eq_some_iff.1 h
    refine ⟨_, h, EvOk.of fun F g tm' bk' a w hnb' ht hbk hT hW hdn hfr => ?_⟩
    have hmem : ∀ p ∈ parts.toList, VR g (evA tm p.2) (a.eval p.2) := fun p hp => mem_op hT ht (by simp only [ho, Op.operands]; simp; exact ⟨p.1, by simpa using hp⟩)
    have hpr := partsR_of (f' := tm') hmem
    obtain ⟨hpr2, hlive⟩ := freezing_ok hW (cs := fp.2) hfp hbk (fun b h => h) hpr
    have hbor : F.bor = none ∨ fp.2 = [] := by
      rw [Bool.or_eq_true] at hnb
      rcases hnb with h1 | h1
      · exact .inl (hnb' h1)
      · exact .inr (List.isEmpty_iff.1 h1)
    have hW' := hW.freeze hbor hlive
    obtain ⟨Fs, hu, hfs⟩ := td_struct (hty t _ hi)
    obtain ⟨f, z', hf1, hf2, hf3, hf4, hf5⟩ := tiB_info (hty t _ hi)
    obtain ⟨places, hpl, hplg⟩ := places_ok hfs
    have hrow := zeroB_row (m := frzM g w fp.2) hf5
    obtain ⟨cs', h1, h2, h3⟩ := fill_ok (g := Gh.of (frzM g w fp.2)) (place := fun i => places.toArray[i]?) (fun i => by simpa using hplg i) hls hpr2 (row_lvs.2 hrow) hrow.cells1
    have hb : P.built t (parts.map fun (i, x) => (i, a.eval x)).toList = some cs' := by
      unfold Program.built
      simp only [hf1, hu, hf4, hpl]
      simpa using h1
    refine ⟨.agg cs', w, ⟨frzM g w fp.2, g.map⟩, .inl ?_, ⟨frzM_mono g w _, fun _ _ h => h⟩, fun b p h => .inl h, ⟨cs', rfl, ?_, h3⟩, hW'⟩
    · simp only [execOp, ho, Sem.run_bind, run_build w t _ cs' hb, Result.andThen_ok]; rfl
    · exact h2.mono (Gh.of_le _ _)
  · cases h
end
end Go.Proofs.YtbjkpogfgijmaaaGreat
