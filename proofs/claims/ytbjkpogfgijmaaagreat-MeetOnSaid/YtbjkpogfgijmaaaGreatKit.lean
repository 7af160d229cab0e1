/- Types of arguments and results, tables of calls. -/
import Derived.Test.YtbjkpogfgijmaaaGreatFun
import Derived.KernelRfl
namespace Go.Proofs.YtbjkpogfgijmaaaGreat
open Go Go.RowKit
set_option linter.unusedVariables false
set_option linter.unusedSimpArgs false

/-- How plain data of a type stand as a value. -/
structure Cod (T : Type) where
  enc : T → AV
  dec : AV → Option T
  ok : ∀ a x, dec a = some x → ∀ (g : Gh) v, VR g a v → VR1 (Gh.of g.imm) (enc x) v
  one : ∀ x (g : Gh) v, VR g (enc x) v → VR1 g (enc x) v

def decSt {T : Type} (d : List PL → Option T) : AV → Option T
  | .st ls => (pls ls).bind d
  | _ => none
def decPt {T : Type} (d : List PL → Option T) : AV → Option T
  | .lf (.imm ls 0) => d ls
  | _ => none
def decI (k : IntKind) : AV → Option Int
  | .lf (.p x) => dInt k x
  | _ => none
def decB : AV → Option Bool
  | .lf (.p x) => dBool x
  | _ => none
def decL (e : ETy) : AV → Option (List e.T)
  | .lf (.p x) => dSl e x
  | _ => none

theorem decSt_ok {T : Type} {d : List PL → Option T} {lv : T → List PL} (hd : ∀ l x, d l = some x → Weak l (lv x)) {a : AV} {x : T} (h : decSt d a = some x) {g : Gh} {v : Value} (hv : VR g a v) : VR1 (Gh.of g.imm) (.st (lvs (lv x))) v := by
  unfold decSt at h
  split at h
  · rename_i ls
    obtain ⟨l, hl, hx⟩ := Option.bind_eq_some_iff.1 h
    obtain ⟨cs, rfl, hr, h1⟩ := hv
    rw [pls_some hl] at hr
    exact ⟨cs, rfl, (row_lvs (g := Gh.of g.imm)).2 ((hd l x hx).row ((row_lvs (g := g)).1 hr)), h1⟩
  · cases h
theorem decPt_ok {T : Type} {d : List PL → Option T} {lv : T → List PL} (hd : ∀ l x, d l = some x → Weak l (lv x)) {a : AV} {x : T} (h : decPt d a = some x) {g : Gh} {v : Value} (hv : VR g a v) : VR1 (Gh.of g.imm) (.lf (.imm (lv x) 0)) v := by
  unfold decPt at h
  split at h
  · rename_i ls
    obtain ⟨b, p, cs, vs, h1, h2, h3, h4⟩ := hv.imm
    exact LR.imm _ _ _ ⟨b, p, cs, vs, h1, h2, h3, (hd ls x h).row h4⟩
  · cases h
def cSt {T : Type} (lv : T → List PL) (d : List PL → Option T) (hd : ∀ l x, d l = some x → Weak l (lv x)) : Cod T := ⟨fun x => .st (lvs (lv x)), decSt d, fun a x h g v hv => decSt_ok hd h hv, fun x g v h => h⟩
def cPt {T : Type} (lv : T → List PL) (d : List PL → Option T) (hd : ∀ l x, d l = some x → Weak l (lv x)) : Cod T := ⟨fun x => .lf (.imm (lv x) 0), decPt d, fun a x h g v hv => decPt_ok hd h hv, fun x g v h => h⟩
theorem leaf_weak {x y : PL} (h : x = y ∨ ∃ e, x = .nil ∧ y = .sl e []) {g : Gh} {v : Value} (hv : VR g (.lf (.p x)) v) : VR1 (Gh.of g.imm) (.lf (.p y)) v := by
  have h1 := vr_p hv
  rcases h with rfl | ⟨e, rfl, rfl⟩
  · exact LR.p _ _ h1
  · cases h1; exact LR.p _ _ (.slE e none 0)
theorem decI_ok {k : IntKind} {a : AV} {x : Int} (h : decI k a = some x) {g : Gh} {v : Value} (hv : VR g a v) : VR1 (Gh.of g.imm) (.lf (.p (.int k x))) v := by
  unfold decI at h
  split at h
  · exact leaf_weak (.inl (dInt_eq h)) hv
  · cases h
theorem decB_ok {a : AV} {x : Bool} (h : decB a = some x) {g : Gh} {v : Value} (hv : VR g a v) : VR1 (Gh.of g.imm) (.lf (.p (.bool x))) v := by
  unfold decB at h
  split at h
  · exact leaf_weak (.inl (dBool_eq h)) hv
  · cases h
theorem decL_ok {e : ETy} {a : AV} {x : List e.T} (h : decL e a = some x) {g : Gh} {v : Value} (hv : VR g a v) : VR1 (Gh.of g.imm) (.lf (.p (.sl e x))) v := by
  unfold decL at h
  split at h
  · exact leaf_weak (dSl_weak h) hv
  · cases h
def cInt (k : IntKind) : Cod Int := ⟨fun n => .lf (.p (.int k n)), decI k, fun a x h g v hv => decI_ok h hv, fun x g v h => h⟩
def cB : Cod Bool := ⟨fun n => .lf (.p (.bool n)), decB, fun a x h g v hv => decB_ok h hv, fun x g v h => h⟩
def cL (e : ETy) : Cod (List e.T) := ⟨fun xs => .lf (.p (.sl e xs)), decL e, fun a x h g v hv => decL_ok h hv, fun x g v h => h⟩
def cIntD : Cod IntD := cSt IntD.lv dIntD fun _ _ => dIntD_weak
def cRat : Cod RatD := cSt RatD.lv dRat fun _ _ => dRat_weak
def cRoot : Cod RootD := cSt RootD.lv dRoot fun _ _ => dRoot_weak
def cQuad : Cod QuadD := cSt QuadD.lv dQuad fun _ _ => dQuad_weak
def cIv : Cod IvD := cSt IvD.lv dIv fun _ _ => dIv_weak
def cVec : Cod VecD := cSt VecD.lv dVec fun _ _ => dVec_weak
def cPoint : Cod PointD := cSt PointD.lv dPoint fun _ _ => dPoint_weak
def cLine : Cod LineD := cSt LineD.lv dLine fun _ _ => dLine_weak
def cCircle : Cod CircleD := cSt CircleD.lv dCircle fun _ _ => dCircle_weak
def cCurve : Cod CurveD := cSt CurveD.lv dCurve fun _ _ => dCurve_weak
def cPos : Cod PosD := cSt PosD.lv dPos fun _ _ => dPos_weak
def cPart : Cod PartD := cSt PartD.lv dPart fun _ _ => dPart_weak
def cMotion : Cod MotionD := cSt MotionD.lv dMotion fun _ _ => dMotion_weak
def cSurd : Cod SurdD := cSt SurdD.lv dSurd fun _ _ => dSurd_weak
/-- An array of whole numbers. -/
def lvArr (k : IntKind) (xs : List Int) : List PL := xs.map (.int k)
def dArr (k : IntKind) : List PL → Option (List Int)
  | [] => some []
  | x :: r => (dInt k x).bind fun n => (dArr k r).bind fun m => some (n :: m)
theorem dArr_weak {k : IntKind} : ∀ {l : List PL} {xs : List Int}, dArr k l = some xs → Weak l (lvArr k xs)
  | [], xs, h => by simp [dArr] at h; subst h; exact Weak.refl _
  | x :: r, xs, h => by
    simp only [dArr, Option.bind_eq_some_iff, Option.some.injEq] at h
    obtain ⟨n, h1, m, h2, rfl⟩ := h
    exact Weak.cons (.inl (dInt_eq h1)) (dArr_weak h2)
/-! ### Slots of loops -/
def slV {T : Type} (t : Nat) (c : Cod T) : Slot := .val t T c.enc c.dec
def slA (t : Nat) (e : ETy) (et : TypeId) : Slot := .arr t e et
def slR {T : Type} (t : Nat) (lv : T → List PL) (d : List PL → Option T) : Slot := .var t T lv d
theorem slV_ok {T : Type} (t : Nat) (c : Cod T) : SlotOk (slV t c) := fun a x h g v hv => VR.of1 (c.ok a x h g v hv)
theorem slA_ok (t : Nat) (e : ETy) (et : TypeId) : SlotOk (slA t e et) := trivial
theorem slR_ok {T : Type} (t : Nat) {lv : T → List PL} {d : List PL → Option T} (hd : ∀ l x, d l = some x → Weak l (lv x)) : SlotOk (slR t lv d) :=
  fun l x h => ⟨((hd l x h).1).symm, fun m vs hv => (hd l x h).row hv⟩
def dI1 (k : IntKind) : List PL → Option Int
  | [x] => dInt k x
  | _ => none
theorem dI1_weak {k : IntKind} {l : List PL} {x : Int} (h : dI1 k l = some x) : Weak l [.int k x] := by
  unfold dI1 at h
  split at h
  · exact Weak.cons (.inl (dInt_eq h)) (Weak.refl _)
  · cases h
def dB1 : List PL → Option Bool
  | [x] => dBool x
  | _ => none
theorem dB1_weak {l : List PL} {x : Bool} (h : dB1 l = some x) : Weak l [.bool x] := by
  unfold dB1 at h
  split at h
  · exact Weak.cons (.inl (dBool_eq h)) (Weak.refl _)
  · cases h
def dL1 (e : ETy) : List PL → Option (List e.T)
  | [x] => dSl e x
  | _ => none
theorem dL1_weak {e : ETy} {l : List PL} {x : List e.T} (h : dL1 e l = some x) : Weak l [.sl e x] := by
  unfold dL1 at h
  split at h
  · exact Weak.cons (dSl_weak h) (Weak.refl _)
  · cases h
def slI (t : Nat) (k : IntKind) : Slot := slR t (fun n => [.int k n]) (dI1 k)
def slB (t : Nat) : Slot := slR t (fun n => [.bool n]) dB1
def slL (t : Nat) (e : ETy) : Slot := slR t (fun xs => [.sl e xs]) (dL1 e)
theorem slI_ok (t : Nat) (k : IntKind) : SlotOk (slI t k) := slR_ok t fun _ _ => dI1_weak
theorem slB_ok (t : Nat) : SlotOk (slB t) := slR_ok t fun _ _ => dB1_weak
theorem slL_ok (t : Nat) (e : ETy) : SlotOk (slL t e) := slR_ok t fun _ _ => dL1_weak

/-! ### Results -/
structure Out (T : Type) where
  enc : T → AV
  dec : AV → Option T
  ok : ∀ a x, dec a = some x → ∀ (m : Imm) (w w' : World) v, OutR m w w' a v → OutR m w w' (enc x) v
theorem out_vr {m : Imm} {w w' : World} {a : AV} {v : Value} (h1 : ∀ e et xs, a ≠ .lf (.fresh e et xs)) (h2 : ∀ e et xs r, a ≠ .tup (.lf (.fresh e et xs) :: r)) (h : OutR m w w' a v) : VR (Gh.of m) a v := by
  unfold OutR at h
  split at h
  · exact absurd rfl (h1 _ _ _)
  · exact absurd rfl (h2 _ _ _ _)
  · exact h
/-- The value of a result that is no fresh row. -/
def notFresh : AV → Bool
  | .lf (.fresh _ _ _) => false
  | .tup (.lf (.fresh _ _ _) :: _) => false
  | _ => true
theorem out_nf {m : Imm} {w w' : World} {a : AV} {v : Value} (hn : notFresh a = true) (h : OutR m w w' a v) : VR (Gh.of m) a v :=
  out_vr (fun e et xs he => by subst he; cases hn) (fun e et xs r he => by subst he; cases hn) h
def oOne {T : Type} (c : Cod T) : Out T := ⟨c.enc, fun a => bif notFresh a then c.dec a else none, fun a x h m w w' v hv => by
  obtain ⟨hn, h⟩ := cond_some h
  exact out_of_vr (VR.of1 (c.ok a x h (Gh.of m) v (out_nf hn hv)))⟩
def dec2 {A B : Type} (a : Cod A) (b : Cod B) : AV → Option (A × B)
  | .tup [x, y] => (a.dec x).bind fun u => (b.dec y).bind fun v => some (u, v)
  | _ => none
def dec3 {A B D : Type} (a : Cod A) (b : Cod B) (c : Cod D) : AV → Option (A × B × D)
  | .tup [x, y, z] => (a.dec x).bind fun u => (b.dec y).bind fun v => (c.dec z).bind fun w => some (u, v, w)
  | _ => none
def dec0 : AV → Option Unit
  | .tup [] => some ()
  | _ => none
theorem vrs_cons {g : Gh} {a : AV} {as : List AV} {vs : List Value} (h : VRs g (a :: as) vs) : ∃ u us, vs = u :: us ∧ VR1 g a u ∧ VRs g as us := by
  cases vs with
  | nil => exact h.elim
  | cons u us => exact ⟨u, us, rfl, h.1, h.2⟩
def o2 {A B : Type} (a : Cod A) (b : Cod B) : Out (A × B) := ⟨fun x => .tup [a.enc x.1, b.enc x.2], fun z => bif notFresh z then dec2 a b z else none, fun z x h m w w' v hv => by
  obtain ⟨hn, h⟩ := cond_some h
  unfold dec2 at h
  split at h
  · rename_i p q
    simp only [Option.bind_eq_some_iff, Option.some.injEq] at h
    obtain ⟨u, h1, t, h2, rfl⟩ := h
    obtain ⟨xs, hx, hv⟩ := out_nf hn hv
    obtain ⟨u1, us1, e1, k1, hv⟩ := vrs_cons hv
    obtain ⟨u2, us2, e2, k2, hv⟩ := vrs_cons hv
    refine out_of_vr ⟨xs, hx, ?_⟩
    rw [e1, e2]
    exact ⟨a.ok _ _ h1 (Gh.of m) _ (VR.of1 k1), b.ok _ _ h2 (Gh.of m) _ (VR.of1 k2), hv⟩
  · cases h⟩
def o3 {A B D : Type} (a : Cod A) (b : Cod B) (c : Cod D) : Out (A × B × D) := ⟨fun x => .tup [a.enc x.1, b.enc x.2.1, c.enc x.2.2], fun z => bif notFresh z then dec3 a b c z else none, fun z x h m w w' v hv => by
  obtain ⟨hn, h⟩ := cond_some h
  unfold dec3 at h
  split at h
  · rename_i p q r
    simp only [Option.bind_eq_some_iff, Option.some.injEq] at h
    obtain ⟨u, h1, t, h2, s, h3, rfl⟩ := h
    obtain ⟨xs, hx, hv⟩ := out_nf hn hv
    obtain ⟨u1, us1, e1, k1, hv⟩ := vrs_cons hv
    obtain ⟨u2, us2, e2, k2, hv⟩ := vrs_cons hv
    obtain ⟨u3, us3, e3, k3, hv⟩ := vrs_cons hv
    refine out_of_vr ⟨xs, hx, ?_⟩
    rw [e1, e2, e3]
    exact ⟨a.ok _ _ h1 (Gh.of m) _ (VR.of1 k1), b.ok _ _ h2 (Gh.of m) _ (VR.of1 k2), c.ok _ _ h3 (Gh.of m) _ (VR.of1 k3), hv⟩
  · cases h⟩
/-- A row made for the caller, alone or first of two results. -/
def decF (e : ETy) (et : TypeId) : AV → Option (List e.T)
  | .lf (.fresh e' et' xs) => if h : e' = e then (bif Nat.beq et' et then some (castE h xs) else none) else none
  | _ => none
def decF2 {B : Type} (e : ETy) (et : TypeId) (b : Cod B) : AV → Option (List e.T × B)
  | .tup [.lf (.fresh e' et' xs), y] => if h : e' = e then (bif Nat.beq et' et then (b.dec y).bind fun v => some (castE h xs, v) else none) else none
  | _ => none
def oF (e : ETy) (et : TypeId) : Out (List e.T) := ⟨fun xs => .lf (.fresh e et xs), decF e et, fun a x h m w w' v hv => by
  unfold decF at h
  split at h
  · split at h
    · rename_i he; subst he
      obtain ⟨ht, h2⟩ := cond_some h
      have := Nat.eq_of_beq_eq_true ht
      clear h
      subst this
      obtain rfl := Option.some.inj h2
      exact hv
    · cases h
  · cases h⟩
def oF2 {B : Type} (e : ETy) (et : TypeId) (b : Cod B) : Out (List e.T × B) := ⟨fun x => .tup [.lf (.fresh e et x.1), b.enc x.2], decF2 e et b, fun a x h m w w' v hv => by
  unfold decF2 at h
  split at h
  · split at h
    · rename_i he; subst he
      obtain ⟨ht, h2⟩ := cond_some h
      have := Nat.eq_of_beq_eq_true ht
      clear h
      subst this
      simp only [Option.bind_eq_some_iff, Option.some.injEq] at h2
      obtain ⟨u, h1, rfl⟩ := h2
      obtain ⟨v0, vs, e1, k1, k2⟩ := hv
      obtain ⟨u1, us1, e2, k3, k4⟩ := vrs_cons k2
      subst e2
      exact ⟨v0, u1 :: us1, e1, k1, b.ok _ _ h1 (Gh.of m) _ (VR.of1 k3), k4⟩
    · cases h
  · cases h⟩

/-! ### Calls -/
inductive Cods : List Type → Type 1 where
  | nil : Cods []
  | cons {A : Type} {As : List Type} (c : Cod A) (r : Cods As) : Cods (A :: As)
@[reducible] def TL : List Type → Type
  | [] => Unit
  | A :: As => A × TL As
def Cods.dec : {As : List Type} → Cods As → List AV → Option (TL As)
  | _, .nil, [] => some ()
  | _, .cons c r, x :: xs => (c.dec x).bind fun a => (r.dec xs).bind fun b => some (a, b)
  | _, _, _ => none
def Cods.enc : {As : List Type} → Cods As → TL As → List AV
  | _, .nil, _ => []
  | _, .cons c r, v => c.enc v.1 :: r.enc v.2
theorem Cods.ok : ∀ {As : List Type} (cs : Cods As) {l : List AV} {x : TL As}, cs.dec l = some x → ∀ (m : Imm) vs, VRs (Gh.of m) l vs → VRs (Gh.of m) (cs.enc x) vs
  | _, .nil, [], x, h, m, vs, hv => hv
  | _, .nil, _ :: _, x, h, m, vs, hv => by simp [Cods.dec] at h
  | _, .cons c r, [], x, h, m, vs, hv => by simp [Cods.dec] at h
  | _, .cons c r, y :: ys, x, h, m, vs, hv => by
    simp only [Cods.dec, Option.bind_eq_some_iff] at h
    obtain ⟨a, h1, b, h2, h3⟩ := h
    have h3 := Option.some.inj h3
    subst h3
    obtain ⟨u, us, rfl, k1, k2⟩ := vrs_cons hv
    exact ⟨c.ok _ _ h1 (Gh.of m) _ (VR.of1 k1), r.ok h2 m us k2⟩
theorem CallOk.weak {P : Program} {f : FuncId} {args args' : List AV} {out : AV} (h : CallOk P f args' out) (ha : ∀ (m : Imm) vs, VRs (Gh.of m) args vs → VRs (Gh.of m) args' vs) : CallOk P f args out :=
  fun m w cargs hi hv => h m w cargs hi (ha m cargs hv)

/-- What a closure holds: places that nobody changes. -/
structure PCod (T : Type) where
  enc : T → List PL
  dec : List PL → Option T
  ok : ∀ l x, dec l = some x → Weak l (enc x)
def pI (k : IntKind) : PCod Int := ⟨fun n => [.int k n], dI1 k, fun _ _ => dI1_weak⟩
def pB : PCod Bool := ⟨fun n => [.bool n], dB1, fun _ _ => dB1_weak⟩
def pL (e : ETy) : PCod (List e.T) := ⟨fun xs => [.sl e xs], dL1 e, fun _ _ => dL1_weak⟩
def pSt {T : Type} (lv : T → List PL) (d : List PL → Option T) (hd : ∀ l x, d l = some x → Weak l (lv x)) : PCod T := ⟨lv, d, hd⟩
def cPl {T : Type} (p : PCod T) : Cod T := cPt p.enc p.dec p.ok
inductive PCods : List Type → Type 1 where
  | nil : PCods []
  | cons {A : Type} {As : List Type} (c : PCod A) (r : PCods As) : PCods (A :: As)
def PCods.dec : {As : List Type} → PCods As → List (List PL) → Option (TL As)
  | _, .nil, [] => some ()
  | _, .cons c r, x :: xs => (c.dec x).bind fun a => (r.dec xs).bind fun b => some (a, b)
  | _, _, _ => none
def PCods.enc : {As : List Type} → PCods As → TL As → List (List PL)
  | _, .nil, _ => []
  | _, .cons c r, v => c.enc v.1 :: r.enc v.2
theorem PCods.ok : ∀ {As : List Type} (cs : PCods As) {l : List (List PL)} {x : TL As}, cs.dec l = some x → ∀ (m : Imm) (cv : List Value), l.length = cv.length → (∀ (j : Nat) y v, l[j]? = some y → cv[j]? = some v → ImmAt m y 0 v) →
    (cs.enc x).length = cv.length ∧ ∀ (j : Nat) y v, (cs.enc x)[j]? = some y → cv[j]? = some v → ImmAt m y 0 v
  | _, .nil, [], x, h, m, cv, hl, hv => ⟨hl, hv⟩
  | _, .nil, _ :: _, x, h, m, cv, hl, hv => by simp [PCods.dec] at h
  | _, .cons c r, [], x, h, m, cv, hl, hv => by simp [PCods.dec] at h
  | _, .cons c r, y :: ys, x, h, m, cv, hl, hv => by
    simp only [PCods.dec, Option.bind_eq_some_iff] at h
    obtain ⟨a, h1, b, h2, h3⟩ := h
    have h3 := Option.some.inj h3
    subst h3
    cases cv with
    | nil => simp at hl
    | cons v cv =>
      obtain ⟨k1, k2⟩ := r.ok h2 m cv (by simpa using hl) (fun j y v g1 g2 => hv (j + 1) y v (by simpa using g1) (by simpa using g2))
      refine ⟨by simp [PCods.enc, k1], fun j => ?_⟩
      cases j with
      | zero =>
        intro y' v' g1 g2
        simp [PCods.enc] at g1 g2; subst g1 g2
        obtain ⟨b', p, cs, vs, e1, e2, e3, e4⟩ := hv 0 y v rfl rfl
        exact ⟨b', p, cs, vs, e1, e2, e3, (c.ok y a h1).row e4⟩
      | succ j => intro y' v' g1 g2; exact k2 j y' v' (by simpa [PCods.enc] using g1) (by simpa using g2)
def decC {As : List Type} (f : FuncId) (ps : PCods As) : AV → Option (TL As)
  | .lf (.clo g caps) => bif Nat.beq g f then ps.dec caps else none
  | _ => none
theorem decC_ok {As : List Type} {f : FuncId} {ps : PCods As} {a : AV} {x : TL As} (h : decC f ps a = some x) {g : Gh} {v : Value} (hv : VR g a v) : VR1 (Gh.of g.imm) (.lf (.clo f (ps.enc x))) v := by
  unfold decC at h
  split at h
  · rename_i g' caps
    obtain ⟨he, h2⟩ := cond_some h
    clear h
    have he := Nat.eq_of_beq_eq_true he
    subst he
    obtain ⟨cv, hcv, hl, hi⟩ := hv.clo
    obtain ⟨k1, k2⟩ := ps.ok h2 g.imm cv hl hi
    rw [hcv]
    exact LR.clo _ _ cv k1 k2
  · cases h
def cClo {As : List Type} (f : FuncId) (ps : PCods As) : Cod (TL As) := ⟨fun v => .lf (.clo f (ps.enc v)), decC f ps, fun a x h g v hv => decC_ok h hv, fun x g v h => h⟩
/-- Arrays of two and of three. -/
def lv2 {T : Type} (lv : T → List PL) (x : T × T) : List PL := lv x.1 ++ lv x.2
def lv3 {T : Type} (lv : T → List PL) (x : T × T × T) : List PL := lv x.1 ++ lv x.2.1 ++ lv x.2.2
def dA2 {T : Type} (n : Nat) (d : List PL → Option T) (l : List PL) : Option (T × T) := (d (l.take n)).bind fun x => (d (l.drop n)).bind fun y => some (x, y)
def dA3 {T : Type} (n : Nat) (d : List PL → Option T) (l : List PL) : Option (T × T × T) := (d (l.take n)).bind fun x => (d ((l.drop n).take n)).bind fun y => (d (l.drop (n + n))).bind fun z => some (x, y, z)
theorem dA2_weak {T : Type} {n : Nat} {lv : T → List PL} {d : List PL → Option T} (hd : ∀ l x, d l = some x → Weak l (lv x)) {l : List PL} {x : T × T} (h : dA2 n d l = some x) : Weak l (lv2 lv x) := by
  simp only [dA2, Option.bind_eq_some_iff, Option.some.injEq] at h
  obtain ⟨a, h1, b, h2, rfl⟩ := h
  exact Weak.parts n (hd _ _ h1) (hd _ _ h2)
theorem dA3_weak {T : Type} {n : Nat} {lv : T → List PL} {d : List PL → Option T} (hd : ∀ l x, d l = some x → Weak l (lv x)) {l : List PL} {x : T × T × T} (h : dA3 n d l = some x) : Weak l (lv3 lv x) := by
  simp only [dA3, Option.bind_eq_some_iff, Option.some.injEq] at h
  obtain ⟨a, h1, b, h2, c, h3, rfl⟩ := h
  exact Weak.three (hd _ _ h1) (hd _ _ h2) (hd _ _ h3)
def cArr2 {T : Type} (n : Nat) (p : PCod T) : Cod (T × T) := cSt (lv2 p.enc) (dA2 n p.dec) fun _ _ => dA2_weak p.ok
def cArr3 {T : Type} (n : Nat) (p : PCod T) : Cod (T × T × T) := cSt (lv3 p.enc) (dA3 n p.dec) fun _ _ => dA3_weak p.ok
structure Ent where
  run : {R : Type} → List AV → (AV → Option R) → Option R
def ent {As : List Type} {T : Type} (cs : Cods As) (o : Out T) (g : TL As → Option T) : Ent := ⟨fun args K => (cs.dec args).bind fun x => (g x).bind fun t => K (o.enc t)⟩
def EntOk (P : Program) (f : FuncId) (e : Ent) : Prop := ∀ {R : Type} args (K : AV → Option R) r, e.run args K = some r → ∃ out, K out = some r ∧ CallOk P f args out
theorem ent_ok {P : Program} {f : FuncId} {As : List Type} {T : Type} {cs : Cods As} {o : Out T} {g : TL As → Option T} (h : ∀ x t, g x = some t → CallOk P f (cs.enc x) (o.enc t)) : EntOk P f (ent cs o g) := by
  intro R args K r hr
  obtain ⟨x, hx, hr⟩ := Option.bind_eq_some_iff.1 hr
  obtain ⟨t, ht, hr⟩ := Option.bind_eq_some_iff.1 hr
  exact ⟨_, hr, (h x t ht).weak fun m vs hv => cs.ok hx m vs hv⟩
structure MEnt where
  run : {R : Type} → List Int → List AV → (AV → List Int → Option R) → Option R
def ment {As : List Type} {T : Type} (cs : Cods As) (o : T → AV) (g : List Int → TL As → Option (T × List Int)) : MEnt := ⟨fun seg args K => (cs.dec args).bind fun x => (g seg x).bind fun t => K (o t.1) t.2⟩
def MEntOk (P : Program) (et : TypeId) (f : FuncId) (e : MEnt) : Prop := ∀ {R : Type} seg args (K : AV → List Int → Option R) r, e.run seg args K = some r → ∃ out seg', K out seg' = some r ∧ MutOk P et f seg args out seg'
theorem MutOk.weak {P : Program} {et : TypeId} {f : FuncId} {seg seg' : List Int} {args args' : List AV} {out : AV} (h : MutOk P et f seg args' out seg') (ha : ∀ (m : Imm) vs, VRs (Gh.of m) args vs → VRs (Gh.of m) args' vs) : MutOk P et f seg args out seg' :=
  ⟨h.1, fun m w cargs k b cap cs hi hv => h.2 m w cargs k b cap cs hi (ha m cargs hv)⟩
theorem ment_ok {P : Program} {et : TypeId} {f : FuncId} {As : List Type} {T : Type} {cs : Cods As} {o : T → AV} {g : List Int → TL As → Option (T × List Int)} (h : ∀ seg x t, g seg x = some t → MutOk P et f seg (cs.enc x) (o t.1) t.2) : MEntOk P et f (ment cs o g) := by
  intro R seg args K r hr
  obtain ⟨x, hx, hr⟩ := Option.bind_eq_some_iff.1 hr
  obtain ⟨t, ht, hr⟩ := Option.bind_eq_some_iff.1 hr
  exact ⟨_, _, hr, (h seg x t ht).weak fun m vs hv => cs.ok hx m vs hv⟩

def lkE {E : Type _} : List (Nat × E) → Nat → Option E
  | [], _ => none
  | (k, v) :: r, f => bif Nat.beq k f then some v else lkE r f
def hasE {E : Type _} : List (Nat × E) → Nat → Bool
  | [], _ => false
  | (k, _) :: r, f => Nat.beq k f || hasE r f
theorem lkE_ok {E : Type _} {Q : Nat → E → Prop} : ∀ {l : List (Nat × E)}, (∀ x ∈ l, Q x.1 x.2) → ∀ {f : Nat} {e : E}, lkE l f = some e → Q f e
  | [], _, _, _, h => by simp [lkE] at h
  | (k, v) :: r, hq, f, e, h => by
    simp only [lkE] at h
    cases hb : Nat.beq k f with
    | true =>
      have := Nat.eq_of_beq_eq_true hb; subst this
      rw [hb] at h; obtain rfl := Option.some.inj h; exact hq (k, v) (by simp)
    | false => rw [hb] at h; exact lkE_ok (fun x hx => hq x (by simp [hx])) h
def callT (l : List (Nat × Ent)) {R : Type} (f : FuncId) (args : List AV) (K : AV → Option R) : Option R := match lkE l f with
  | some e => e.run args K
  | none => none
def mcallT (l : List (Nat × MEnt)) {R : Type} (f : FuncId) (seg : List Int) (args : List AV) (K : AV → List Int → Option R) : Option R := match lkE l f with
  | some e => e.run seg args K
  | none => none
def loopT (l : List (Nat × LoopAnn)) (d : Nat) : LoopAnn := match lkE l d with
  | some a => a
  | none => .unroll 0
/-- A function that can be entered. -/
def entered (P : Program) (f : FuncId) : Prop := ∃ fn, P.funcs[f]? = some fn ∧ fn.body.isNone = false ∧ (fn.name == "runtime.NumGoroutine") = false
def mkC (nt : Nat) (ty : List (Nat × TI)) (calls : List (Nat × Ent)) (mcalls : List (Nat × MEnt)) (loops : List (Nat × LoopAnn)) (nb : Bool) (u32 : TypeId) (cut : Bool) : Ctx :=
  ⟨nt, lkTy ty, callT calls, hasE mcalls, mcallT mcalls, loopT loops, nb, u32, cut⟩
def SlotsOk (l : List Slot) : Prop := (∀ s ∈ l, SlotOk s) ∧ (l.map Slot.t).Nodup
def AnnOk : LoopAnn → Prop
  | .unroll _ => True
  | .norm _ l outs => SlotsOk l ∧ ∀ x ∈ outs, SlotsOk x.2
theorem mkC_ok {P : Program} {nt : Nat} {ty : List (Nat × TI)} {calls : List (Nat × Ent)} {mcalls : List (Nat × MEnt)} {loops : List (Nat × LoopAnn)} {nb : Bool} {u32 : TypeId} {cut : Bool} (hty : tabB P ty = true)
    (hc : ∀ x ∈ calls, EntOk P x.1 x.2 ∧ entered P x.1) (hm : ∀ x ∈ mcalls, MEntOk P u32 x.1 x.2 ∧ entered P x.1) (hl : ∀ x ∈ loops, AnnOk x.2) : CtxOk P (mkC nt ty calls mcalls loops nb u32 cut) where
  ty := tyOk_of hty
  call := fun f args K r h => by
    simp only [mkC, callT] at h
    split at h
    · rename_i e he; exact (lkE_ok (Q := fun f e => EntOk P f e ∧ entered P f) hc he).1 args K r h
    · cases h
  mcall := fun f seg args K r h => by
    simp only [mkC, mcallT] at h
    split at h
    · rename_i e he; exact (lkE_ok (Q := fun f e => MEntOk P u32 f e ∧ entered P f) hm he).1 seg args K r h
    · cases h
  slots := fun d n l outs h => by
    simp only [mkC, loopT] at h
    split at h
    · rename_i e he
      have := lkE_ok (Q := fun _ a => AnnOk a) hl he
      rw [h] at this; exact this
    · cases h
  body := fun f args K r h => by
    simp only [mkC, callT] at h
    split at h
    · rename_i e he; exact (lkE_ok (Q := fun f e => EntOk P f e ∧ entered P f) hc he).2
    · cases h
  mbody := fun f seg args K r h => by
    simp only [mkC, mcallT] at h
    split at h
    · rename_i e he; exact (lkE_ok (Q := fun f e => MEntOk P u32 f e ∧ entered P f) hm he).2
    · cases h
theorem fun_ok {R : Type} {P : Program} {C : Ctx} (hC : CtxOk P C) (hm : P.follows .mixedOrders = true) (hnb : C.nb = true) {f : FuncId} {fn : Func} {code : Code} (hf : P.funcs[f]? = some fn) (hb : fn.body = some code) (hnt : fn.ntmps = C.nt) {rs : List ResultVar} (hrs : fn.results.toList = rs)
    {give : Option (ETy × TypeId)} {As : List Type} {cs : Cods As} {x : TL As} (hlen : (cs.enc x).length ≤ C.nt) {o : Out R} {y : Option R} (h : runF C code rs give (cs.enc x) o.dec = y) {r : R} (hy : y = some r) : CallOk P f (cs.enc x) (o.enc r) :=
  func_ok hC hm hnb hf hb hnt hrs hlen (h.trans hy) fun out ho m w w' v hv => o.ok out r ho m w w' v hv
def mdec0 (a : AV) (s : List Int) : Option (Unit × List Int) := match a with
  | .tup [] => some ((), s)
  | _ => none
def mdec1 {T : Type} (c : Cod T) (a : AV) (s : List Int) : Option (T × List Int) := (c.dec a).bind fun x => some (x, s)
/-- What a reading of a scalar result gives. -/
def MDec {T : Type} (dec : AV → List Int → Option (T × List Int)) (o : T → AV) : Prop := ∀ out s t, dec out s = some t → s = t.2 ∧ (o t.1).scal = true ∧ ∀ g v, VR g out v → VR g (o t.1) v
theorem mdec0_ok : MDec mdec0 (fun _ => .tup []) := by
  intro out s t h
  unfold mdec0 at h
  split at h
  · obtain rfl := Option.some.inj h; exact ⟨rfl, rfl, fun g v hv => hv⟩
  · cases h
theorem mdec1_ok {T : Type} (c : Cod T) (hs : ∀ x, (c.enc x).scal = true) : MDec (mdec1 c) c.enc := by
  intro out s t h
  unfold mdec1 at h
  obtain ⟨x, hx, h⟩ := Option.bind_eq_some_iff.1 h
  obtain rfl := Option.some.inj h
  exact ⟨rfl, hs x, fun g v hv => scal_vr (hs x) (VR.of1 (c.ok _ _ hx g v hv))⟩
theorem mfun_ok {P : Program} {C : Ctx} (hC : CtxOk P C) (hm : P.follows .mixedOrders = true) (hnb : C.nb = false) {f : FuncId} {fn : Func} {code : Code} (hf : P.funcs[f]? = some fn) (hb : fn.body = some code) (hnt : fn.ntmps = C.nt) {rs : List ResultVar} (hrs : fn.results.toList = rs)
    {As : List Type} {cs : Cods As} {x : TL As} {seg : List Int} (hlen : (cs.enc x).length + 1 ≤ C.nt) {T : Type} {dec : AV → List Int → Option (T × List Int)} {y : Option (T × List Int)} (h : runM C code rs seg (cs.enc x) dec = y) {t : T × List Int} (hy : y = some t) {o : T → AV} (hd : MDec dec o) (hsc : (o t.1).scal = true) : MutOk P C.u32 f seg (cs.enc x) (o t.1) t.2 :=
  mut_ok hC hm hnb hf hb hnt hrs hlen (h.trans hy) hsc fun out s hs => ⟨(hd out s t hs).1, (hd out s t hs).2.2⟩
end Go.Proofs.YtbjkpogfgijmaaaGreat
