/- The types of arguments, as plain data. -/
import Derived.Test.YtbjkpogfgijmaaaGreatRow0
namespace Go.Proofs.YtbjkpogfgijmaaaGreat
open Go Go.RowKit
set_option linter.unusedVariables false
set_option linter.unusedSimpArgs false

/-! ### What the arguments' types allow -/
def In64 (n : Int) : Prop := -9223372036854775808 ≤ n ∧ n < 9223372036854775808
def WfI (a : IntD) : Prop := ∀ x ∈ a.limbs, 0 ≤ x ∧ x < 4294967296
def WfQ (a : RatD) : Prop := WfI a.num ∧ WfI a.den
def WfRoot (a : RootD) : Prop := WfQ a.A ∧ WfQ a.B ∧ WfQ a.C
def WfLine (a : LineD) : Prop := WfQ a.A ∧ WfQ a.B ∧ WfQ a.C
def WfCircle (a : CircleD) : Prop := WfQ a.X ∧ WfQ a.Y ∧ WfQ a.Q
def WfVec (a : VecD) : Prop := WfQ a.X ∧ WfQ a.Y
def WfCurve (a : CurveD) : Prop := WfLine a.Line ∧ WfCircle a.Circle
def WfPos (a : PosD) : Prop := In64 a.X ∧ In64 a.Y ∧ In64 a.Z
def WfPart (a : PartD) : Prop := In64 a.Length ∧ In64 a.Speed ∧ In64 a.Corner
def WfMotion (a : MotionD) : Prop := WfPos a.From ∧ WfPos a.To ∧ In64 a.Rate
def WfSurd (a : SurdD) : Prop := (-32768 ≤ a.A ∧ a.A < 32768) ∧ (-32768 ≤ a.B ∧ a.B < 32768) ∧ (0 ≤ a.C ∧ a.C < 65536) ∧ (0 ≤ a.D ∧ a.D < 256) ∧ (0 ≤ a.E ∧ a.E < 256) ∧ (0 ≤ a.F ∧ a.F < 256)
theorem wf_i64 {n : Int} (h : (Lit.int .i64 n).wf = true) : In64 n := by simp [Lit.wf, IntKind.min, IntKind.max, IntKind.signed, IntKind.bits] at h; unfold In64; omega
theorem wf_u32 {n : Int} (h : (Lit.int .u32 n).wf = true) : 0 ≤ n ∧ n < 4294967296 := by simp [Lit.wf, IntKind.min, IntKind.max, IntKind.signed, IntKind.bits] at h; omega
theorem wf_i16 {n : Int} (h : (Lit.int .i16 n).wf = true) : -32768 ≤ n ∧ n < 32768 := by simp [Lit.wf, IntKind.min, IntKind.max, IntKind.signed, IntKind.bits] at h; omega
theorem wf_u16 {n : Int} (h : (Lit.int .u16 n).wf = true) : 0 ≤ n ∧ n < 65536 := by simp [Lit.wf, IntKind.min, IntKind.max, IntKind.signed, IntKind.bits] at h; omega
theorem wf_u8 {n : Int} (h : (Lit.int .u8 n).wf = true) : 0 ≤ n ∧ n < 256 := by simp [Lit.wf, IntKind.min, IntKind.max, IntKind.signed, IntKind.bits] at h; omega
theorem wf_i8 {n : Int} (h : (Lit.int .i8 n).wf = true) : -128 ≤ n ∧ n < 128 := by simp [Lit.wf, IntKind.min, IntKind.max, IntKind.signed, IntKind.bits] at h; omega

section
variable {H : Type} {enc : TypeId × Value → H} {P : Program} {w : World} {sp : Nat → Bool} {held : Bool}
theorem Op.map {t : TypeId} {n : Nat} {X Y : List PL → Prop} (h : Op enc P w sp held t n X) (f : ∀ l, X l → Y l) : Op enc P w sp held t n Y := by
  refine ⟨h.1, fun fuel cs x hx => ?_⟩
  obtain ⟨h1, ls, h2, h3⟩ := h.2 fuel cs x hx
  exact ⟨h1, ls, h2, f _ h3⟩
theorem fop_nil {n : Nat} : FieldsOp enc P w sp held [] n [] n := rfl
theorem fop_cons {t : TypeId} {fs : List (Nat × TypeId)} {off k n : Nat} {X : List PL → Prop} {Xs : List (List PL → Prop)} (h : Op enc P w sp held t k X) (r : FieldsOp enc P w sp held fs (off + k) Xs n) : FieldsOp enc P w sp held ((off, t) :: fs) off (X :: Xs) n := ⟨rfl, k, h, r⟩
theorem op_str {t : TypeId} {fs : Array Field} {n : Nat} {Xs : List (List PL → Prop)} {L : List (Nat × TypeId)} (ht : P.underlying t = some (.struct fs)) (hc : P.cellsOf t = n) (hL : fs.toList.map (fun f => (f.offset, f.type)) = L) (h : FieldsOp enc P w sp held L 0 Xs n) : Op enc P w sp held t n (Cat Xs) := op_struct ht hc (hL ▸ h)
def Ty {T : Type} (lv : T → List PL) (Y : T → Prop) (l : List PL) : Prop := ∃ a, l = lv a ∧ Y a
theorem ty_int {l : List PL} (h : Cat [isBool, isRow (.i .u32) (fun x => 0 ≤ x ∧ x < 4294967296)] l) : Ty IntD.lv WfI l := by
  obtain ⟨_, _, rfl, ⟨b, rfl⟩, _, _, rfl, ⟨xs, rfl, h1, _⟩, rfl⟩ := h
  exact ⟨⟨b, xs⟩, rfl, h1⟩
theorem ty_rat {l : List PL} (h : Cat [Ty IntD.lv WfI, Ty IntD.lv WfI] l) : Ty RatD.lv WfQ l := by
  obtain ⟨_, _, rfl, ⟨a, rfl, ha⟩, _, _, rfl, ⟨b, rfl, hb⟩, rfl⟩ := h
  exact ⟨⟨a, b⟩, by simp [RatD.lv], ha, hb⟩
theorem ty_root {l : List PL} (h : Cat [Ty RatD.lv WfQ, Ty RatD.lv WfQ, Ty RatD.lv WfQ] l) : Ty RootD.lv WfRoot l := by
  obtain ⟨_, _, rfl, ⟨a, rfl, ha⟩, _, _, rfl, ⟨b, rfl, hb⟩, _, _, rfl, ⟨c, rfl, hc⟩, rfl⟩ := h
  exact ⟨⟨a, b, c⟩, by simp [RootD.lv], ha, hb, hc⟩
theorem ty_line {l : List PL} (h : Cat [Ty RatD.lv WfQ, Ty RatD.lv WfQ, Ty RatD.lv WfQ] l) : Ty LineD.lv WfLine l := by
  obtain ⟨_, _, rfl, ⟨a, rfl, ha⟩, _, _, rfl, ⟨b, rfl, hb⟩, _, _, rfl, ⟨c, rfl, hc⟩, rfl⟩ := h
  exact ⟨⟨a, b, c⟩, by simp [LineD.lv], ha, hb, hc⟩
theorem ty_circle {l : List PL} (h : Cat [Ty RatD.lv WfQ, Ty RatD.lv WfQ, Ty RatD.lv WfQ] l) : Ty CircleD.lv WfCircle l := by
  obtain ⟨_, _, rfl, ⟨a, rfl, ha⟩, _, _, rfl, ⟨b, rfl, hb⟩, _, _, rfl, ⟨c, rfl, hc⟩, rfl⟩ := h
  exact ⟨⟨a, b, c⟩, by simp [CircleD.lv], ha, hb, hc⟩
theorem ty_vec {l : List PL} (h : Cat [Ty RatD.lv WfQ, Ty RatD.lv WfQ] l) : Ty VecD.lv WfVec l := by
  obtain ⟨_, _, rfl, ⟨a, rfl, ha⟩, _, _, rfl, ⟨b, rfl, hb⟩, rfl⟩ := h
  exact ⟨⟨a, b⟩, by simp [VecD.lv], ha, hb⟩
theorem ty_point {l : List PL} (h : Cat [Ty RatD.lv WfQ, Ty RatD.lv WfQ, Ty RatD.lv WfQ, Ty RatD.lv WfQ, Ty RatD.lv WfQ] l) : Ty PointD.lv (fun _ => True) l := by
  obtain ⟨_, _, rfl, ⟨a, rfl, ha⟩, _, _, rfl, ⟨b, rfl, hb⟩, _, _, rfl, ⟨c, rfl, hc⟩, _, _, rfl, ⟨d, rfl, hd⟩, _, _, rfl, ⟨e, rfl, he⟩, rfl⟩ := h
  exact ⟨⟨a, b, c, d, e⟩, by simp [PointD.lv], trivial⟩
theorem ty_curve {l : List PL} (h : Cat [isBool, Ty LineD.lv WfLine, Ty CircleD.lv WfCircle, isBool, Ty PointD.lv (fun _ => True), Ty PointD.lv (fun _ => True)] l) : Ty CurveD.lv WfCurve l := by
  obtain ⟨_, _, rfl, ⟨a, rfl⟩, _, _, rfl, ⟨b, rfl, hb⟩, _, _, rfl, ⟨c, rfl, hc⟩, _, _, rfl, ⟨d, rfl⟩, _, _, rfl, ⟨e, rfl, he⟩, _, _, rfl, ⟨f, rfl, hf⟩, rfl⟩ := h
  exact ⟨⟨a, b, c, d, e, f⟩, by simp [CurveD.lv], hb, hc⟩
theorem ty_pos {l : List PL} (h : Cat [isInt .i64, isInt .i64, isInt .i64] l) : Ty PosD.lv WfPos l := by
  obtain ⟨_, _, rfl, ⟨a, rfl, ha⟩, _, _, rfl, ⟨b, rfl, hb⟩, _, _, rfl, ⟨c, rfl, hc⟩, rfl⟩ := h
  exact ⟨⟨a, b, c⟩, rfl, wf_i64 ha, wf_i64 hb, wf_i64 hc⟩
theorem ty_part {l : List PL} (h : Cat [isInt .i64, isInt .i64, isInt .i64] l) : Ty PartD.lv WfPart l := by
  obtain ⟨_, _, rfl, ⟨a, rfl, ha⟩, _, _, rfl, ⟨b, rfl, hb⟩, _, _, rfl, ⟨c, rfl, hc⟩, rfl⟩ := h
  exact ⟨⟨a, b, c⟩, rfl, wf_i64 ha, wf_i64 hb, wf_i64 hc⟩
theorem ty_motion {l : List PL} (h : Cat [Ty PosD.lv WfPos, Ty PosD.lv WfPos, isInt .i64, isInt .i64, isInt .i64] l) : Ty MotionD.lv WfMotion l := by
  obtain ⟨_, _, rfl, ⟨a, rfl, ha⟩, _, _, rfl, ⟨b, rfl, hb⟩, _, _, rfl, ⟨c, rfl, hc⟩, _, _, rfl, ⟨d, rfl, hd⟩, _, _, rfl, ⟨e, rfl, he⟩, rfl⟩ := h
  exact ⟨⟨a, b, c, d, e⟩, by simp [MotionD.lv], ha, hb, wf_i64 hc⟩
theorem ty_surd {l : List PL} (h : Cat [isInt .i16, isInt .i16, isInt .u16, isInt .u8, isInt .u8, isInt .u8] l) : Ty SurdD.lv WfSurd l := by
  obtain ⟨_, _, rfl, ⟨a, rfl, ha⟩, _, _, rfl, ⟨b, rfl, hb⟩, _, _, rfl, ⟨c, rfl, hc⟩, _, _, rfl, ⟨d, rfl, hd⟩, _, _, rfl, ⟨e, rfl, he⟩, _, _, rfl, ⟨f, rfl, hf⟩, rfl⟩ := h
  exact ⟨⟨a, b, c, d, e, f⟩, rfl, wf_i16 ha, wf_i16 hb, wf_u16 hc, wf_u8 hd, wf_u8 he, wf_u8 hf⟩
theorem ty_arr2 {k : IntKind} {l : List PL} (h : Cat [isInt k, isInt k] l) : Ty (lv2 fun n => [.int k n]) (fun x => (Lit.int k x.1).wf = true ∧ (Lit.int k x.2).wf = true) l := by
  obtain ⟨_, _, rfl, ⟨a, rfl, ha⟩, _, _, rfl, ⟨b, rfl, hb⟩, rfl⟩ := h
  exact ⟨(a, b), rfl, ha, hb⟩
theorem ty_arr3 {k : IntKind} {l : List PL} (h : Cat [isInt k, isInt k, isInt k] l) : Ty (lv3 fun n => [.int k n]) (fun x => (Lit.int k x.1).wf = true ∧ (Lit.int k x.2.1).wf = true ∧ (Lit.int k x.2.2).wf = true) l := by
  obtain ⟨_, _, rfl, ⟨a, rfl, ha⟩, _, _, rfl, ⟨b, rfl, hb⟩, _, _, rfl, ⟨c, rfl, hc⟩, rfl⟩ := h
  exact ⟨(a, b, c), rfl, ha, hb, hc⟩
theorem ty_surds {l : List PL} (h : Cat [Ty SurdD.lv WfSurd, Ty SurdD.lv WfSurd, Ty SurdD.lv WfSurd] l) : Ty (lv3 SurdD.lv) (fun x => WfSurd x.1 ∧ WfSurd x.2.1 ∧ WfSurd x.2.2) l := by
  obtain ⟨_, _, rfl, ⟨a, rfl, ha⟩, _, _, rfl, ⟨b, rfl, hb⟩, _, _, rfl, ⟨c, rfl, hc⟩, rfl⟩ := h
  exact ⟨(a, b, c), by simp [lv3], ha, hb, hc⟩

/-! ### One argument -/
theorem okWide_array {r : Reach} {base : Nat} {t e : TypeId} {n : Nat} {v : Value} (ht : P.underlying t = some (.array n e)) (h : Value.okWide P w r base t v) : ∃ cs, v = .agg cs ∧ cs.size = P.cellsOf t := by
  unfold Value.okWide at h
  rw [ht] at h
  obtain ⟨cs, h1, h2, _⟩ := h
  exact ⟨cs, h1, h2⟩
theorem arg_st {T : Type} {lv : T → List PL} {Y : T → Prop} {t : TypeId} {n : Nat} {cs : Array Value} {d : DataW H} {ps : List MemPlace} (hop : Op enc P w sp held t n (Ty lv Y)) (h : DataW.Trod enc P w 0 sp held t (.agg cs) d ps) :
    ∃ a : T, Y a ∧ VR1 (Gh.of (startImm w)) (.st (lvs (lv a))) (.agg cs) := by
  obtain ⟨fuel, hf⟩ := h
  obtain ⟨_, ls, h1, a, rfl, ha⟩ := hop.2 _ _ _ hf
  simp only [Value.cells] at h1
  exact ⟨a, ha, cs, rfl, (row_lvs (g := Gh.of (startImm w))).2 h1, h1.cells1⟩
theorem arg_int {t : TypeId} {k : IntKind} {v : Value} {d : DataW H} {ps : List MemPlace} (hop : Op enc P w sp held t 1 (isInt k)) (hv : ∃ n, v = .int k n) (h : DataW.Trod enc P w 0 sp held t v d ps) :
    ∃ n : Int, (Lit.int k n).wf = true ∧ VR1 (Gh.of (startImm w)) (.lf (.p (.int k n))) v := by
  obtain ⟨n0, rfl⟩ := hv
  obtain ⟨fuel, hf⟩ := h
  obtain ⟨_, ls, h1, n, rfl, hn⟩ := hop.2 _ _ _ hf
  simp only [Value.cells] at h1
  exact ⟨n, hn, LR.p _ _ (h1.2 0 _ _ rfl rfl)⟩
theorem arg_sl {t : TypeId} {e : ETy} {Y : e.T → Prop} {v : Value} {d : DataW H} {ps : List MemPlace} (hop : Op enc P w sp held t 1 (isRow e Y)) (hv : ∃ a len cap, v = .slice a len cap) (h : DataW.Trod enc P w 0 sp held t v d ps) :
    ∃ xs : List e.T, (∀ x ∈ xs, Y x) ∧ VR1 (Gh.of (startImm w)) (.lf (.p (.sl e xs))) v := by
  obtain ⟨a, len, cap, rfl⟩ := hv
  obtain ⟨fuel, hf⟩ := h
  obtain ⟨_, ls, h1, xs, rfl, hx, _⟩ := hop.2 _ _ _ hf
  simp only [Value.cells] at h1
  exact ⟨xs, hx, LR.p _ _ (h1.2 0 _ _ rfl rfl)⟩
end
end Go.Proofs.YtbjkpogfgijmaaaGreat
