/- A row of elements that an argument holds is no longer than memory reaches. -/
import Derived.Test.YtbjkpogfgijmaaaRow1
import Derived.SizedLaws
namespace Go.Proofs.Ytbjkpogfgijmaaa
open Go Go.RowKit
set_option linter.unusedVariables false
set_option linter.unusedSimpArgs false
theorem sl_sized {H : Type} {enc : TypeId × Value → H} {P : Program} {w : World} {sp : Nat → Bool} {held : Bool} {t el : TypeId} {e : ETy} {xs : List e.T} {g : Gh} {v : Value} {d : DataW H} {ps : List MemPlace} {ts : List TypeId} {ds : List (DataW H)} {j : Nat}
    (ht : P.underlying t = some (.slice el)) (h : DataW.Trod enc P w 0 sp held t v d ps) (va : VR1 g (.lf (.p (.sl e xs))) v) (hsz : (DataW.weightsEach P ts ds).all (· ≤ reachBytes) = true) (hj : ts[j]? = some t) (hd : ds[j]? = some d) : xs.length * P.bytesOf el ≤ reachBytes := by
  have va' : LR g (.p (.sl e xs)) v := va
  cases va' with
  | p _ _ hp =>
    cases hp with
    | slE a cap => rw [List.length_nil, Nat.zero_mul]; exact Nat.zero_le _
    | sl xs b off cap cs vs hb hcap hlen hc hl =>
      obtain ⟨fuel, hf⟩ := h
      simp only [Value.cells] at hf
      rcases DataW.trod_slice ht hf with ⟨h1, _⟩ | ⟨a, len, cap', elems, rest, n, _, h1, h2, _, _, _, h3, _⟩
      · simp at h1
      · simp only [List.cons.injEq, Value.slice.injEq, and_true, Option.some.injEq] at h1
        simp only [Prod.mk.injEq] at h2
        obtain ⟨rfl, _⟩ := h2
        have := sized_slice hsz hj hd ht
        rw [List.length_map, List.length_map] at this
        have e : xs.length = elems.length := by omega
        rw [e]
        exact Nat.le_trans (Nat.mul_le_mul_right _ (Nat.le_add_right _ _)) this
theorem reach_parts {n : Nat} (h : n * 24 ≤ reachBytes) : n * 24 ≤ 140737488355328 := Nat.le_trans h (by decide)
end Go.Proofs.Ytbjkpogfgijmaaa
