/- Rows grown, closures, calls. -/
import Derived.Test.YtbjkpogfgijmaaaGreatOps6
namespace Go.Proofs.YtbjkpogfgijmaaaGreat
open Go Go.RowKit
set_option linter.unusedVariables false
set_option linter.unusedSimpArgs false

theorem nblt_lt {a b : Nat} (h : Nat.blt a b = true) : a < b := by
  unfold Nat.blt at h; exact Nat.le_of_ble_eq_true h
section
variable {P : Program} {nt : Nat} {nb : Bool} {tm : List (Nat × AV)} {bk : BId → Option Blk} {ep : Nat} {o : Oper} {R : Type} {C : Ctx} {K : Ev → Option R} {r : R}

theorem run_append_none {w : World} {t ty e : TypeId} {i : TypeInfo} (ht : P.underlying t = some (.slice e)) (hi : P.info? e = some i) (base a : Option Addr) (n cap c : Nat) (h : n ≤ cap) :
    (Builtin.append_ #[t, t] ty #[.slice base n cap, .slice a 0 c]).run P w = .ok (.slice base n cap) w := by
  have hl : ∀ (x : Addr), (loadCells x 0).run P w = .ok #[] w := fun x => by simpa using run_loadCells_list (P := P) w x [] (by simp)
  cases base <;> cases a <;> simp [Builtin.append_, run_underlying ht, sizeOf, typeInfo, hi, Builtin.lenOf, Builtin.firstCells, h, storeCells, hl]

/-- What is appended. -/
def SrcR (m : Imm) (w : World) (e : ETy) (ys : List e.T) (v : Value) : Prop :=
  ∃ ad c, v = .slice ad ys.length c ∧ (ys ≠ [] → ∃ b off vs, ad = some ⟨b, off, none⟩ ∧ PRow m (flat e ys) vs ∧ ∀ (j : Nat) u, vs[j]? = some u → w.cell? ⟨b, off + j, none⟩ = some u)

theorem append_ok {F : Fr} {g : Gh} {bk' : BId → Option Blk} {w : World} (hW : WR F g bk' w) (hb : F.bor = none) {id : BId} (hf : g.map id = none) {t ty et : TypeId} {e : ETy} {f : TypeInfo} {z : Value} (hu : P.underlying t = some (.slice et)) (hi : P.info? et = some f)
    (hz : f.zero = some z) (hfs : f.size = e.sz) (hzs : z.cells.size = e.sz) (hby : 0 < f.bytes) {xs ys : List e.T} {v1 v2 : Value} (hbytes : (xs.length + ys.length) * f.bytes ≤ 140737488355328)
    (h1 : (v1 = .slice none 0 0 ∧ xs = []) ∨ ∃ blk cap cs vs, v1 = .slice (some ⟨blk, 0, none⟩) xs.length cap ∧ w.heap[blk]? = some (.cells cs et (0, 0)) ∧ PRow g.imm (flat e xs) vs ∧ (∀ (j : Nat) u, vs[j]? = some u → cs[j]? = some u) ∧ cs.size = cap * e.sz ∧
      cap ≤ maxLen ∧ xs.length ≤ cap ∧ F.w0.heap.size ≤ blk ∧ g.imm blk = none ∧ ∀ b x p, bk' b = some x → g.map b = some p → p.isNil = false → p.blk ≠ blk)
    (h2 : SrcR g.imm w e ys v2) : ∃ v' w' g', (Builtin.append_ #[t, t] ty #[v1, v2]).run P w = .ok v' w' ∧ g.le g' ∧ (∀ b p, g'.map b = some p → g.map b = some p ∨ b = id) ∧ VR g' (.lf (.own id)) v' ∧ WR F g' (upB bk' [(id, some (.arr e et (xs ++ ys)))]) w' := by
  have hsmall : xs.length + ys.length ≤ 140737488355328 := by
    have : (xs.length + ys.length) * 1 ≤ (xs.length + ys.length) * f.bytes := Nat.mul_le_mul_left _ hby
    omega
  obtain ⟨ad, c, rfl, hne⟩ := h2
  have hmapadd : ∀ (p : Pl) b q, (g.add id p).map b = some q → g.map b = some q ∨ b = id := by
    intro p b q h
    simp only [Gh.add] at h
    split at h
    · exact .inr ‹_›
    · exact .inl h
  have hself : ∀ p, (g.add id p).map id = some p := fun p => by simp [Gh.add]
  have hnew : ∀ (vs : List Value) (cs : Array Value) (cap : Nat), PRow g.imm (flat e (xs ++ ys)) vs → (∀ (j : Nat) u, vs[j]? = some u → cs[j]? = some u) → cs.size = cap * e.sz → (xs ++ ys).length ≤ cap → cap ≤ maxLen →
      ∃ g', g.le g' ∧ (∀ b p, g'.map b = some p → g.map b = some p ∨ b = id) ∧ VR g' (.lf (.own id)) (.slice (some ⟨w.heap.size, 0, none⟩) (xs ++ ys).length cap) ∧ WR F g' (upB bk' [(id, some (.arr e et (xs ++ ys)))]) (w.drew.alloc (.cells cs et)) := by
    intro vs cs cap a1 a2 a3 a4 a5
    exact newrow_ok (w := w.drew) (d := id.1) (ep := id.2) (et := et) (hW.below ((Below.refl _ _).drew)) hf a1 a2 a3 a4 a5
  by_cases hy : ys = []
  · subst hy
    simp only [List.append_nil, List.length_nil]
    rcases h1 with ⟨rfl, rfl⟩ | ⟨blk, cap, cs, vs, rfl, hc, hrow, hat, hcs, hcm, hxc, hblk, himm, hfree⟩
    · refine ⟨_, w, g.add id ⟨0, 0, e.sz, 0, true, none, et⟩, run_append_none hu hi none ad 0 0 c (Nat.le_refl _), Gh.le_add hf, hmapadd _, LR.ownN _ _ (hself _) rfl, ?_⟩
      exact hW.add hf ⟨rfl, rfl, rfl, .inl ⟨rfl, rfl⟩⟩ (fun h => by cases h) (fun h => by cases h) (fun h => by cases h)
    · have hle := Gh.le_add (g := g) (b := id) (p := ⟨blk, 0, e.sz, xs.length, false, some cap, et⟩) hf
      refine ⟨_, w, g.add id ⟨blk, 0, e.sz, xs.length, false, some cap, et⟩, run_append_none hu hi _ ad _ cap c hxc, hle, hmapadd _, LR.own _ ⟨blk, 0, e.sz, xs.length, false, some cap, et⟩ cap (hself _) rfl hxc (fun c hc => Option.some.inj hc), ?_⟩
      refine hW.add hf ⟨rfl, rfl, rfl, .inr ⟨rfl, cs, vs, hc, hrow.mono hle.imm, fun j u hu => by simpa using hat j u hu, ?_, fun c hc => ?_⟩⟩ (fun _ => ⟨himm, hblk, fun b x p hx hp hn => hfree b x p hx hp hn⟩) (fun _ k c n hk => by rw [hb] at hk; cases hk) (fun _ _ => rfl)
      · have := Nat.mul_le_mul_right e.sz hxc; simp only [Nat.zero_add]; omega
      · have := Option.some.inj hc; subst this; exact ⟨rfl, hcs, hcm⟩
  · obtain ⟨b, off, us, rfl, hrow2, hat2⟩ := hne hy
    have hypos : 0 < ys.length := List.length_pos_iff.2 hy
    have hul : us.length = ys.length * f.size := by rw [← hrow2.1, flat_length, hfs]
    have hnews : ∀ (j : Nat) u, us[j]? = some u → w.cell? ((⟨b, off, none⟩ : Addr).add j) = some u := fun j u hu => by rw [addr_add]; exact hat2 j u hu
    have hone := hrow2.cells1
    rcases h1 with ⟨rfl, rfl⟩ | ⟨blk, cap, cs, vs, rfl, hc, hrow, hat, hcs, hcm, hxc, hblk, himm, hfree⟩
    · have hrun := run_append_nil (P := P) w t ty et f z hu hi hz ⟨b, off, none⟩ ys.length c us hul hnews hypos (by omega) (by simp only [List.length_nil, Nat.zero_add] at hbytes; omega)
      obtain ⟨g', k1, k2, k3, k4⟩ := hnew us (us.toArray ++ Builtin.zeroCells z.cells (grownCap w ys.length 0 et - ys.length)) (grownCap w ys.length 0 et) hrow2
        (fun j u hu => by rw [Array.getElem?_append_left (by simpa using (List.getElem?_eq_some_iff.1 hu).1)]; simpa using hu)
        (by have := grownCap_ge w ys.length 0 et; simp only [Array.size_append, List.size_toArray, size_zeroCells, hzs, hul, hfs, ← Nat.add_mul]; congr 1; omega)
        (by simpa using grownCap_ge w ys.length 0 et) (grownCap_le_maxLen w _ _ _ (by simp only [maxLen]; omega))
      exact ⟨_, _, g', hrun, k1, k2, k3, k4⟩
    · have hvl : vs.length = xs.length * f.size := by rw [← hrow.1, flat_length, hfs]
      have hboth : PRow g.imm (flat e (xs ++ ys)) (vs ++ us) := by rw [flat_append]; exact hrow.append hrow2
      by_cases hroom : xs.length + ys.length ≤ cap
      · have hfit : xs.length * f.size + us.length ≤ cs.size := by rw [hul, hcs, hfs, ← Nat.add_mul]; exact Nat.mul_le_mul_right _ hroom
        have hrun := run_append_room (P := P) w t ty et f hu hi blk xs.length cap cs hc ⟨b, off, none⟩ ys.length c us hul hnews hone hroom hfit
        have htake : cs.toList.take (xs.length * f.size) = vs := by
          apply List.ext_getElem?
          intro j
          rw [List.getElem?_take]
          split
          · rename_i hj
            have hj' : j < vs.length := by omega
            have := hat j _ (List.getElem?_eq_getElem hj')
            rw [List.getElem?_eq_getElem hj', ← this]; simp
          · rw [List.getElem?_eq_none (by omega)]
        have hle := Gh.le_add (g := g) (b := id) (p := ⟨blk, 0, e.sz, (xs ++ ys).length, false, some cap, et⟩) hf
        have hW2 := hW.writeFree (cs' := (cs.toList.take (xs.length * f.size) ++ us ++ cs.toList.drop (xs.length * f.size + us.length)).toArray) hb hblk himm hc hfree
        have hlen : (xs ++ ys).length = xs.length + ys.length := List.length_append
        refine ⟨_, _, g.add id ⟨blk, 0, e.sz, (xs ++ ys).length, false, some cap, et⟩, hrun, hle, hmapadd _, ?_, ?_⟩
        · rw [← hlen]
          exact LR.own _ ⟨blk, 0, e.sz, (xs ++ ys).length, false, some cap, et⟩ cap (hself _) rfl (by rw [hlen]; exact hroom) (fun c hc => Option.some.inj hc)
        · refine hW2.add hf ⟨rfl, rfl, rfl, .inr ⟨rfl, _, vs ++ us, setRow_heap w blk cs _ et (0, 0) hc, hboth.mono hle.imm, fun j u hu => ?_, ?_, fun c hc => ?_⟩⟩ (fun _ => ⟨himm, hblk, fun b x p hx hp hn => hfree b x p hx hp hn⟩) (fun _ k c n hk => by rw [hb] at hk; cases hk) (fun _ _ => rfl)
          · rw [htake]
            simp only [Nat.zero_add, List.getElem?_toArray]
            rw [List.getElem?_append_left (by exact (List.getElem?_eq_some_iff.1 hu).1)]; exact hu
          · have := Nat.mul_le_mul_right e.sz hroom
            simp only [Nat.zero_add, List.size_toArray, List.length_append, List.length_take, List.length_drop, Array.length_toList]
            rw [hfs] at hul hvl hfit ⊢
            rw [Nat.add_mul] at this ⊢
            omega
          · have := Option.some.inj hc; subst this
            refine ⟨rfl, ?_, hcm⟩
            simp only [List.size_toArray, List.length_append, List.length_take, List.length_drop, Array.length_toList]
            omega
      · have holds : ∀ (j : Nat) u, vs[j]? = some u → w.cell? ((⟨blk, 0, none⟩ : Addr).add j) = some u := fun j u hu => by rw [addr_add, cell_at hc, Nat.zero_add]; exact hat j u hu
        have hrun := run_append_grow (P := P) w t ty et f z hu hi hz ⟨blk, 0, none⟩ xs.length cap vs hvl holds ⟨b, off, none⟩ ys.length c us hul hnews (by omega) (by omega) (growslice_fits (by omega) hbytes)
        obtain ⟨g', k1, k2, k3, k4⟩ := hnew (vs ++ us) (vs.toArray ++ us.toArray ++ Builtin.zeroCells z.cells (grownCap w (xs.length + ys.length) cap et - (xs.length + ys.length))) (grownCap w (xs.length + ys.length) cap et) hboth
          (fun j u hu => by
            rw [Array.getElem?_append_left (by have := (List.getElem?_eq_some_iff.1 hu).1; simpa using this)]
            rw [show vs.toArray ++ us.toArray = (vs ++ us).toArray from by simp, List.getElem?_toArray]; exact hu)
          (by have := grownCap_ge w (xs.length + ys.length) cap et; simp only [Array.size_append, List.size_toArray, size_zeroCells, hzs, hul, hvl, hfs, ← Nat.add_mul]; congr 1; omega)
          (by simpa using grownCap_ge w (xs.length + ys.length) cap et) (grownCap_le_maxLen w _ _ _ (by simp only [maxLen]; omega))
        rw [List.length_append] at k3
        exact ⟨_, _, g', hrun, k1, k2, k3, k4⟩

theorem src_own {F : Fr} {g : Gh} {bk' : BId → Option Blk} {w : World} (hW : WR F g bk' w) {b : BId} {v : Value} (h : VR g (.lf (.own b)) v) {e : ETy} {et : TypeId} {xs : List e.T} (hb : bk' b = some (.arr e et xs)) : SrcR g.imm w e xs v := by
  obtain ⟨p, ad, cap, hp, hv, hcap, hesz, hlen, hne⟩ := h.own_slice hW hb
  refine ⟨ad, cap, hv, fun hx => ?_⟩
  obtain ⟨rfl, hn⟩ := hne hx
  obtain ⟨p', hp', _, _, _, hor⟩ := hW.blk b _ hb
  rw [hp] at hp'; obtain rfl := Option.some.inj hp'
  rcases hor with ⟨hnil, _⟩ | ⟨_, cs, vs, hc, hrow, hat, _⟩
  · rw [hn] at hnil; cases hnil
  · exact ⟨p.blk, p.base, vs, rfl, hrow, fun j u hu => by rw [cell_at hc]; exact hat j u hu⟩
theorem src_pr {F : Fr} {g : Gh} {bk' : BId → Option Blk} {w : World} (hW : WR F g bk' w) {v : Value} {e : ETy} {xs : List e.T} (h : PR g.imm (.sl e xs) v) : SrcR g.imm w e xs v := by
  obtain ⟨⟨ad, cap, hv, _⟩, hne⟩ := pr_sl h
  refine ⟨ad, cap, hv, fun hx => ?_⟩
  obtain ⟨b, off, cap', cs, vs, hv', hm, hrow, hat⟩ := hne hx
  rw [hv] at hv'
  simp only [Value.slice.injEq] at hv'
  obtain ⟨rfl, _, rfl⟩ := hv'
  obtain ⟨ty, fz, hc⟩ := hW.imm b cs hm
  exact ⟨b, off, vs, rfl, hrow, fun j u hu => by rw [cell_at hc]; exact hat j u hu⟩

theorem evAppend_ok (hty : TyOk P C.ty) {c : Call} {x y : Operand} {t : TypeId} {d : Nat} (ho : o.op = .call c) (hcal : c.callee = .builtin .append) (hargs : c.args = #[x, y]) (hats : c.argTypes = #[t, t]) (hd : o.dst = some d) (hnb : nb = true)
    (h : evAppend C bk (d, ep) t (evA tm x) (evA tm y) K = some r) : ∃ e, K e = some r ∧ EvOk P nt nb (lk tm) bk ep o e := by
  have hmx : x ∈ o.op.operands.toList := by simp [ho, Op.operands, Call.operands, hcal, hargs]
  have hmy : y ∈ o.op.operands.toList := by simp [ho, Op.operands, Call.operands, hcal, hargs]
  unfold evAppend at h
  split at h
  · rename_i e et _ _ _ _ hi
    obtain ⟨hu, f, z, hf, hfs, hz, hzs⟩ := td_slice (hty t _ hi)
    split at h
    · rename_i ei hei
      obtain ⟨f2, z2, hf2, hf3, hf4, _, _⟩ := tiB_info (hty et _ hei)
      rw [hf] at hf2; obtain rfl := Option.some.inj hf2
      -- what both sides come to
      have fin : ∀ (xs ys : List e.T) (del u : List BId), appFin (d, ep) e et ei.bytes K xs del ys u = some r →
          (∀ (F : Fr) (g : Gh) (bk' : BId → Option Blk) (a : Act) (w : World), F.bor = none → WR F g bk' w → (∀ b ∈ del, bk' b = bk b) → VR g (evA tm x) (a.eval x) → (a.eval x = .slice none 0 0 ∧ xs = [] ∧ ∀ b ∈ del, True) ∨ ∃ b p cap, del = [b] ∧ bk' b = some (.arr e et xs) ∧ g.map b = some p ∧ p.isNil = false ∧ a.eval x = .slice (some ⟨p.blk, p.base, none⟩) p.len cap ∧ p.len ≤ cap ∧ ∀ c, p.cap = some c → cap = c) →
          (∀ (F : Fr) (g : Gh) (bk' : BId → Option Blk) (a : Act) (w : World), WR F g bk' w → (∀ b ∈ u, bk' b = bk b) → VR g (evA tm y) (a.eval y) → SrcR g.imm w e ys (a.eval y)) →
          ∃ ev, K ev = some r ∧ EvOk P nt nb (lk tm) bk ep o ev := by
        intro xs ys del u h hx hy
        unfold appFin at h
        obtain ⟨hc, h⟩ := cond_some h
        simp only [Bool.and_eq_true, decide_eq_true_eq] at hc
        refine ⟨_, h, EvOk.of fun F g tm' bk' a w hnb' ht hbk hT hW hdn hfr => ?_⟩
        have hbor := hnb' hnb
        have hW1 : WR F g (upB bk' (dead del)) w := hW.sub (fun b z hz => by rw [upB_dead] at hz; split at hz; cases hz; exact hz)
        have hsrc := hy F g bk' a w hW (fun b hb => hbk b (by simp [hb])) (mem_op hT ht hmy)
        have h1 := hx F g bk' a w hbor hW (fun b hb => hbk b (by simp [hb])) (mem_op hT ht hmx)
        obtain ⟨v', w', g', k1, k2, k3, k4, k5⟩ := append_ok (P := P) hW1 hbor (id := (d, ep)) (hfr d hd) (ty := o.type) hu hf hz hfs hzs (by rw [hf4]; exact nblt_lt hc.1) (xs := xs) (ys := ys) (v1 := a.eval x) (v2 := a.eval y) (by rw [hf4]; exact hc.2)
          (by
            rcases h1 with ⟨h1, h2, _⟩ | ⟨b, p, cap, rfl, hb, hp, hn, hv, hcap, hce⟩
            · exact .inl ⟨h1, h2⟩
            · obtain ⟨p', hp', hesz, hlen, hpty, hor⟩ := hW.blk b _ hb
              rw [hp] at hp'; obtain rfl := Option.some.inj hp'
              rcases hor with ⟨hnil, _⟩ | ⟨_, cs, vs, hcs, hrow, hat, hbd, hcapd⟩
              · rw [hn] at hnil; cases hnil
              obtain ⟨him, hmine, _, hcs'⟩ := hW.live b _ p hb hp hn
              obtain ⟨cp, hcp⟩ := Option.isSome_iff_exists.1 (hcs' hbor)
              obtain ⟨hb0, hsz, hmax⟩ := hcapd cp hcp
              have := hce cp hcp; subst this
              refine .inr ⟨p.blk, cap, cs, vs, by rw [hv, hb0, hlen], hcs, hrow, fun j u hu => by have := hat j u hu; rwa [hb0, Nat.zero_add] at this, hsz, hmax, by omega, ?_, him, fun b' x' p' hx' hp' hn' he => ?_⟩
              · rcases hmine with h1 | ⟨c, n, h1⟩
                · exact h1
                · rw [hbor] at h1; cases h1
              · rw [upB_dead] at hx'
                split at hx'
                · cases hx'
                · rename_i hnm
                  have := hW.inj b' b x' _ p' p hx' hb hp' hp hn' hn he
                  exact hnm (by simp [this]))
          hsrc
        refine ⟨v', w', g', .inl ?_, k2, fun b p h => (k3 b p h).imp_right fun e => ⟨d, hd, e⟩, k4, k5.sub fun b z hz => ?_⟩
        · simp only [execOp, ho, resolve, hcal, invoke, builtin, Sem.run_bind, Sem.run_pure, Result.andThen_ok, hargs, hats, List.map_toArray, List.map_cons, List.map_nil, k1]
        · rw [upB_append, upB_dead] at hz
          split at hz
          · cases hz
          · rename_i hnm
            simp only [upB] at hz ⊢
            cases hq : bidEq (d, ep) b with
            | true => rw [hq] at hz; exact hz
            | false =>
              rw [hq] at hz
              simp only [cond_false] at hz ⊢
              rw [upB_dead, if_neg hnm]; exact hz
      have hgo : ∀ (xs : List e.T) (del : List BId), appGo bk (d, ep) e et ei.bytes (evA tm y) K xs del = some r →
          (∀ (F : Fr) (g : Gh) (bk' : BId → Option Blk) (a : Act) (w : World), F.bor = none → WR F g bk' w → (∀ b ∈ del, bk' b = bk b) → VR g (evA tm x) (a.eval x) → (a.eval x = .slice none 0 0 ∧ xs = [] ∧ ∀ b ∈ del, True) ∨ ∃ b p cap, del = [b] ∧ bk' b = some (.arr e et xs) ∧ g.map b = some p ∧ p.isNil = false ∧ a.eval x = .slice (some ⟨p.blk, p.base, none⟩) p.len cap ∧ p.len ≤ cap ∧ ∀ c, p.cap = some c → cap = c) →
          ∃ ev, K ev = some r ∧ EvOk P nt nb (lk tm) bk ep o ev := by
        intro xs del h hx
        unfold appGo at h
        split at h
        · rename_i e' ys hy
          split at h
          · rename_i he; subst he
            exact fin xs _ del [] h hx (fun F g bk' a w hW _ hv => src_pr hW (vr_p (hy ▸ hv)))
          · cases h
        · rename_i hy
          refine fin xs [] del [] h hx (fun F g bk' a w hW _ hv => ?_)
          have := vr_p (hy ▸ hv)
          generalize a.eval y = v at this
          cases this
          exact ⟨none, 0, rfl, fun h => absurd rfl h⟩
        · rename_i b' hy
          split at h
          · rename_i e' et' ys hb'
            split at h
            · rename_i he; subst he
              exact fin xs _ del [b'] h hx (fun F g bk' a w hW hb hv => src_own hW (hy ▸ hv) ((hb b' (by simp)).trans hb'))
            · cases h
          · cases h
        · cases h
      split at h
      · rename_i hx
        refine hgo [] [] h (fun F g bk' a w _ hW _ hv => .inl ?_)
        have := vr_p (hx ▸ hv)
        generalize a.eval x = v at this
        cases this
        exact ⟨rfl, rfl, by simp⟩
      · rename_i b hx
        split at h
        · rename_i e' et' xs hb
          split at h
          · rename_i he; subst he
            obtain ⟨het, h⟩ := cond_some h
            have het := Nat.eq_of_beq_eq_true het
            subst het
            refine hgo _ [b] h (fun F g bk' a w _ hW hbk hv => ?_)
            have hv : VR g (.lf (.own b)) (a.eval x) := hx ▸ hv
            obtain ⟨p, hp, h1⟩ := hv.own
            rcases h1 with ⟨hn, cap, hv, hc, hce⟩ | ⟨hn, hv⟩
            · exact .inr ⟨b, p, cap, rfl, (hbk b (by simp)).trans hb, hp, hn, hv, hc, hce⟩
            · obtain ⟨p', hp', _, _, _, hor⟩ := hW.blk b _ ((hbk b (by simp)).trans hb)
              rw [hp] at hp'; obtain rfl := Option.some.inj hp'
              rcases hor with ⟨_, hxs⟩ | ⟨hn', _⟩
              · exact .inl ⟨hv, hxs, by simp⟩
              · rw [hn] at hn'; cases hn'
          · cases h
        · cases h
      · cases h
    · cases h
  · cases h
end
end Go.Proofs.YtbjkpogfgijmaaaGreat
