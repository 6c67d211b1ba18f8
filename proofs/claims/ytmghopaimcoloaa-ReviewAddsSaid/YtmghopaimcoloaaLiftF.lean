/- The lifter, part F: reading and writing memory. -/
import Derived.Test.YtmghopaimcoloaaLiftE
namespace Go.Lift
open Go.RowKit

theorem run_isAgg {P : Program} {t : TypeId} {ti : TI} {i : TypeInfo} {d : TypeDesc} {z : Value} (f : TFacts P t ti i d z) (w : World) : (isAgg t).run P w = .ok ti.agg w := by
  rw [f.agg]
  unfold isAgg aggOf
  rw [Sem.run_bind, run_underlying f.under w, f.under]
  cases d <;> simp

theorem run_sizeOf {P : Program} {t : TypeId} {ti : TI} {i : TypeInfo} {d : TypeDesc} {z : Value} (f : TFacts P t ti i d z) (w : World) : (sizeOf t).run P w = .ok ti.size w := by
  rw [f.size]
  simp [sizeOf, typeInfo, f.info]

/-- A variable read. -/
theorem run_loadVar_rep {P : Program} {t : TypeId} {ti : TI} {i : TypeInfo} {d : TypeDesc} {z : Value} (f : TFacts P t ti i d z) {w : World} {ad : Addr} {us : List Value} (hl : us.length = ti.size)
    (h1 : ti.agg = true ∨ ti.size = 1) (hc : ∀ j u, us[j]? = some u → w.cell? (ad.add j) = some u) {E : Env} {cs : List C} (hr : CReps E cs us) :
    ∃ val, (loadVar t ad).run P w = .ok val w ∧ VRep E (V.mk ti.agg cs) val := by
  unfold loadVar
  cases ha : ti.agg with
  | true =>
    refine ⟨.agg us.toArray, ?_, us, hr, by simp⟩
    have hload := run_loadCells_list (P := P) w ad us hc
    simp [run_isAgg f, ha, run_sizeOf f, ← hl, hload]
  | false =>
    have hs : us.length = 1 := by
      rcases h1 with h1 | h1
      · rw [ha] at h1; cases h1
      · omega
    match us, hs with
    | [u], _ =>
      refine ⟨u, ?_, VRep.mk ⟨[u], hr, by simp⟩⟩
      have h0 := hc 0 u rfl
      have hadd : ad.add 0 = ad := by simp [Addr.add]
      rw [hadd] at h0
      simp [run_isAgg f, ha, h0]

theorem cell_of_cells {w : World} {g o : Nat} {vs : List Value} {t : TypeId} {fr : Nat × Nat} (hg : w.heap[g]? = some (.cells vs.toArray t fr)) {n j : Nat} {u : Value} (h : ((vs.drop o).take n)[j]? = some u) :
    w.cell? ((⟨g, o, none⟩ : Addr).add j) = some u := by
  rw [Addr.add_lit, cell_of_row w g (o + j) _ t fr hg]
  rw [List.getElem?_take] at h
  split at h
  · simpa using h
  · cases h

section
variable {P : Program} {o : Oper} {ρ : Operand → V} {bl : Nat → Option Blk} {β : Type} {r : β}

theorem sound_load {T : TypeId → Option TI} (hT : TOk P T) {kk : K β} {t : TypeId} {x : Operand} (ho : o.op = .load t x) (hk : loadRun T bl t (ρ x) kk = some r) : Sound P o ρ bl kk r := by
  unfold loadRun at hk
  split at hk
  · cases hk
  rename_i ti ht
  obtain ⟨i, d, z, f⟩ := hT.facts ht
  cases h1 : (ti.agg || Nat.beq ti.size 1) with
  | false => rw [h1] at hk; cases hk
  | true =>
    have h1' : ti.agg = true ∨ ti.size = 1 := by
      rcases (Bool.or_eq_true _ _).mp h1 with h | h
      · exact .inl h
      · exact .inr (Nat.eq_of_beq_eq_true h)
    simp only [h1, cond_true] at hk
    have hrun : ∀ (a : Act) (w : World) (ad : Addr) (val : Value), a.eval x = .pointer (some ad) → (loadVar t ad).run P w = .ok val w → (execOp a.eval o).run P w = .ok (.value val) w := by
      intro a w ad val ha hv
      simp [execOp, ho, ha, Instr.loadAt, Instr.sureAddr, hv]
    split at hk
    · -- a block of cells
      rename_i b off hx
      split at hk
      · rename_i t0 cs hb
        split at hk
        · rename_i rc hsub
          refine Sound.pure hk fun bl2 hb2 ok0 base pl w a hr hxs => ?_
          have hb' : bl2 b = some (.cells t0 cs) := (hb2 b (by simp)).trans hb
          have hv := hxs x (by simp [ho, Op.operands])
          rw [hx] at hv
          obtain ⟨g, hg, hav⟩ := hv
          obtain ⟨p, hp, hB⟩ := hr.blks b _ hb'
          have : p = .cells g := by have h2 : pl b = some (.cells g) := hg; rw [hp] at h2; injection h2
          subst this
          obtain ⟨vs, hh, hcs⟩ := hB
          obtain ⟨s1, s2, s3⟩ := sub_rep hcs hsub
          obtain ⟨val, hv1, hv2⟩ := run_loadVar_rep f s2 h1' (fun j u hj => cell_of_cells hh hj) s1
          exact ⟨val, hrun a w _ val hav hv1, hv2⟩
        · cases hk
      · cases hk
    · -- an element of a row of one's own
      rename_i b ver ix off hx
      split at hk
      · rename_i t0 e ver' l hb
        cases hver : Nat.beq ver ver' with
        | false => rw [hver] at hk; cases hk
        | true =>
          have := Nat.eq_of_beq_eq_true hver
          subst this
          simp only [hver, cond_true] at hk
          split at hk
          · rename_i rc hsub
            refine Sound.pure hk fun bl2 hb2 ok0 base pl w a hr hxs => ?_
            have hb' : bl2 b = some (.row t0 e ver l) := (hb2 b (by simp)).trans hb
            have hv := hxs x (by simp [ho, Op.operands])
            rw [hx] at hv
            obtain ⟨sv, ad, hg, hav, hcur⟩ := hv
            obtain ⟨hi, g, n, c, hsv, rfl⟩ := (hcur t0 e ver l hb').2 rfl
            obtain ⟨p, hp, hB⟩ := hr.blks b _ hb'
            have : p = .row sv := by have h2 : pl b = some (.row sv) := hg; rw [hp] at h2; injection h2
            subst this
            obtain ⟨xs, hd, hown⟩ := hB
            obtain ⟨u, p1, q1, hxs1, hp1, hde⟩ := DList.get e.dflt hd hi
            have hcs := cells_rep (E := envOf ok0 base pl bl2 w) hde
            obtain ⟨s1, s2, s3⟩ := sub_rep hcs hsub
            have hcell : ∀ j v, ((u.drop off).take ti.size)[j]? = some v → w.cell? ((⟨g, ix * e.size + off, none⟩ : Addr).add j) = some v := by
              intro j v hj
              rw [List.getElem?_take] at hj
              split at hj
              · have h2 : xs[ix * e.size + off + j]? = some v := by
                  rw [List.getElem?_drop] at hj
                  have hlt : off + j < u.length := (List.getElem?_eq_some_iff.1 hj).1
                  rw [hxs1, List.getElem?_append_right (by omega), List.getElem?_append_left (by omega)]
                  rw [← hj]
                  congr 1
                  omega
                have h3 := hown.cells (g := g) (by rw [hsv]; rfl) _ _ h2
                rw [Addr.add_lit] at h3 ⊢
                rw [Nat.zero_add] at h3
                exact h3
              · cases hj
            obtain ⟨val, hv1, hv2⟩ := run_loadVar_rep f s2 h1' hcell s1
            exact ⟨val, hrun a w _ val hav hv1, hv2⟩
          · cases hk
      · cases hk
    · -- an element that does not turn
      rename_i e x0 off hx
      split at hk
      · rename_i rc hsub
        refine Sound.pure hk fun bl2 hb2 ok0 base pl w a hr hxs => ?_
        have hv := hxs x (by simp [ho, Op.operands])
        rw [hx] at hv
        obtain ⟨xs, ad, hd, hav, hc⟩ := hv
        have hcs := cells_rep (E := envOf ok0 base pl bl2 w) hd
        obtain ⟨s1, s2, s3⟩ := sub_rep hcs hsub
        obtain ⟨val, hv1, hv2⟩ := run_loadVar_rep f s2 h1' (fun j u hj => (hc j u (by
          rw [List.getElem?_take] at hj
          split at hj
          · exact hj
          · cases hj)).2) s1
        exact ⟨val, hrun a w _ val hav hv1, hv2⟩
      · cases hk
    · cases hk

theorem setRow_grownBy (w : World) (g : Nat) (cs : Array Value) : w.grownBy (w.setRow g cs) (some g) :=
  ⟨rfl, rfl, rfl, by simp, fun k _ hk => setRow_other w g k _ (fun e => hk (by rw [e]))⟩

/-- A variable written. -/
theorem run_storeVar_rep {P : Program} {t : TypeId} {ti : TI} {i : TypeInfo} {d : TypeDesc} {z : Value} (f : TFacts P t ti i d z) {w : World} {g off : Nat} {v : Value} {vs : List Value} {t0 : TypeId}
    (hh : w.heap[g]? = some (.cells vs.toArray t0 (0, 0))) (hl : v.cells.toList.length = ti.size) (hle : off + v.cells.toList.length ≤ vs.length) (h1 : ∀ u ∈ v.cells.toList, u.oneCell' = true) :
    (storeVar t ⟨g, off, none⟩ v).run P w = .ok () (w.setRow g (vs.take off ++ v.cells.toList ++ vs.drop (off + v.cells.toList.length)).toArray) := by
  have hst := run_storeCells_at P g off t0 v.cells.toList 0 vs.toArray w hh (by simpa using hle) h1
  have hl' : v.cells.size = ti.size := by simpa using hl
  simp only [storeVar, Sem.run_bind, run_sizeOf f, Result.andThen_ok, hl', ne_eq, not_true_eq_false, if_false]
  simpa using hst

theorem sound_store {T : TypeId → Option TI} (hT : TOk P T) {kk : K β} {t : TypeId} {x y : Operand} (ho : o.op = .store t x y) (hk : storeRun T bl t (ρ x) (ρ y) kk = some r) : Sound P o ρ bl kk r := by
  unfold storeRun at hk
  split at hk
  · rename_i ti new ht hnew
    obtain ⟨i, d, z, f⟩ := hT.facts ht
    cases hlen : Nat.beq new.length ti.size with
    | false => rw [hlen] at hk; cases hk
    | true =>
      have hlen' := Nat.eq_of_beq_eq_true hlen
      simp only [hlen, cond_true] at hk
      have hrun : ∀ (a : Act) (w w' : World) (ad : Addr), a.eval x = .pointer (some ad) → (storeVar t ad (a.eval y)).run P w = .ok () w' → (execOp a.eval o).run P w = .ok .skip w' := by
        intro a w w' ad ha hv
        simp [execOp, ho, ha, Instr.storeAt, Instr.sureAddr, hv]
      split at hk
      · rename_i b off hx
        split at hk
        · rename_i t0 cs hb
          split at hk
          · rename_i rc hov
            refine ⟨_, _, _, hk, fun bl2 hb2 => ?_⟩
            have hb' : bl2 b = some (.cells t0 cs) := (hb2 b (by simp)).trans hb
            intro ok0 base pl w a hr hxs K Q hK
            have hv := hxs x (by simp [ho, Op.operands])
            rw [hx] at hv
            obtain ⟨g, hg, hav⟩ := hv
            obtain ⟨p, hp, hB⟩ := hr.blks b _ hb'
            have : p = .cells g := by have h2 : pl b = some (.cells g) := hg; rw [hp] at h2; injection h2
            subst this
            obtain ⟨vs, hh, hcs⟩ := hB
            have hy := VRep.cells_of hnew (hxs y (by simp [ho, Op.operands]))
            obtain ⟨s1, s2⟩ := over_rep hcs hy hov
            have hly := hy.length
            have hst := run_storeVar_rep f (v := a.eval y) hh (by omega) s2 hy.oneCell
            have hgb := setRow_grownBy w g (vs.take off ++ (a.eval y).cells.toList ++ vs.drop (off + (a.eval y).cells.toList.length)).toArray
            have hs := Step.wrote (cs' := rc) hr hb' hp hgb
            refine wp_of_skip (hrun a w _ _ hav hst) (hK undef (upd pl b (.cells g)) _ ?_ hs trivial)
            exact RelB.wrote hr hb' hp hgb ⟨_, setRow_heap w g _ _ t0 _ hh, s1.mono hs.ext⟩
          · cases hk
        · cases hk
      · rename_i b ver ix off hx
        split at hk
        · rename_i t0 e ver' l hb
          cases hver : Nat.beq ver ver' with
          | false => rw [hver] at hk; cases hk
          | true =>
            have := Nat.eq_of_beq_eq_true hver
            subst this
            simp only [hver, cond_true] at hk
            split at hk
            · rename_i rc hov
              split at hk
              · rename_i x' hpk
                refine ⟨_, _, _, hk, fun bl2 hb2 => ?_⟩
                have hb' : bl2 b = some (.row t0 e ver l) := (hb2 b (by simp)).trans hb
                intro ok0 base pl w a hr hxs K Q hK
                have hv := hxs x (by simp [ho, Op.operands])
                rw [hx] at hv
                obtain ⟨sv, ad, hg, hav, hcur⟩ := hv
                obtain ⟨hi, g, n, c, hsv, rfl⟩ := (hcur t0 e ver l hb').2 rfl
                obtain ⟨p, hp, hB⟩ := hr.blks b _ hb'
                have : p = .row sv := by have h2 : pl b = some (.row sv) := hg; rw [hp] at h2; injection h2
                subst this
                obtain ⟨xs, hd, hown⟩ := hB
                obtain ⟨u, p1, q1, hxs1, hp1, hde⟩ := DList.get e.dflt hd hi
                have hcs := cells_rep (E := envOf ok0 base pl bl2 w) hde
                have hy := VRep.cells_of hnew (hxs y (by simp [ho, Op.operands]))
                obtain ⟨s1, s2⟩ := over_rep hcs hy hov
                have hly := hy.length
                have hul := hde.length
                have hx' := pack1_rep hr.blksOk (Rows.none _ _) s1 hpk
                have hx'l := hx'.length
                obtain ⟨p2, u2, q2, hxs2, hp2, hu2, hd2⟩ := DList.set x' _ hd hi hx'
                -- the two partings are one
                have hpq : p1 = p2 ∧ u = u2 ∧ q1 = q2 := by
                  rw [hxs1] at hxs2
                  have h3 := List.append_inj hxs2 (by omega)
                  have h4 := List.append_inj h3.2 (by omega)
                  exact ⟨h3.1, h4.1, h4.2⟩
                obtain ⟨rfl, rfl, rfl⟩ := hpq
                have hbl : sv.ownBlock = some g := by rw [hsv]; rfl
                obtain ⟨hxl, hown2⟩ := hown
                rcases hown2 with ⟨h0, _⟩ | ⟨g', cap, cur, hsv', hbase, hh, hnc, hcm, hcs', htake⟩
                · rw [hsv] at h0; cases h0
                have hh : w.heap[g']? = some (.cells cur t0 (0, 0)) := hh
                have hgg : g' = g ∧ cap = c ∧ n = l.length := by
                  rw [hsv] at hsv'
                  injection hsv' with e1 e2 e3
                  injection e1 with e1
                  injection e1 with e1
                  exact ⟨e1.symm, e3.symm, e2⟩
                obtain ⟨rfl, rfl, rfl⟩ := hgg
                have hcur : cur.toList = p1 ++ (u ++ q1) ++ cur.toList.drop (l.length * e.size) := by
                  rw [← hxs1, ← htake, List.take_append_drop]
                have hlen1 : (p1 ++ (u ++ q1)).length = l.length * e.size := by rw [← hxs1, hxl]
                have hle : ix * e.size + off + (a.eval y).cells.toList.length ≤ cur.toList.length := by
                  rw [hcur]
                  simp only [List.length_append] at hlen1 ⊢
                  omega
                have hst := run_storeVar_rep f (v := a.eval y) (vs := cur.toList) (off := ix * e.size + off) (t0 := t0) (g := g') (w := w) (by simpa using hh) (by omega) hle hy.oneCell
                have hnewcells : cur.toList.take (ix * e.size + off) ++ (a.eval y).cells.toList ++ cur.toList.drop (ix * e.size + off + (a.eval y).cells.toList.length) =
                    p1 ++ (u.take off ++ (a.eval y).cells.toList ++ u.drop (off + (a.eval y).cells.toList.length) ++ q1) ++ cur.toList.drop (l.length * e.size) := by
                  have e1 : cur.toList.take (ix * e.size + off) = p1 ++ u.take off := by
                    rw [hcur, List.append_assoc, List.take_append, List.take_of_length_le (by omega), List.append_assoc, List.take_append_of_le_length (by omega)]
                    congr 2
                    omega
                  have e2 : cur.toList.drop (ix * e.size + off + (a.eval y).cells.toList.length) = u.drop (off + (a.eval y).cells.toList.length) ++ q1 ++ cur.toList.drop (l.length * e.size) := by
                    conv => lhs; rw [hcur]
                    rw [List.append_assoc, List.drop_append, List.drop_of_length_le (by omega), List.nil_append, List.append_assoc, List.drop_append_of_le_length (by omega), List.append_assoc]
                    congr 2
                    omega
                  rw [e1, e2]
                  simp only [List.append_assoc]
                have hgb : w.grownBy (w.setRow g' (cur.toList.take (ix * e.size + off) ++ (a.eval y).cells.toList ++ cur.toList.drop (ix * e.size + off + (a.eval y).cells.toList.length)).toArray) sv.ownBlock := by
                  rw [hbl]; exact setRow_grownBy w g' _
                have hs := Step.grown (l' := l.set ix x') hr hb' hp hgb (.inl rfl) ⟨Nat.le_refl _, fun _ => ⟨rfl, by simp⟩⟩
                have hext := hs.ext (ok0 := ok0) (base := base)
                refine wp_of_skip (hrun a w _ _ hav hst) (hK undef (upd pl b (.row sv)) _ ?_ hs trivial)
                refine RelB.grown hr hb' hp hgb (.inl rfl) ⟨Nat.le_refl _, fun _ => ⟨rfl, by simp⟩⟩ ⟨_, hd2.mono fun x u hu => hu.mono hext.heap, ?_, .inr ⟨g', cap, _, by rw [hsv]; simp, hbase, setRow_heap w g' _ _ t0 _ hh, by simpa using hnc, hcm, ?_, ?_⟩⟩
                · rw [hd2.length]
                · have hcs2 : cur.size = cap * e.size := hcs'
                  simp only [List.size_toArray, List.length_append, List.length_take, List.length_drop, Array.length_toList]
                  simp only [Array.length_toList, Nat.min_def] at hle ⊢
                  split <;> omega
                · simp only [hnewcells]
                  rw [List.take_append_of_le_length, List.take_of_length_le]
                  · simp only [List.length_append, List.length_take, List.length_drop, List.length_set] at hlen1 ⊢; omega
                  · simp only [List.length_append, List.length_take, List.length_drop, List.length_set] at hlen1 ⊢; omega
              · cases hk
            · cases hk
        · cases hk
      · cases hk
  · cases hk
end
end Go.Lift
