/- The lifter, part F: reading and writing memory. -/
import Derived.Test.YtamnjokpncjbfaaLiftE
namespace Go.Lift
open Go.RowKit

theorem run_isAgg {P : Program} {t : TypeId} {ti : TI} {i : TypeInfo} {d : TypeDesc} {z : Value} (f : TFacts P t ti i d z) (w : World) : (isAgg t).run P w = .ok ti.agg w := by
  rw [f.agg]
  unfold isAgg aggOf
  rw [Sem.run_bind, run_underlying f.under w, f.under]
  cases d <;> simp

theorem run_sizeOf {P : Program} {t : TypeId} {ti : TI} {i : TypeInfo} {d : TypeDesc} {z : Value} (f : TFacts P t ti i d z) (w : World) : (sizeOf t).run P w = .ok ti.size w := by
  rw [f.size]
  simp [sizeOf, typeInfo, f.info]

/-- A variable read. -/
theorem run_loadVar_rep {P : Program} {t : TypeId} {ti : TI} {i : TypeInfo} {d : TypeDesc} {z : Value} (f : TFacts P t ti i d z) {w : World} {ad : Addr} {us : List Value} (hl : us.length = ti.size)
    (h1 : ti.agg = true ∨ ti.size = 1) (hc : ∀ j u, us[j]? = some u → w.cell? (ad.add j) = some u) {E : Env} {cs : List C} (hr : CReps E cs us) :
    ∃ val, (loadVar t ad).run P w = .ok val w ∧ VRep E (V.mk ti.agg cs) val := by
  unfold loadVar
  cases ha : ti.agg with
  | true =>
    refine ⟨.agg us.toArray, ?_, us, hr, by simp⟩
    have hload := run_loadCells_list (P := P) w ad us hc
    simp [run_isAgg f, ha, run_sizeOf f, ← hl, hload]
  | false =>
    have hs : us.length = 1 := by
      rcases h1 with h1 | h1
      · rw [ha] at h1; cases h1
      · omega
    match us, hs with
    | [u], _ =>
      refine ⟨u, ?_, VRep.mk ⟨[u], hr, by simp⟩⟩
      have h0 := hc 0 u rfl
      have hadd : ad.add 0 = ad := by simp [Addr.add]
      rw [hadd] at h0
      simp [run_isAgg f, ha, h0]

theorem cell_of_cells {w : World} {g o : Nat} {vs : List Value} {t : TypeId} {fr : Nat × Nat} (hg : w.heap[g]? = some (.cells vs.toArray t fr)) {n j : Nat} {u : Value} (h : ((vs.drop o).take n)[j]? = some u) :
    w.cell? ((⟨g, o, none⟩ : Addr).add j) = some u := by
  rw [Addr.add_lit, cell_of_row w g (o + j) _ t fr hg]
  rw [List.getElem?_take] at h
  split at h
  · simpa using h
  · cases h

/-- An element of a row of one's own, read. -/
theorem rowLoad {P : Program} {t : TypeId} {ti : TI} {i : TypeInfo} {d : TypeDesc} {z : Value} (f : TFacts P t ti i d z) (h1' : ti.agg = true ∨ ti.size = 1) {E : Env} {base : Nat} {t0 : TypeId} {e : Ty} {l : List e.den} {sv : Value} {xs : List Value}
    (hd : DList (fun x u => DRep E.w E.ok e x u) l xs) (hown : E.w.ownsRow base t0 e.size sv l.length xs) {ix off g n c : Nat} (hi : ix < l.length) (hsv : sv = .slice (some ⟨g, 0, none⟩) n c) {rc : List C} (hsub : sub (cells e (l.getD ix e.dflt)) off ti.size = some rc) :
    ∃ val, (loadVar t ⟨g, ix * e.size + off, none⟩).run P E.w = .ok val E.w ∧ VRep E (V.mk ti.agg rc) val := by
  obtain ⟨u, p1, q1, hxs1, hp1, hde⟩ := DList.get e.dflt hd hi
  have hcs := cells_rep (E := E) hde
  obtain ⟨s1, s2, s3⟩ := sub_rep hcs hsub
  have hcell : ∀ j v, ((u.drop off).take ti.size)[j]? = some v → E.w.cell? ((⟨g, ix * e.size + off, none⟩ : Addr).add j) = some v := by
    intro j v hj
    rw [List.getElem?_take] at hj
    split at hj
    · have h2 : xs[ix * e.size + off + j]? = some v := by
        rw [List.getElem?_drop] at hj
        have hlt : off + j < u.length := (List.getElem?_eq_some_iff.1 hj).1
        rw [hxs1, List.getElem?_append_right (by omega), List.getElem?_append_left (by omega)]
        rw [← hj]
        congr 1
        omega
      have h3 := hown.cells (g := g) (by rw [hsv]; rfl) _ _ h2
      rw [Addr.add_lit] at h3 ⊢
      rw [Nat.zero_add] at h3
      exact h3
    · cases hj
  exact run_loadVar_rep f s2 h1' hcell s1

section
variable {P : Program} {o : Oper} {ρ : Operand → V} {bl : Nat → Option Blk} {β : Type} {r : β}

theorem sound_load {T : TypeId → Option TI} (hT : TOk P T) {kk : K β} {t : TypeId} {x : Operand} (ho : o.op = .load t x) (hk : loadRun T bl t (ρ x) kk = some r) : Sound P o ρ bl kk r := by
  unfold loadRun at hk
  split at hk
  · cases hk
  rename_i ti ht
  obtain ⟨i, d, z, f⟩ := hT.facts ht
  cases h1 : (ti.agg || Nat.beq ti.size 1) with
  | false => rw [h1] at hk; cases hk
  | true =>
    have h1' : ti.agg = true ∨ ti.size = 1 := by
      rcases (Bool.or_eq_true _ _).mp h1 with h | h
      · exact .inl h
      · exact .inr (Nat.eq_of_beq_eq_true h)
    simp only [h1, cond_true] at hk
    have hrun : ∀ (a : Act) (w : World) (ad : Addr) (val : Value), a.eval x = .pointer (some ad) → (loadVar t ad).run P w = .ok val w → (execOp a.eval o).run P w = .ok (.value val) w := by
      intro a w ad val ha hv
      simp [execOp, ho, ha, Instr.loadAt, Instr.sureAddr, hv]
    split at hk
    · -- a block of cells
      rename_i b off hx
      split at hk
      · rename_i t0 cs hb
        split at hk
        · rename_i rc hsub
          refine Sound.pure hk fun bl2 hb2 ok0 base pl w a hr hxs => ?_
          have hb' : bl2 b = some (.cells t0 cs) := (hb2 b (by simp)).trans hb
          have hv := hxs x (by simp [ho, Op.operands])
          rw [hx] at hv
          obtain ⟨g, hg, hav⟩ := hv
          obtain ⟨p, hp, hB⟩ := hr.blks b _ hb'
          have : p = .cells g := by have h2 : pl b = some (.cells g) := hg; rw [hp] at h2; injection h2
          subst this
          obtain ⟨vs, hh, hcs⟩ := hB
          obtain ⟨s1, s2, s3⟩ := sub_rep hcs hsub
          obtain ⟨val, hv1, hv2⟩ := run_loadVar_rep f s2 h1' (fun j u hj => cell_of_cells hh hj) s1
          exact ⟨val, hrun a w _ val hav hv1, hv2⟩
        · cases hk
      · cases hk
    · -- an element of a row of one's own
      rename_i b ver ix off hx
      split at hk
      · rename_i t0 e ver' l hb
        cases hver : Nat.beq ver ver' with
        | false => rw [hver] at hk; cases hk
        | true =>
          have := Nat.eq_of_beq_eq_true hver
          subst this
          simp only [hver, cond_true] at hk
          split at hk
          · rename_i rc hsub
            refine Sound.pure hk fun bl2 hb2 ok0 base pl w a hr hxs => ?_
            have hb' : bl2 b = some (.row t0 e ver l) := (hb2 b (by simp)).trans hb
            have hv := hxs x (by simp [ho, Op.operands])
            rw [hx] at hv
            obtain ⟨sv, svs, ad, hg, hav, hcur⟩ := hv
            obtain ⟨hi, g, n, c, hsv, rfl⟩ := (hcur t0 e ver l hb').2 rfl
            obtain ⟨p, hp, hB⟩ := hr.blks b _ hb'
            have : p = .row sv svs := by have h2 : pl b = some (.row sv svs) := hg; rw [hp] at h2; injection h2
            subst this
            obtain ⟨_, xs, hd, hown⟩ := hB
            obtain ⟨val, hv1, hv2⟩ := rowLoad f h1' hd hown hi hsv hsub
            exact ⟨val, hrun a w _ val hav hv1, hv2⟩
          · cases hk
      · cases hk
    · -- an element that does not turn
      rename_i e x0 off hx
      split at hk
      · rename_i rc hsub
        refine Sound.pure hk fun bl2 hb2 ok0 base pl w a hr hxs => ?_
        have hv := hxs x (by simp [ho, Op.operands])
        rw [hx] at hv
        obtain ⟨xs, ad, hd, hav, hc⟩ := hv
        have hcs := cells_rep (E := envOf ok0 base pl bl2 w) hd
        obtain ⟨s1, s2, s3⟩ := sub_rep hcs hsub
        obtain ⟨val, hv1, hv2⟩ := run_loadVar_rep f s2 h1' (fun j u hj => (hc j u (by
          rw [List.getElem?_take] at hj
          split at hj
          · exact hj
          · cases hj)).2) s1
        exact ⟨val, hrun a w _ val hav hv1, hv2⟩
      · cases hk
    · -- a row of a slice of slices
      rename_i b ver ix hx
      split at hk
      · rename_i t0 et0 e0 ver' iver l hb
        cases hc : (Nat.beq ver ver' && !ti.agg) with
        | false => rw [hc] at hk; cases hk
        | true =>
          simp only [hc, cond_true] at hk
          obtain ⟨hver, hag⟩ := andB hc
          have := Nat.eq_of_beq_eq_true hver
          subst this
          have hag : ti.agg = false := by simpa using hag
          refine Sound.pure hk fun bl2 hb2 ok0 base pl w a hr hxs => ?_
          have hb' : bl2 b = some (.mat t0 et0 e0 ver iver none l) := (hb2 b (by simp)).trans hb
          have hv := hxs x (by simp [ho, Op.operands])
          rw [hx] at hv
          obtain ⟨sv, svs, ad, hg, hav, hcur⟩ := hv
          obtain ⟨hi, g, n, c, hsv, rfl⟩ := (hcur _ _ _ _ _ _ _ hb').2 rfl
          obtain ⟨p, hp, hB⟩ := hr.blks b _ hb'
          have : p = .row sv svs := by have h2 : pl b = some (.row sv svs) := hg; rw [hp] at h2; injection h2
          subst this
          have hM : MatOk _ t0 et0 e0 none l sv svs := hB
          obtain ⟨vs, hown, hvs⟩ := hM.outer
          have hi2 : ix < svs.length := by rw [hM.len]; exact hi
          obtain ⟨s, hs⟩ : ∃ s, svs[ix]? = some (some s) := by
            have h2 : svs[ix]? = some svs[ix] := List.getElem?_eq_getElem hi2
            cases hq : svs[ix] with
            | some s => exact ⟨s, by rw [h2, hq]⟩
            | none => rw [hq] at h2; exact absurd (hM.hole ix h2) (by simp)
          have hcell := hown.cells (g := g) (by rw [hsv]; rfl) _ _ (hvs ix s hs)
          obtain ⟨xs, _, hso⟩ := hM.inner ix s l[ix] hs (List.getElem?_eq_getElem hi)
          have h1s : s.oneCell' = true := by
            rcases hso.2 with ⟨rfl, _⟩ | ⟨g, cap, cur, rfl, _⟩ <;> rfl
          have hrep : CRep (envOf ok0 base pl bl2 w) (.mrow b iver ix) s := ⟨h1s, sv, svs, hp, fun t et e ver' iver' hole l' h => by
            have h : bl2 b = _ := h
            rw [hb'] at h
            injection h with h
            injection h with h2 h3 h4 h5 h6 h7 h8
            subst h2 h3 h4 h5 h6 h7
            simp only [heq_eq_eq] at h8
            subst h8
            exact ⟨Nat.le_refl _, fun _ => ⟨hi, hs⟩⟩⟩
          have hsz : ti.size = 1 := by
            rcases h1' with h | h
            · rw [hag] at h; cases h
            · exact h
          obtain ⟨val, hv1, hv2⟩ := run_loadVar_rep f (us := [s]) (by rw [hsz]; rfl) h1' (ad := ⟨g, ix, none⟩) (fun j u hj => by
            cases j with
            | zero =>
              simp only [List.getElem?_cons_zero, Option.some.injEq] at hj
              subst hj
              rw [Addr.add_lit] at hcell ⊢
              simpa using hcell
            | succ j => simp at hj) (E := envOf ok0 base pl bl2 w) (cs := [.mrow b iver ix]) ⟨s, [], rfl, hrep, rfl⟩
          rw [hag] at hv2
          exact ⟨val, hrun a w _ val hav hv1, hv2⟩
      · cases hk
    · -- an element of a row of a slice of slices
      rename_i b iver ix jx off hx
      split at hk
      · rename_i t0 et0 e ver iver' hole l hb
        cases hver : Nat.beq iver iver' with
        | false => rw [hver] at hk; cases hk
        | true =>
          have := Nat.eq_of_beq_eq_true hver
          subst this
          simp only [hver, cond_true] at hk
          split at hk
          · rename_i rc hsub
            refine Sound.pure hk fun bl2 hb2 ok0 base pl w a hr hxs => ?_
            have hb' : bl2 b = some (.mat t0 et0 e ver iver hole l) := (hb2 b (by simp)).trans hb
            have hv := hxs x (by simp [ho, Op.operands])
            rw [hx] at hv
            obtain ⟨sv, svs, ad, hg, hav, hcur⟩ := hv
            obtain ⟨s, xr, hlx, hs, hj, g, n, c, hsv, rfl⟩ := (hcur _ _ _ _ _ _ _ hb').2 rfl
            obtain ⟨p, hp, hB⟩ := hr.blks b _ hb'
            have : p = .row sv svs := by have h2 : pl b = some (.row sv svs) := hg; rw [hp] at h2; injection h2
            subst this
            have hM : MatOk _ t0 et0 e hole l sv svs := hB
            obtain ⟨xs, hd, hown⟩ := hM.inner ix s xr hs hlx
            have hgd : l.getD ix [] = xr := by simp [List.getD, hlx]
            rw [hgd] at hsub
            obtain ⟨val, hv1, hv2⟩ := rowLoad f h1' hd hown hj hsv hsub
            exact ⟨val, hrun a w _ val hav hv1, hv2⟩
          · cases hk
      · cases hk
    · cases hk

theorem setRow_grownBy (w : World) (g : Nat) (cs : Array Value) : w.grownBy (w.setRow g cs) (some g) :=
  ⟨rfl, rfl, rfl, by simp, fun k _ hk => setRow_other w g k _ (fun e => hk (by rw [e]))⟩

/-- A variable written. -/
theorem run_storeVar_rep {P : Program} {t : TypeId} {ti : TI} {i : TypeInfo} {d : TypeDesc} {z : Value} (f : TFacts P t ti i d z) {w : World} {g off : Nat} {v : Value} {vs : List Value} {t0 : TypeId}
    (hh : w.heap[g]? = some (.cells vs.toArray t0 (0, 0))) (hl : v.cells.toList.length = ti.size) (hle : off + v.cells.toList.length ≤ vs.length) (h1 : ∀ u ∈ v.cells.toList, u.oneCell' = true) :
    (storeVar t ⟨g, off, none⟩ v).run P w = .ok () (w.setRow g (vs.take off ++ v.cells.toList ++ vs.drop (off + v.cells.toList.length)).toArray) := by
  have hst := run_storeCells_at P g off t0 v.cells.toList 0 vs.toArray w hh (by simpa using hle) h1
  have hl' : v.cells.size = ti.size := by simpa using hl
  simp only [storeVar, Sem.run_bind, run_sizeOf f, Result.andThen_ok, hl', ne_eq, not_true_eq_false, if_false]
  simpa using hst

theorem rawStore {P : Program} {t : TypeId} {ti : TI} {i : TypeInfo} {d : TypeDesc} {z : Value} (f : TFacts P t ti i d z) {w : World} {base : Nat} {t0 : TypeId} {size : Nat} {sv : Value} {m : Nat} {xs : List Value} (hown : w.ownsRow base t0 size sv m xs)
    {g o n c : Nat} (hsv : sv = .slice (some ⟨g, 0, none⟩) n c) {v : Value} (h1 : ∀ u ∈ v.cells.toList, u.oneCell' = true) (hl : v.cells.toList.length = ti.size) (hle : o + v.cells.toList.length ≤ xs.length) :
    ∃ w', (storeVar t ⟨g, o, none⟩ v).run P w = .ok () w' ∧ w.grownBy w' (some g) ∧ w'.ownsRow base t0 size sv m (xs.take o ++ v.cells.toList ++ xs.drop (o + v.cells.toList.length)) := by
  obtain ⟨hxl, hown2⟩ := hown
  rcases hown2 with ⟨h0, _⟩ | ⟨g', cap, cur, hsv', hbase, hh, hnc, hcm, hcs', htake⟩
  · rw [hsv] at h0; cases h0
  have hh : w.heap[g']? = some (.cells cur t0 (0, 0)) := hh
  have hgg : g' = g := by
    rw [hsv] at hsv'
    injection hsv' with e1 e2 e3
    injection e1 with e1
    injection e1 with e1
    exact e1.symm
  subst hgg
  have hcur : cur.toList = xs ++ cur.toList.drop (m * size) := by
    rw [← htake, List.take_append_drop]
  have hle2 : o + v.cells.toList.length ≤ cur.toList.length := by
    rw [hcur]
    simp only [List.length_append]
    omega
  have hst := run_storeVar_rep f (v := v) (vs := cur.toList) (off := o) (t0 := t0) (g := g') (w := w) (by simpa using hh) hl hle2 h1
  have hnew : cur.toList.take o ++ v.cells.toList ++ cur.toList.drop (o + v.cells.toList.length) = xs.take o ++ v.cells.toList ++ xs.drop (o + v.cells.toList.length) ++ cur.toList.drop (m * size) := by
    have e1 : cur.toList.take o = xs.take o := by
      rw [hcur, List.take_append_of_le_length (by omega)]
    have e2 : cur.toList.drop (o + v.cells.toList.length) = xs.drop (o + v.cells.toList.length) ++ cur.toList.drop (m * size) := by
      conv => lhs; rw [hcur]
      rw [List.drop_append_of_le_length hle]
    rw [e1, e2]
    simp only [List.append_assoc]
  have hnl : (xs.take o ++ v.cells.toList ++ xs.drop (o + v.cells.toList.length)).length = xs.length := by
    simp only [List.length_append, List.length_take, List.length_drop]
    omega
  refine ⟨_, hst, setRow_grownBy w g' _, by rw [hnl]; exact hxl, .inr ⟨g', cap, _, hsv', hbase, setRow_heap w g' _ _ t0 _ hh, hnc, hcm, ?_, ?_⟩⟩
  · have hcs2 : cur.size = cap * size := hcs'
    have : (cur.toList.take o ++ v.cells.toList ++ cur.toList.drop (o + v.cells.toList.length)).length = cur.toList.length := by
      simp only [List.length_append, List.length_take, List.length_drop]
      omega
    rw [List.size_toArray, this, Array.length_toList]
    exact hcs2
  · simp only [hnew]
    rw [List.take_append_of_le_length (by rw [hnl, hxl]; exact Nat.le_refl _), List.take_of_length_le (by rw [hnl, hxl]; exact Nat.le_refl _)]

/-- An element of a row of one's own, written. -/
theorem rowStore {P : Program} {t : TypeId} {ti : TI} {i : TypeInfo} {d : TypeDesc} {z : Value} (f : TFacts P t ti i d z) {E : Env} (hbo : BlksOk E) {base : Nat} {t0 : TypeId} {e : Ty} {l : List e.den} {sv : Value} {xs : List Value}
    (hd : DList (fun x u => DRep E.w E.ok e x u) l xs) (hown : E.w.ownsRow base t0 e.size sv l.length xs) {ix off g n c : Nat} (hi : ix < l.length) (hsv : sv = .slice (some ⟨g, 0, none⟩) n c) {new rc : List C} {v : Value} (hy : CReps E new v.cells.toList)
    (hlen' : new.length = ti.size) (hov : over (cells e (l.getD ix e.dflt)) off new = some rc) {x' : e.den} (hpk : pack1 (fun _ => none) e rc = some x') :
    ∃ w' xs', (storeVar t ⟨g, ix * e.size + off, none⟩ v).run P E.w = .ok () w' ∧ E.w.grownBy w' (some g) ∧ DList (fun x u => DRep E.w E.ok e x u) (l.set ix x') xs' ∧ w'.ownsRow base t0 e.size sv l.length xs' := by
  obtain ⟨u, p1, q1, hxs1, hp1, hde⟩ := DList.get e.dflt hd hi
  have hcs := cells_rep (E := E) hde
  obtain ⟨s1, s2⟩ := over_rep hcs hy hov
  have hly := hy.length
  have hul := hde.length
  have hx' := pack1_rep hbo (Rows.none _ _) s1 hpk
  have hx'l := hx'.length
  obtain ⟨p2, u2, q2, hxs2, hp2, hu2, hd2⟩ := DList.set x' _ hd hi hx'
  have hpq : p1 = p2 ∧ u = u2 ∧ q1 = q2 := by
    rw [hxs1] at hxs2
    have h3 := List.append_inj hxs2 (by omega)
    have h4 := List.append_inj h3.2 (by omega)
    exact ⟨h3.1, h4.1, h4.2⟩
  obtain ⟨rfl, rfl, rfl⟩ := hpq
  have hlx : ix * e.size + off + v.cells.toList.length ≤ xs.length := by
    rw [hxs1]
    simp only [List.length_append]
    omega
  obtain ⟨w', h1, h2, h3⟩ := rawStore f hown (o := ix * e.size + off) hsv hy.oneCell (by omega) hlx
  refine ⟨w', _, h1, h2, hd2, ?_⟩
  have : p1 ++ (u.take off ++ v.cells.toList ++ u.drop (off + v.cells.toList.length) ++ q1) = xs.take (ix * e.size + off) ++ v.cells.toList ++ xs.drop (ix * e.size + off + v.cells.toList.length) := by
    rw [hxs1]
    have e1 : (p1 ++ (u ++ q1)).take (ix * e.size + off) = p1 ++ u.take off := by
      rw [List.take_append, List.take_of_length_le (by omega), List.take_append_of_le_length (by omega)]
      congr 2
      omega
    have e2 : (p1 ++ (u ++ q1)).drop (ix * e.size + off + v.cells.toList.length) = u.drop (off + v.cells.toList.length) ++ q1 := by
      rw [List.drop_append, List.drop_of_length_le (by omega), List.nil_append, List.drop_append_of_le_length (by omega)]
      congr 2
      omega
    rw [e1, e2]
    simp only [List.append_assoc]
  rw [this]
  exact h3

theorem sound_store {T : TypeId → Option TI} (hT : TOk P T) {kk : K β} {t : TypeId} {x y : Operand} (ho : o.op = .store t x y) (hk : storeRun T bl t (ρ x) (ρ y) kk = some r) : Sound P o ρ bl kk r := by
  unfold storeRun at hk
  split at hk
  · rename_i ti new ht hnew
    obtain ⟨i, d, z, f⟩ := hT.facts ht
    cases hlen : Nat.beq new.length ti.size with
    | false => rw [hlen] at hk; cases hk
    | true =>
      have hlen' := Nat.eq_of_beq_eq_true hlen
      simp only [hlen, cond_true] at hk
      have hrun : ∀ (a : Act) (w w' : World) (ad : Addr), a.eval x = .pointer (some ad) → (storeVar t ad (a.eval y)).run P w = .ok () w' → (execOp a.eval o).run P w = .ok .skip w' := by
        intro a w w' ad ha hv
        simp [execOp, ho, ha, Instr.storeAt, Instr.sureAddr, hv]
      split at hk
      · rename_i b off hx
        split at hk
        · rename_i t0 cs hb
          split at hk
          · rename_i rc hov
            refine ⟨_, _, _, hk, fun bl2 hb2 => ?_⟩
            have hb' : bl2 b = some (.cells t0 cs) := (hb2 b (by simp)).trans hb
            intro ok0 base pl w a hr hxs K Q hK
            have hv := hxs x (by simp [ho, Op.operands])
            rw [hx] at hv
            obtain ⟨g, hg, hav⟩ := hv
            obtain ⟨p, hp, hB⟩ := hr.blks b _ hb'
            have : p = .cells g := by have h2 : pl b = some (.cells g) := hg; rw [hp] at h2; injection h2
            subst this
            obtain ⟨vs, hh, hcs⟩ := hB
            have hy := VRep.cells_of hnew (hxs y (by simp [ho, Op.operands]))
            obtain ⟨s1, s2⟩ := over_rep hcs hy hov
            have hly := hy.length
            have hst := run_storeVar_rep f (v := a.eval y) hh (by omega) s2 hy.oneCell
            have hgb := setRow_grownBy w g (vs.take off ++ (a.eval y).cells.toList ++ vs.drop (off + (a.eval y).cells.toList.length)).toArray
            have hs := Step.wrote (cs' := rc) hr hb' hp hgb
            refine wp_of_skip (hrun a w _ _ hav hst) (hK undef (upd pl b (.cells g)) _ ?_ hs trivial)
            exact RelB.wrote hr hb' hp hgb ⟨_, setRow_heap w g _ _ t0 _ hh, s1.mono hs.ext⟩
          · cases hk
        · cases hk
      · rename_i b ver ix off hx
        split at hk
        · rename_i t0 e ver' l hb
          cases hver : Nat.beq ver ver' with
          | false => rw [hver] at hk; cases hk
          | true =>
            have := Nat.eq_of_beq_eq_true hver
            subst this
            simp only [hver, cond_true] at hk
            split at hk
            · rename_i rc hov
              split at hk
              · rename_i x' hpk
                refine ⟨_, _, _, hk, fun bl2 hb2 => ?_⟩
                have hb' : bl2 b = some (.row t0 e ver l) := (hb2 b (by simp)).trans hb
                intro ok0 base pl w a hr hxs K Q hK
                have hv := hxs x (by simp [ho, Op.operands])
                rw [hx] at hv
                obtain ⟨sv, svs, ad, hg, hav, hcur⟩ := hv
                obtain ⟨hi, g, n, c, hsv, rfl⟩ := (hcur t0 e ver l hb').2 rfl
                obtain ⟨p, hp, hB⟩ := hr.blks b _ hb'
                have : p = .row sv svs := by have h2 : pl b = some (.row sv svs) := hg; rw [hp] at h2; injection h2
                subst this
                obtain ⟨h0, xs, hd, hown⟩ := hB
                subst h0
                have hy := VRep.cells_of hnew (hxs y (by simp [ho, Op.operands]))
                obtain ⟨w', xs', hst, hgb, hd2, hown2⟩ := rowStore f (E := envOf ok0 base pl bl2 w) hr.blksOk hd hown hi hsv hy hlen' hov hpk
                have hbl : sv.ownBlock = some g := by rw [hsv]; rfl
                have hgb' : w.grownBy w' sv.ownBlock := by rw [hbl]; exact hgb
                have hs := Step.grown (l' := l.set ix x') hr hb' hp hgb' (.inl rfl) ⟨Nat.le_refl _, fun _ => ⟨rfl, by simp⟩⟩
                have hext := hs.ext (ok0 := ok0) (base := base)
                refine wp_of_skip (hrun a w _ _ hav hst) (hK undef (upd pl b (.row sv [])) _ ?_ hs trivial)
                exact RelB.grown hr hb' hp hgb' (.inl rfl) ⟨Nat.le_refl _, fun _ => ⟨rfl, by simp⟩⟩ ⟨rfl, xs', hd2.mono fun x u hu => hu.mono hext.heap, by rw [List.length_set]; exact hown2⟩
              · cases hk
            · cases hk
        · cases hk
      · -- an element of a row of a slice of slices
        rename_i b iver ix jx off hx
        split at hk
        · rename_i t0 et0 e ver iver' hole l hb
          cases hver : Nat.beq iver iver' with
          | false => rw [hver] at hk; cases hk
          | true =>
            have := Nat.eq_of_beq_eq_true hver
            subst this
            simp only [hver, cond_true] at hk
            split at hk
            · rename_i rc hov
              split at hk
              · rename_i x' hpk
                refine ⟨_, _, _, hk, fun bl2 hb2 => ?_⟩
                have hb' : bl2 b = some (.mat t0 et0 e ver iver hole l) := (hb2 b (by simp)).trans hb
                intro ok0 base pl w a hr hxs K Q hK
                have hv := hxs x (by simp [ho, Op.operands])
                rw [hx] at hv
                obtain ⟨sv, svs, ad, hg, hav, hcur⟩ := hv
                obtain ⟨s, xr, hlx, hs, hj, g, n, c, hsv, rfl⟩ := (hcur _ _ _ _ _ _ _ hb').2 rfl
                obtain ⟨p, hp, hB⟩ := hr.blks b _ hb'
                have : p = .row sv svs := by have h2 : pl b = some (.row sv svs) := hg; rw [hp] at h2; injection h2
                subst this
                have hM : MatOk _ t0 et0 e hole l sv svs := hB
                obtain ⟨xs, hd, hown⟩ := hM.inner ix s xr hs hlx
                have hgd : l.getD ix [] = xr := by simp [List.getD, hlx]
                rw [hgd] at hov hK
                have hy := VRep.cells_of hnew (hxs y (by simp [ho, Op.operands]))
                obtain ⟨w', xs', hst, hgb, hd2, hown2⟩ := rowStore f (E := envOf ok0 base pl bl2 w) hr.blksOk hd hown hj hsv hy hlen' hov hpk
                have hbl : s.ownBlock = some g := by rw [hsv]; rfl
                have hik : KeepR (some (.mat t0 et0 e ver iver hole l)) (some (.mat t0 et0 e ver iver hole (l.set ix (xr.set jx x')))) sv svs sv svs := by
                  refine KeepR.ofMat ⟨Nat.le_refl _, fun _ => ⟨rfl, by simp⟩⟩ ⟨Nat.le_refl _, fun _ => ⟨rfl, ?_⟩⟩
                  apply List.ext_getElem?
                  intro k
                  simp only [List.getElem?_map, List.getElem?_set]
                  split
                  · rename_i hk'
                    subst hk'
                    have hlt := (List.getElem?_eq_some_iff.1 hlx).1
                    simp [hlt, hlx]
                    have := (List.getElem?_eq_some_iff.1 hlx).2
                    rw [this]
                  · rfl
                have hog : ∀ g', some g = some g' → (Pl.row sv svs).has g' := fun g' h => by injection h with h; subst h; exact .inr ⟨ix, s, hs, hbl⟩
                have hst2 := Step.grownP hr hb' rfl hp hgb hog (fun g h => .inl h) hik
                have hext := hst2.ext (ok0 := ok0) (base := base)
                refine wp_of_skip (hrun a w _ _ hav hst) (hK undef (upd pl b (.row sv svs)) _ ?_ hst2 trivial)
                refine RelB.grownP hr hb' rfl hp hgb hog (fun g h => .inl h) hik ?_
                obtain ⟨vs, ho1, ho2⟩ := hM.outer
                have hsame : ∀ g', (Pl.row sv svs).has g' → g' ≠ g → w'.heap[g']? = w.heap[g']? := fun g' h hne => hgb.block g' (Own.lt hr ⟨b, _, _, hb', rfl, hp, h⟩) (fun h2 => hne (by injection h2))
                refine ⟨⟨vs, ?_, ho2⟩, by simp [hM.len], hM.hole, fun k s' x'' hks hkx => ?_, hM.sep0, hM.sep⟩
                · rw [List.length_set]
                  exact ownsRow_mono (Nat.le_refl _) (fun g' hg' => hsame g' (.inl hg') fun h => by subst h; exact hM.sep0 ix s g' hs hg' hbl) ho1
                · by_cases hki : k = ix
                  · subst hki
                    have hlt := (List.getElem?_eq_some_iff.1 hlx).1
                    rw [hs] at hks
                    injection hks with hks
                    injection hks with hks
                    subst hks
                    simp only [List.getElem?_set_self hlt, Option.some.injEq] at hkx
                    subst hkx
                    exact ⟨xs', hd2.mono fun x u hu => hu.mono hext.heap, by rw [List.length_set]; exact hown2⟩
                  · rw [List.getElem?_set_ne (fun h => hki h.symm)] at hkx
                    obtain ⟨ys, q1, q2⟩ := hM.inner k s' x'' hks hkx
                    exact ⟨ys, q1.mono fun x u hu => hu.mono hext.heap, ownsRow_mono (Nat.le_refl _) (fun g' hg' => hsame g' (.inr ⟨k, s', hks, hg'⟩) fun h => by subst h; exact hM.sep k ix s' s g' hki hks hs hg' hbl) q2⟩
              · cases hk
            · cases hk
        · cases hk
      · -- a row put into a slice of slices
        rename_i b ver ix hx
        split at hk
        · rename_i rr rv hyv
          split at hk
          · rename_i t0 et0 e ver' iver hole l et1 e1 rv' xr hb hbr
            cases hc : (Nat.beq ver ver' && (Nat.beq rv rv' && Nat.beq et0 et1)) with
            | false => rw [hc] at hk; cases hk
            | true =>
              simp only [hc, cond_true] at hk
              obtain ⟨c1, c23⟩ := andB hc
              obtain ⟨c2, c3⟩ := andB c23
              have := Nat.eq_of_beq_eq_true c1
              subst this
              have := Nat.eq_of_beq_eq_true c2
              subst this
              have := Nat.eq_of_beq_eq_true c3
              subst this
              split at hk
              · rename_i he
                subst he
                obtain ⟨hho, hk⟩ := given_some hk
                refine ⟨_, _, _, hk, fun bl2 hb2 => ?_⟩
                have hb' : bl2 b = some (.mat t0 et0 e1 ver iver hole l) := (hb2 b (by simp)).trans hb
                have hbr' : bl2 rr = some (.row et0 e1 rv xr) := (hb2 rr (by simp)).trans hbr
                intro ok0 base pl w a hr hxs K Q hK
                have hrb : rr ≠ b := by rintro rfl; rw [hb'] at hbr'; cases hbr'
                have hv := hxs x (by simp [ho, Op.operands])
                rw [hx] at hv
                obtain ⟨sv, svs, ad, hg, hav, hcur⟩ := hv
                obtain ⟨hi, g, n, c, hsv, rfl⟩ := (hcur _ _ _ _ _ _ _ hb').2 rfl
                have hvy := hxs y (by simp [ho, Op.operands])
                have hy := VRep.cells_of hnew hvy
                rw [hyv] at hvy
                obtain ⟨h1y, sr, svr, hpr, hcr⟩ := hvy
                have hyr := (hcr _ _ _ _ hbr').2 rfl
                have hpr : pl rr = some (.row sr svr) := hpr
                obtain ⟨p, hp, hB⟩ := hr.blks b _ hb'
                have : p = .row sv svs := by have h2 : pl b = some (.row sv svs) := hg; rw [hp] at h2; injection h2
                subst this
                obtain ⟨pr, hpr', hBr⟩ := hr.blks rr _ hbr'
                have : pr = .row sr svr := by rw [hpr] at hpr'; injection hpr' with h; exact h.symm
                subst this
                obtain ⟨h0, xs, hd, hown⟩ := hBr
                subst h0
                have hM : MatOk _ t0 et0 e1 hole l sv svs := hB
                obtain ⟨vs, ho1, ho2⟩ := hM.outer
                have hcy : (a.eval y).cells.toList = [a.eval y] := by
                  rw [hyr]
                  rcases hown.2 with ⟨h, _⟩ | ⟨g, cap, cur, h, _⟩ <;> rw [h] <;> rfl
                have hvl : vs.length = l.length := by rw [ho1.1, Nat.mul_one]
                have hly := hy.length
                obtain ⟨w', hst, hgb, hown'⟩ := rawStore f ho1 (o := ix) hsv (v := a.eval y) hy.oneCell (by omega) (by rw [hcy]; simp; omega)
                rw [hcy] at hown'
                have hset : vs.take ix ++ [a.eval y] ++ vs.drop (ix + 1) = vs.set ix sr := by
                  rw [hyr, List.set_eq_take_append_cons_drop, if_pos (by omega)]
                  simp
                have hown2 : w'.ownsRow base t0 1 sv (l.set ix xr).length (vs.set ix sr) := by
                  have hown' : w'.ownsRow base t0 1 sv l.length (vs.take ix ++ [a.eval y] ++ vs.drop (ix + [a.eval y].length)) := hown'
                  rw [List.length_set, ← hset]
                  simpa using hown'
                have hbl : sv.ownBlock = some g := by rw [hsv]; rfl
                have hi2 : ix < svs.length := by rw [hM.len]; exact hi
                have hown_b : ∀ g', (Pl.row sv svs).has g' → OwnAt pl bl2 b g' := fun g' h => ⟨_, _, hb', rfl, hp, h⟩
                have hown_r : ∀ g', sr.ownBlock = some g' → OwnAt pl bl2 rr g' := fun g' h => ⟨_, _, hbr', rfl, hpr, .inl h⟩
                have hsepr : ∀ g', sr.ownBlock = some g' → ¬ (Pl.row sv svs).has g' := fun g' h h2 => hr.sep rr b _ _ _ _ g' hrb hbr' hb' rfl rfl hpr hp (.inl h) h2
                have hsvs : ∀ (k : Nat) (s : Value), (svs.set ix (some sr))[k]? = some (some s) → (k = ix ∧ s = sr) ∨ (k ≠ ix ∧ svs[k]? = some (some s)) := fun k s h => by
                  by_cases hki : k = ix
                  · subst hki
                    rw [List.getElem?_set_self hi2] at h
                    injection h with h
                    injection h with h
                    exact .inl ⟨rfl, h.symm⟩
                  · rw [List.getElem?_set_ne (fun h => hki h.symm)] at h
                    exact .inr ⟨hki, h⟩
                have hnewhas : ∀ g', (Pl.row sv (svs.set ix (some sr))).has g' → OwnAt pl bl2 rr g' ∨ OwnAt pl bl2 b g' ∨ w.heap.size ≤ g' := fun g' h => by
                  rcases h with h | ⟨k, s, hks, h⟩
                  · exact .inr (.inl (hown_b g' (.inl h)))
                  · rcases hsvs k s hks with ⟨_, rfl⟩ | ⟨_, hks⟩
                    · exact .inl (hown_r g' h)
                    · exact .inr (.inl (hown_b g' (.inr ⟨k, s, hks, h⟩)))
                have hog : ∀ g', some g = some g' → OwnAt pl bl2 rr g' ∨ OwnAt pl bl2 b g' := fun g' h => by injection h with h; subst h; exact .inr (hown_b _ (.inl hbl))
                have hstep : Step pl bl2 w (upd (upd pl rr (.row sr [])) b (.row sv (svs.set ix (some sr)))) (upd (upd bl2 rr .dead) b (.mat t0 et0 e1 ver (iver + 1) none (l.set ix xr))) w' := by
                  refine Step.two hr hrb hgb hog (fun g' h => by cases h) (fun g' _ h => hnewhas g' h) (fun g' h => by rw [hpr] at h; cases h) (fun g' h => by rw [hp] at h; cases h) (fun sv0 svs0 h => ?_) (fun sv0 svs0 h => ?_)
                  · rw [hpr] at h
                    injection h with h
                    injection h with h h2
                    subst h h2
                    exact ⟨_, _, rfl, KeepR.ofDead⟩
                  · rw [hp] at h
                    injection h with h
                    injection h with h h2
                    subst h h2
                    refine ⟨_, _, rfl, ?_⟩
                    rw [hb']
                    exact KeepR.ofMat ⟨Nat.le_refl _, fun _ => ⟨rfl, by simp⟩⟩ ⟨by omega, fun h => by omega⟩
                have hext := hstep.ext (ok0 := ok0) (base := base)
                refine wp_of_skip (hrun a w _ _ hav hst) (hK undef (upd (upd pl rr (.row sr [])) b (.row sv (svs.set ix (some sr)))) _ ?_ hstep trivial)
                have hsame : ∀ g', g' ≠ g → g' < w.heap.size → w'.heap[g']? = w.heap[g']? := fun g' hne hlt => hgb.block g' hlt (fun h2 => hne (by injection h2))
                refine RelB.two hr hrb hgb hog (fun g' h => by cases h) (fun g' _ h => hnewhas g' h) (fun g' h => by cases h) hstep trivial ?_
                refine ⟨⟨vs.set ix sr, hown2, fun k s hks => ?_⟩, by simp [hM.len], fun k hk => ?_, fun k s xx hks hkx => ?_, fun k s g' hks h => ?_, fun k j s s' g' hkj hks hjs h => ?_⟩
                · rcases hsvs k s hks with ⟨rfl, rfl⟩ | ⟨hki, hks⟩
                  · rw [List.getElem?_set_self (by omega)]
                  · rw [List.getElem?_set_ne (fun h => hki h.symm)]
                    exact ho2 k s hks
                · exfalso
                  by_cases hki : k = ix
                  · subst hki
                    rw [List.getElem?_set_self hi2] at hk
                    injection hk with hk
                    cases hk
                  · rw [List.getElem?_set_ne (fun h => hki h.symm)] at hk
                    have hh := hM.hole k hk
                    subst hh
                    have : ix = k := of_decide_eq_true hho
                    exact hki this.symm
                · rcases hsvs k s hks with ⟨rfl, rfl⟩ | ⟨hki, hks⟩
                  · rw [List.getElem?_set_self hi] at hkx
                    injection hkx with hkx
                    subst hkx
                    refine ⟨xs, hd.mono fun x u hu => hu.mono hext.heap, ownsRow_mono (Nat.le_refl _) (fun g' hg' => ?_) hown⟩
                    refine hsame g' (fun h => ?_) (Own.lt hr ⟨rr, _, _, hbr', rfl, hpr, .inl hg'⟩)
                    subst h
                    exact hsepr _ hg' (.inl hbl)
                  · rw [List.getElem?_set_ne (fun h => hki h.symm)] at hkx
                    obtain ⟨ys, q1, q2⟩ := hM.inner k s xx hks hkx
                    refine ⟨ys, q1.mono fun x u hu => hu.mono hext.heap, ownsRow_mono (Nat.le_refl _) (fun g' hg' => ?_) q2⟩
                    refine hsame g' (fun h => ?_) (Own.lt hr ⟨b, _, _, hb', rfl, hp, .inr ⟨k, s, hks, hg'⟩⟩)
                    subst h
                    exact hM.sep0 k s _ hks hbl hg'
                · rcases hsvs k s hks with ⟨rfl, rfl⟩ | ⟨hki, hks⟩
                  · exact fun h2 => hsepr g' h2 (.inl h)
                  · exact hM.sep0 k s g' hks h
                · rcases hsvs k s hks with ⟨e1, e2⟩ | ⟨hki, hks1⟩
                  · rcases hsvs j s' hjs with ⟨e3, e4⟩ | ⟨hji, hjs1⟩
                    · exact absurd (e1.trans e3.symm) hkj
                    · exact fun h2 => hsepr g' (by rw [← e2]; exact h) (.inr ⟨j, s', hjs1, h2⟩)
                  · rcases hsvs j s' hjs with ⟨e3, e4⟩ | ⟨hji, hjs1⟩
                    · exact fun h2 => hsepr g' (by rw [← e4]; exact h2) (.inr ⟨k, s, hks1, h⟩)
                    · exact hM.sep k j s s' g' hkj hks1 hjs1 h
              · cases hk
          · cases hk
        · cases hk
      · cases hk
  · cases hk
end
end Go.Lift
