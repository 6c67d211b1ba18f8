/- The lifter, part J: struct and slice literals, make, and what is small. -/
import Derived.Test.YtamnjokpncjbfaaLiftI
namespace Go.Lift
open Go.RowKit

theorem foldl_set (off : Nat) : ∀ (vs : List Value) (k : Nat) (cs : Array Value), off + k + vs.length ≤ cs.size →
    ((vs.zipIdx k).foldl (fun (cs : Array Value) (p : Value × Nat) => cs.setIfInBounds (off + p.2) p.1) cs).toList = cs.toList.take (off + k) ++ vs ++ cs.toList.drop (off + k + vs.length)
  | [], k, cs, h => by simp
  | v :: vs, k, cs, h => by
    simp only [List.zipIdx_cons, List.foldl_cons]
    simp only [List.length_cons] at h
    rw [foldl_set off vs (k + 1) _ (by simp; omega)]
    have e := list_seg_step cs.toList (off + k) v vs (by simp; omega)
    simpa [Array.toList_setIfInBounds, Nat.add_assoc] using e

theorem fill_step (off : Nat) (v : Value) (cs : Array Value) (h : off + v.cells.toList.length ≤ cs.size) :
    (v.cells.zipIdx.foldl (fun cs (c, j) => cs.setIfInBounds (off + j) c) cs) = (cs.toList.take off ++ v.cells.toList ++ cs.toList.drop (off + v.cells.toList.length)).toArray := by
  apply Array.ext'
  have h1 := foldl_set off v.cells.toList 0 cs (by simpa using h)
  simp only [Nat.add_zero] at h1
  rw [← Array.foldl_toList]
  simpa using h1

section
variable {P : Program} {o : Oper} {ρ : Operand → V} {bl : Nat → Option Blk} {β : Type} {r : β}

/-- The parts of a literal, filled in. -/
theorem fill_rep {E : Env} {T : TypeId → Option TI} (place : Nat → Option (Nat × Nat)) (ti : TI)
    (hplace : ∀ i v cs0 rest ps, placed ti T ((i, v) :: rest) = some ps → v.cells = some cs0 → ∃ off, place i = some (off, cs0.length) ∧ ∃ ps', placed ti T rest = some ps' ∧ ps = (off, cs0) :: ps') :
    ∀ (parts : List (Nat × V)) (vals : List (Nat × Value)) (ps : List (Nat × List C)) (cs cs' : List C) (vs : List Value),
      placed ti T parts = some ps → vals.map (·.1) = parts.map (·.1) → (∀ (j : Nat) (p : Nat × V) (q : Nat × Value), parts[j]? = some p → vals[j]? = some q → VRep E p.2 q.2) → CReps E cs vs → fillC cs ps = some cs' →
      ∃ us, Instr.fill place vs.toArray vals = some us.toArray ∧ CReps E cs' us := by
  intro parts
  induction parts with
  | nil =>
    intro vals ps cs cs' vs hp hm hv hc hf
    simp only [placed, Option.some.injEq] at hp
    subst hp
    simp only [fillC, Option.some.injEq] at hf
    subst hf
    cases vals with
    | nil => exact ⟨vs, rfl, hc⟩
    | cons q vals => simp at hm
  | cons p parts ih =>
    intro vals ps cs cs' vs hp hm hv hc hf
    obtain ⟨i, v⟩ := p
    cases vals with
    | nil => simp at hm
    | cons q vals =>
      obtain ⟨i', x⟩ := q
      simp only [List.map_cons, List.cons.injEq] at hm
      obtain ⟨hi, hm⟩ := hm
      have hi : i' = i := hi
      subst hi
      have hvc : ∃ cs0, v.cells = some cs0 := by
        simp only [placed] at hp
        cases hvc : v.cells with
        | some cs0 => exact ⟨cs0, rfl⟩
        | none => rw [hvc] at hp; simp at hp
      obtain ⟨cs0, hvc⟩ := hvc
      obtain ⟨off, h1, ps', h2, rfl⟩ := hplace i' v cs0 parts ps hp hvc
      simp only [fillC] at hf
      split at hf
      · rename_i cs1 hov
        have hx := VRep.cells_of hvc (hv 0 _ _ rfl rfl)
        have hxl := hx.length
        obtain ⟨s1, s2⟩ := over_rep hc hx hov
        obtain ⟨us, h3, h4⟩ := ih vals ps' cs1 cs' _ h2 hm (fun j p q hp hq => hv (j + 1) p q (by simpa using hp) (by simpa using hq)) s1 hf
        refine ⟨us, ?_, h4⟩
        simp only at hxl s2 h3
        have hsz : x.cells.size = cs0.length := by simpa using hxl
        have hsz2 : ¬ (off + x.cells.size > vs.toArray.size) := by simp at s2 ⊢; omega
        simp only [Instr.fill, h1]
        rw [if_neg (by simp only [hsz, ne_eq, not_true_eq_false, decide_false, Bool.false_or, decide_eq_true_eq]; rw [← hsz]; exact hsz2), fill_step off x vs.toArray (by simpa using s2)]
        exact h3
      · cases hf

theorem mapM_places (fs : List Field) (hk : fs.all (fun f => (P.info? f.type).isSome && (P.underlying f.type).isSome) = true) (w : World) :
    (fs.mapM fun f => (do pure (f.offset, ← sizeOf f.type) : Sem (Nat × Nat))).run P w = .ok (fs.map fun f => (f.offset, P.cellsOf f.type)) w := by
  induction fs with
  | nil => rfl
  | cons f fs ih =>
    simp only [List.all_cons, Bool.and_eq_true] at hk
    obtain ⟨⟨h1, _⟩, h2⟩ := hk
    obtain ⟨i, hi⟩ := Option.isSome_iff_exists.1 h1
    have hs : (sizeOf f.type).run P w = .ok (P.cellsOf f.type) w := by simp [sizeOf, typeInfo, hi, Program.cellsOf]
    simp only [List.mapM_cons, Sem.run_bind, hs, Result.andThen_ok, Sem.run_pure, ih (by simpa using h2), List.map_cons]

theorem placed_struct {ti : TI} {T : TypeId → Option TI} (hlen : ti.len = none) {i : Nat} {v : V} {cs0 : List C} {rest : List (Nat × V)} {ps : List (Nat × List C)} (h : placed ti T ((i, v) :: rest) = some ps) (hv : v.cells = some cs0) :
    ∃ off g, ti.flds[i]? = some (off, cs0.length, g) ∧ ∃ ps', placed ti T rest = some ps' ∧ ps = (off, cs0) :: ps' := by
  simp only [placed, hv, hlen] at h
  split at h
  · rename_i cs1 rest' he hr
    simp only [Option.some.injEq] at he
    subst he
    split at h
    · rename_i off n g hf
      cases hb : Nat.beq cs0.length n with
      | false => rw [hb] at h; cases h
      | true =>
        have := Nat.eq_of_beq_eq_true hb
        subst this
        simp only [hb, cond_true, Option.some.injEq] at h
        exact ⟨off, g, hf, rest', hr, h.symm⟩
    · cases h
  · cases h

theorem placed_array {ti : TI} {T : TypeId → Option TI} {n : Nat} {e : TypeId} {te : TI} (hlen : ti.len = some n) (hel : ti.elem = some e) (hte : T e = some te) {i : Nat} {v : V} {cs0 : List C} {rest : List (Nat × V)} {ps : List (Nat × List C)} (h : placed ti T ((i, v) :: rest) = some ps) (hv : v.cells = some cs0) :
    cs0.length = te.size ∧ ∃ ps', placed ti T rest = some ps' ∧ ps = (i * te.size, cs0) :: ps' := by
  simp only [placed, hv, hlen, hel, hte] at h
  split at h
  · rename_i cs1 rest' he hr
    simp only [Option.some.injEq] at he
    subst he
    cases hb : Nat.beq cs0.length te.size with
    | false => rw [hb] at h; cases h
    | true =>
      simp only [hb, cond_true, Option.some.injEq] at h
      exact ⟨Nat.eq_of_beq_eq_true hb, rest', hr, h.symm⟩
  · cases h

theorem sound_build {T : TypeId → Option TI} (hT : TOk P T) {kk : K β} {t : TypeId} {parts : Array (Nat × Operand)} (ho : o.op = .build t parts) {ti : TI} (ht : T t = some ti) (hagg : ti.agg = true) {ps : List (Nat × List C)}
    (hp : placed ti T (parts.toList.map fun p => (p.1, ρ p.2)) = some ps) {cs : List C} (hf : fillC ti.zero ps = some cs) (hk : kk (.agg cs) [] [] = some r) : Sound P o ρ bl kk r := by
  obtain ⟨i, d, z, f⟩ := hT.facts ht
  have hu := f.under
  refine Sound.pure hk fun bl2 _ ok0 base pl w a hr hxs => ?_
  have hzero : CReps (envOf ok0 base pl bl2 w) ti.zero z.cells.toList := by rw [f.zeroC]; exact zeroCs_rep f.one
  have hvals : ∀ (j : Nat) (p : Nat × V) (q : Nat × Value), (parts.toList.map fun p => (p.1, ρ p.2))[j]? = some p → (parts.toList.map fun p => (p.1, a.eval p.2))[j]? = some q → VRep (envOf ok0 base pl bl2 w) p.2 q.2 := by
    intro j p q h1 h2
    rw [List.getElem?_map] at h1 h2
    cases hj : parts.toList[j]? with
    | none => rw [hj] at h1; cases h1
    | some x =>
      rw [hj] at h1 h2
      simp only [Option.map_some, Option.some.injEq] at h1 h2
      subst h1 h2
      exact hxs x.2 (by simp only [ho, Op.operands]; exact List.mem_toArray.2 (List.mem_map.2 ⟨x, List.mem_of_getElem? hj, rfl⟩))
  have hmap : (parts.toList.map fun p => (p.1, a.eval p.2)).map (·.1) = (parts.toList.map fun p => (p.1, ρ p.2)).map (·.1) := by simp
  rw [f.agg] at hagg
  unfold aggOf at hagg
  rw [hu] at hagg
  cases d <;> try (simp at hagg; done)
  · -- an array
    rename_i n e
    have hel : ti.elem = some e := by rw [f.elem]; rfl
    have hlen : ti.len = some n := by rw [f.alen]; rfl
    have hkn := f.known
    simp only [knownD, Bool.and_eq_true] at hkn
    obtain ⟨ie, hie⟩ := Option.isSome_iff_exists.1 hkn.1
    have hsz : (sizeOf e).run P w = .ok ie.size w := by simp [sizeOf, typeInfo, hie]
    cases hparts : (parts.toList.map fun p => (p.1, ρ p.2)) with
    | nil =>
      rw [hparts] at hp
      simp only [placed, Option.some.injEq] at hp
      subst hp
      simp only [fillC, Option.some.injEq] at hf
      subst hf
      have hemp : parts.toList = [] := by simpa using hparts
      have hpe : parts = #[] := by simpa using hemp
      exact ⟨.agg z.cells, by simp [execOp, ho, Instr.build, zeroValue, typeInfo, f.info, f.zero, run_underlying hu, hsz, hpe, Instr.fill], z.cells.toList, hzero, by simp⟩
    | cons p0 rest =>
      have hte : ∃ te, T e = some te := by
        rw [hparts] at hp
        obtain ⟨i0, v0⟩ := p0
        simp only [placed, hlen, hel] at hp
        cases hte : T e with
        | some te => exact ⟨te, rfl⟩
        | none => rw [hte] at hp; split at hp <;> simp at hp
      obtain ⟨te, hte⟩ := hte
      obtain ⟨i', d', z', fe⟩ := hT.facts hte
      have hes : ie.size = te.size := by
        have h1 := fe.info
        rw [hie] at h1
        injection h1 with h1
        rw [fe.size, h1]
      obtain ⟨us, h1, h2⟩ := fill_rep (T := T) (E := envOf ok0 base pl bl2 w) (fun i => some (i * ie.size, ie.size)) ti
        (fun i v cs0 rest ps h hv => by
          obtain ⟨h1, ps', h2, h3⟩ := placed_array hlen hel hte h hv
          exact ⟨i * te.size, by rw [hes, h1], ps', h2, h3⟩) _ _ _ _ _ _ hp hmap hvals hzero hf
      refine ⟨.agg us.toArray, ?_, us, h2, by simp⟩
      simp only [Array.toArray_toList] at h1
      simp [execOp, ho, Instr.build, zeroValue, typeInfo, f.info, f.zero, run_underlying hu, hsz, h1]
  · -- a struct
    rename_i fs
    have hlen : ti.len = none := by rw [f.alen]; rfl
    have hkn := f.known
    simp only [knownD] at hkn
    have hpl := mapM_places (P := P) fs.toList hkn w
    have hpl' : (fs.mapM fun f => (do pure (f.offset, ← sizeOf f.type) : Sem (Nat × Nat))).run P w = .ok (fs.toList.map fun f => (f.offset, P.cellsOf f.type)).toArray w := by
      rw [Array.mapM_eq_mapM_toList, Sem.run_map, hpl]
      rfl
    obtain ⟨us, h1, h2⟩ := fill_rep (T := T) (E := envOf ok0 base pl bl2 w) ((fs.toList.map fun f => (f.offset, P.cellsOf f.type)).toArray[·]?) ti
      (fun i v cs0 rest ps h hv => by
        obtain ⟨off, g, h1, ps', h2, h3⟩ := placed_struct hlen h hv
        refine ⟨off, ?_, ps', h2, h3⟩
        rw [f.flds] at h1
        simp only [fldsD, List.getElem?_map] at h1
        simp only [List.getElem?_toArray, List.getElem?_map]
        cases hfi : fs.toList[i]? with
        | none => rw [hfi] at h1; cases h1
        | some fd =>
          rw [hfi] at h1
          simp only [Option.map_some, Option.some.injEq, Prod.mk.injEq] at h1 ⊢
          exact ⟨h1.1, h1.2.1⟩) _ _ _ _ _ _ hp hmap hvals hzero hf
    refine ⟨.agg us.toArray, ?_, us, h2, by simp⟩
    have hpl2 : (fs.mapM fun f => Prod.mk f.offset <$> sizeOf f.type : Sem (Array (Nat × Nat))).run P w = .ok (fs.toList.map fun f => (f.offset, P.cellsOf f.type)).toArray w := by
      simpa only [map_eq_pure_bind] using hpl'
    simp only [Array.toArray_toList] at h1
    simp only [execOp, ho, Instr.build, zeroValue, typeInfo, f.info, f.zero, run_underlying hu, Sem.run_bind, run_program, Result.andThen_ok, Sem.run_pure, hpl', Array.toList_map, h1]

/-! ### Rows that are made -/
def repL (n : Nat) (l : List Value) : List Value :=
  match n with
  | 0 => []
  | n + 1 => l ++ repL n l

theorem repL_comm (l : List Value) : ∀ n, repL n l ++ l = l ++ repL n l
  | 0 => by simp [repL]
  | n + 1 => by simp only [repL, List.append_assoc]; rw [repL_comm l n]

theorem repC_rep {E : Env} {cs : List C} {vs : List Value} (h : CReps E cs vs) : ∀ n, CReps E (repC n cs) (repL n vs)
  | 0 => rfl
  | n + 1 => h.append (repC_rep h n)

theorem length_repL (l : List Value) : ∀ n, (repL n l).length = n * l.length
  | 0 => by simp [repL]
  | n + 1 => by simp [repL, length_repL l n, Nat.succ_mul, Nat.add_comm]

theorem made_repL (z : Array Value) (hz : 0 < z.size) : ∀ n, (madeCells z (n * z.size)).toList = repL n z.toList
  | 0 => by simp [madeCells, repL]
  | n + 1 => by
    have ih := made_repL z hz n
    have e : (madeCells z ((n + 1) * z.size)).toList = (madeCells z (n * z.size)).toList ++ z.toList := by
      simp only [madeCells, Array.toList_map, Array.toList_range, Nat.succ_mul, List.range_add, List.map_append]
      congr 1
      apply List.ext_getElem?
      intro j
      simp only [List.getElem?_map, List.map_map]
      by_cases hj : j < z.size
      · rw [List.getElem?_range hj]
        have hm : (n * z.size + j) % z.size = j := by rw [Nat.mul_comm, Nat.mul_add_mod, Nat.mod_eq_of_lt hj]
        simp [hm, hj]
      · have h1 : (List.range z.size)[j]? = none := by simp; omega
        rw [h1]
        simp
        omega
    rw [e, ih, repL_comm]
    rfl

theorem DList.rep {w : World} {ok : Nat → Prop} {e : Ty} {x : e.den} {vs : List Value} (h : DRep w ok e x vs) : ∀ n, DList (fun x u => DRep w ok e x u) (List.replicate n x) (repL n vs)
  | 0 => rfl
  | n + 1 => ⟨vs, repL n vs, rfl, h, DList.rep h n⟩

/-- A new row whose cells are there. -/
theorem sound_newRow {kk : K β} {nx : Nat} {et : TypeId} {e : Ty} {l : List e.den} (hn : bl nx = none) (hk : kk (.c (.row nx 0)) [nx] [(nx, .row et e 0 l)] = some r) (hlm : l.length ≤ maxLen)
    (hrun : ∀ (bl2 : Nat → Option Blk) (ok0 : Nat → Prop) (base : Nat) (pl : Nat → Option Pl) (w : World) (a : Act), RelB ok0 base pl bl2 w → (∀ x ∈ o.op.operands, VRep (envOf ok0 base pl bl2 w) (ρ x) (a.eval x)) →
      ∃ us : List Value, (execOp a.eval o).run P w = .ok (.value (.slice (some ⟨w.heap.size, 0, none⟩) l.length l.length)) (w.alloc (.cells us.toArray et)) ∧ DList (fun x u => DRep w (envOf ok0 base pl bl2 w).ok e x u) l us) : Sound P o ρ bl kk r := by
  refine ⟨_, _, _, hk, fun bl2 hb => ?_⟩
  have hn2 : bl2 nx = none := (hb nx (by simp)).trans hn
  intro ok0 base pl w a hr hx K Q hK
  obtain ⟨us, h1, h2⟩ := hrun bl2 ok0 base pl w a hr hx
  have hg : w.grownBy (w.alloc (.cells us.toArray et)) none := World.grownBy_alloc w _ none
  have hp : ∀ g, (Pl.row (.slice (some ⟨w.heap.size, 0, none⟩) l.length l.length) []).has g → w.heap.size ≤ g := by
    intro g hgg
    have hgg := Pl.has_row hgg
    simp only [Value.ownBlock, Option.some.injEq] at hgg
    exact Nat.le_of_eq hgg
  have hs : Step pl bl2 w (upd pl nx (.row (.slice (some ⟨w.heap.size, 0, none⟩) l.length l.length) [])) (upd bl2 nx (.row et e 0 l)) (w.alloc (.cells us.toArray et)) := Step.new hr hn2 hg hp
  refine wp_of_value h1 (hK _ (upd pl nx (.row (.slice (some ⟨w.heap.size, 0, none⟩) l.length l.length) [])) _ ?_ hs ?_)
  · refine RelB.new hr hn2 hg hp ⟨rfl, us, h2.mono fun x u hu => hu.mono hs.ext.heap, ?_⟩
    have hl := h2.length
    exact ⟨hl, .inr ⟨w.heap.size, l.length, us.toArray, rfl, hr.baseLe, heap_alloc_new w _, Nat.le_refl _, hlm, by simpa using hl, by rw [← hl]; simp⟩⟩
  · refine ⟨rfl, .slice (some ⟨w.heap.size, 0, none⟩) l.length l.length, [], by simp [envOf, upd], fun t1 e1 ver1 l1 h1 => ?_⟩
    simp only [envOf, updL, upd, if_true, Option.some.injEq] at h1
    injection h1 with q1 q2 q3 q4
    subst q3
    exact ⟨Nat.le_refl _, fun _ => rfl⟩

theorem sound_buildSlice {T : TypeId → Option TI} (hT : TOk P T) {kk : K β} {nx : Nat} {t : TypeId} {n : Nat} {parts : Array (Nat × Operand)} (ho : o.op = .buildSlice t n parts)
    (hk : buildSliceRun T bl nx t n (parts.toList.map fun p => (p.1, ρ p.2)) kk = some r) : Sound P o ρ bl kk r := by
  unfold buildSliceRun at hk
  split at hk
  · cases hk
  rename_i ti ht
  obtain ⟨i, d, z, f⟩ := hT.facts ht
  split at hk
  · rename_i et hel hal
    have hd := slice_type f hel hal
    subst hd
    have hu := f.under
    split at hk
    · cases hk
    rename_i te hte
    obtain ⟨i', d', z', fe⟩ := hT.facts hte
    split at hk
    · cases hk
    rename_i e hety
    cases hs : (Nat.beq e.size te.size && (Nat.ble (n * te.size) 16777216 && Nat.blt 0 te.size)) with
    | false => rw [hs] at hk; cases hk
    | true =>
      obtain ⟨hs1, hs23⟩ := andB hs
      obtain ⟨hs2, hs3⟩ := andB hs23
      have hs1 := Nat.eq_of_beq_eq_true hs1
      have hs2 := Nat.le_of_ble_eq_true hs2
      have hs3 := blt_lt hs3
      simp only [hs, cond_true] at hk
      split at hk
      · cases hk
      rename_i ps hps
      split at hk
      · cases hk
      rename_i cs hcs
      split at hk
      · rename_i l hl hn
        have hll : l.length = n := by
          have : ∀ {m : Nat} {cs : List C} {l : List e.den}, packs (fun _ => none) e m cs = some l → l.length = m := by
            intro m
            induction m with
            | zero =>
              intro cs l h
              cases cs with
              | nil => simp only [packs, Option.some.injEq] at h; subst h; rfl
              | cons c cs => simp [packs] at h
            | succ m ih =>
              intro cs l h
              simp only [packs] at h
              split at h
              · split at h
                · rename_i l' hl'
                  simp only [Option.some.injEq] at h
                  subst h
                  simp [ih hl']
                · cases h
              · cases h
          exact this hl
        have hnm : n ≤ n * te.size := Nat.le_mul_of_pos_right _ hs3
        refine sound_newRow hn hk (by simp only [maxLen]; omega) fun bl2 ok0 base pl w a hr hxs => ?_
        have hzl : z'.cells.size = te.size := by
          have := fe.len
          rw [Array.length_toList] at this
          rw [this, fe.size]
        have hzero : CReps (envOf ok0 base pl bl2 w) (repC n te.zero) (repL n z'.cells.toList) := repC_rep (by rw [fe.zeroC]; exact zeroCs_rep fe.one) n
        have hvals : ∀ (j : Nat) (p : Nat × V) (q : Nat × Value), (parts.toList.map fun p => (p.1, ρ p.2))[j]? = some p → (parts.toList.map fun p => (p.1, a.eval p.2))[j]? = some q → VRep (envOf ok0 base pl bl2 w) p.2 q.2 := by
          intro j p q h1 h2
          rw [List.getElem?_map] at h1 h2
          cases hj : parts.toList[j]? with
          | none => rw [hj] at h1; cases h1
          | some x =>
            rw [hj] at h1 h2
            simp only [Option.map_some, Option.some.injEq] at h1 h2
            subst h1 h2
            exact hxs x.2 (by simp only [ho, Op.operands]; exact List.mem_toArray.2 (List.mem_map.2 ⟨x, List.mem_of_getElem? hj, rfl⟩))
        have hmap : (parts.toList.map fun p => (p.1, a.eval p.2)).map (·.1) = (parts.toList.map fun p => (p.1, ρ p.2)).map (·.1) := by simp
        obtain ⟨us, h1, h2⟩ := fill_rep (T := T) (E := envOf ok0 base pl bl2 w) (fun i => some (i * te.size, te.size)) _
          (fun i v cs0 rest ps h hv => by
            obtain ⟨h1, ps', h2, h3⟩ := placed_array (ti := { te with elem := some et, len := some n }) rfl rfl hte h hv
            exact ⟨i * te.size, by rw [h1], ps', h2, h3⟩) _ _ _ _ _ _ hps hmap hvals hzero hcs
        obtain ⟨d1, d2⟩ := packs_rep hr.blksOk (Rows.none _ _) h2 hl
        refine ⟨us, ?_, d1⟩
        have hmade : (madeCells z'.cells (n * te.size)) = (repL n z'.cells.toList).toArray := by
          apply Array.ext'
          rw [← hzl, made_repL _ (by omega)]
        have hnot : ¬ (n * te.size > 2 ^ 24) := by omega
        rw [hll]
        by_cases hz0 : n * te.size = 0
        · have hn0 : n = 0 := by
            rcases Nat.mul_eq_zero.1 hz0 with h | h
            · exact h
            · omega
          subst hn0
          simp only [repL] at h1
          have e0 : ∀ g : Nat → Value, (Array.range 0).map g = #[] := fun g => by apply Array.ext'; simp
          have h0 : ¬ ((0 : Nat) > 2 ^ 24) := by decide
          simp only [execOp, ho, Instr.buildSlice, run_underlying hu, run_sizeOf fe, Sem.run_bind, Result.andThen_ok, hz0, h0, if_false, Sem.run_pure, if_true, e0, Array.toList_map, h1, newRow, run_newObj]
          rfl
        · have hz1 : ∀ (k : Nat), (Array.range (n * te.size)).map (fun x => z'.cells[x % z'.cells.size]!) = (repL n z'.cells.toList).toArray := fun _ => hmade
          simp only [execOp, ho, Instr.buildSlice, run_underlying hu, run_sizeOf fe, Sem.run_bind, Result.andThen_ok, hnot, if_false, Sem.run_pure, hz0, zeroValue, typeInfo, run_program, fe.info, fe.zero, hz1 0, Array.toList_map, h1, newRow, run_newObj]
          rfl
      · cases hk
  · cases hk

theorem sound_make {T : TypeId → Option TI} (hT : TOk P T) {kk : K β} {nx : Nat} {t : TypeId} {x y : Operand} (ho : o.op = .makeSlice t x y) (hk : makeRun T bl nx t (ρ x) (ρ y) kk = some r) : Sound P o ρ bl kk r := by
  have hx0 : x ∈ o.op.operands := by simp [ho, Op.operands]
  have hy0 : y ∈ o.op.operands := by simp [ho, Op.operands]
  unfold makeRun at hk
  split at hk
  · rename_i ti ki i kj j ht hi hj
    obtain ⟨inf, d, z, f⟩ := hT.facts ht
    split at hk
    · rename_i et hel hal
      have hd := slice_type f hel hal
      subst hd
      have hu := f.under
      split at hk
      · cases hk
      rename_i te hte
      obtain ⟨i', d', z', fe⟩ := hT.facts hte
      split at hk
      · cases hk
      rename_i e hety
      split at hk
      · rename_i z0 hz0 hn
        cases hs : (Nat.beq e.size te.size && Nat.blt 0 te.size) with
        | false => rw [hs] at hk; cases hk
        | true =>
          obtain ⟨hs1, hs2⟩ := andB hs
          have hs1 := Nat.eq_of_beq_eq_true hs1
          have hs2 := blt_lt hs2
          simp only [hs, cond_true] at hk
          obtain ⟨hc, hk2⟩ := given_some hk
          clear hk
          obtain ⟨c1, hc⟩ := andB hc
          obtain ⟨c2, hc⟩ := andB hc
          obtain ⟨c3, c4⟩ := andB hc
          have c1 := of_decide_eq_true c1
          have c2 := of_decide_eq_true c2
          have c3 := of_decide_eq_true c3
          have c4 := of_decide_eq_true c4
          subst c2
          refine sound_newRow hn hk2 (by simp only [List.length_replicate, maxLen]; omega) fun bl2 ok0 base pl w a hr hxs => ?_
          have hx := hxs x hx0
          have hy := hxs y hy0
          rw [ival_some hi] at hx
          rw [ival_some hj] at hy
          have hx' : a.eval x = .int ki i := hx
          have hy' : a.eval y = .int kj i := hy
          have hzl : z'.cells.size = te.size := by
            have := fe.len
            rw [Array.length_toList] at this
            rw [this, fe.size]
          have hzr : DRep w (envOf ok0 base pl bl2 w).ok e z0 z'.cells.toList := pack1_rep hr.blksOk (Rows.none _ _) (by rw [fe.zeroC]; exact zeroCs_rep fe.one) hz0
          refine ⟨repL i.toNat z'.cells.toList, ?_, DList.rep hzr _⟩
          have hby : (i'.bytes : Int) * i ≤ 281474976710656 := by
            rw [← fe.bytes]
            have : ((i.toNat * te.bytes : Nat) : Int) = (te.bytes : Int) * i := by
              rw [Int.natCast_mul, Int.toNat_of_nonneg c1, Int.mul_comm]
            simp only [roomMax] at c3
            omega
          have hr2 := run_make (P := P) w t et i' z' hu fe.info fe.zero ki kj i i c1 (Int.le_refl _) hby (by omega)
          have hmade : madeCells z'.cells (i.toNat * i'.size) = (repL i.toNat z'.cells.toList).toArray := by
            apply Array.ext'
            rw [← fe.size, ← hzl, made_repL _ (by omega)]
          rw [hmade] at hr2
          simp [execOp, ho, hx', hy', hr2]
      · cases hk
    · cases hk
  · cases hk
end
end Go.Lift
