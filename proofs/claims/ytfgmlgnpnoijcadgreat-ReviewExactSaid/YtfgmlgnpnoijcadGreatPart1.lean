/- Part1: LiftJ, LiftJm, LiftJn, LiftJq, LiftK, LiftL, LiftM, LiftMm, LiftMf, LiftN, LiftO, LiftP. -/
import Derived.Laws.CopyRow
import Derived.Laws.BytesArg
import Derived.MapKept
import Derived.WideKeyRuns
import Derived.Test.YtfgmlgnpnoijcadGreatPart0
set_option linter.unusedVariables false
set_option linter.unusedSimpArgs false
namespace Go.Lift
open Go.RowKit
theorem Qct (off : Nat) : ∀ (vs : List Value) (k : Nat) (cs : Array Value), off + k + vs.length ≤ cs.size →
  ((vs.zipIdx k).foldl (fun (cs : Array Value) (p : Value × Nat) => cs.setIfInBounds (off + p.2) p.1) cs).toList = cs.toList.take (off + k) ++ vs ++ cs.toList.drop (off + k + vs.length)
 | [], k, cs, h => by simp
 | v :: vs, k, cs, h => by
  simp only [List.zipIdx_cons, List.foldl_cons]
  simp only [List.length_cons] at h
  rw [Qct off vs (k + 1) _ (by simp; omega)]
  have e := list_seg_step cs.toList (off + k) v vs (by simp; omega)
  simpa [Array.toList_setIfInBounds, Nat.add_assoc] using e
theorem Qj0 (off : Nat) (v : Value) (cs : Array Value) (h : off + v.cells.toList.length ≤ cs.size) :
  (v.cells.zipIdx.foldl (fun cs (c, j) => cs.setIfInBounds (off + j) c) cs) = (cs.toList.take off ++ v.cells.toList ++ cs.toList.drop (off + v.cells.toList.length)).toArray := by
 apply Array.ext'
 have h1 := Qct off v.cells.toList 0 cs (by simpa using h)
 simp only [Nat.add_zero] at h1
 rw [← Array.foldl_toList]
 simpa using h1
section
variable {P : Program} {o : Oper} {ρ : Operand → V} {bl : Nat → Option Blk} {β : Type} {r : β}
theorem Qai {E : Env} {T : TypeId → Option TI} (place : Nat → Option (Nat × Nat)) (ti : TI)
  (hplace : ∀ i v cs0 rest ps, Q1q ti T ((i, v) :: rest) = some ps → v.cells = some cs0 → ∃ off, place i = some (off, cs0.length) ∧ ∃ ps', Q1q ti T rest = some ps' ∧ ps = (off, cs0) :: ps') :
  ∀ (parts : List (Nat × V)) (vals : List (Nat × Value)) (ps : List (Nat × List C)) (cs cs' : List C) (vs : List Value),
   Q1q ti T parts = some ps → vals.map (·.1) = parts.map (·.1) → (∀ (j : Nat) (p : Nat × V) (q : Nat × Value), parts[j]? = some p → vals[j]? = some q → VRep E p.2 q.2) → CReps E cs vs → Q6e cs ps = some cs' →
   ∃ us, Instr.fill place vs.toArray vals = some us.toArray ∧ CReps E cs' us := by
 intro parts
 induction parts with
 | nil =>
  intro vals ps cs cs' vs hp hm hv hc hf
  simp only [Q1q, Option.some.injEq] at hp
  subst hp
  simp only [Q6e, Option.some.injEq] at hf
  subst hf
  cases vals with
  | nil => exact ⟨vs, rfl, hc⟩
  | cons q vals => simp at hm
 | cons p parts ih =>
  intro vals ps cs cs' vs hp hm hv hc hf
  obtain ⟨i, v⟩ := p
  cases vals with
  | nil => simp at hm
  | cons q vals =>
   obtain ⟨i', x⟩ := q
   simp only [List.map_cons, List.cons.injEq] at hm
   obtain ⟨hi, hm⟩ := hm
   have hi : i' = i := hi
   subst hi
   have hvc : ∃ cs0, v.cells = some cs0 := by
    simp only [Q1q] at hp
    cases hvc : v.cells with
    | some cs0 => exact ⟨cs0, rfl⟩
    | none => rw [hvc] at hp; simp at hp
   obtain ⟨cs0, hvc⟩ := hvc
   obtain ⟨off, h1, ps', h2, rfl⟩ := hplace i' v cs0 parts ps hp hvc
   simp only [Q6e] at hf
   split at hf
   ·rename_i cs1 hov
    have hx := VRep.cells_of hvc (hv 0 _ _ rfl rfl)
    have hxl := hx.length
    obtain ⟨s1, s2⟩ := Q7q hc hx hov
    obtain ⟨us, h3, h4⟩ := ih vals ps' cs1 cs' _ h2 hm (fun j p q hp hq => hv (j + 1) p q (by simpa using hp) (by simpa using hq)) s1 hf
    refine ⟨us, ?_, h4⟩
    simp only at hxl s2 h3
    have hsz : x.cells.size = cs0.length := by simpa using hxl
    have hsz2 : ¬ (off + x.cells.size > vs.toArray.size) := by simp at s2 ⊢; omega
    simp only [Instr.fill, h1]
    rw [if_neg (by simp only [hsz, ne_eq, not_true_eq_false, decide_false, Bool.false_or, decide_eq_true_eq]; rw [← hsz]; exact hsz2), Qj0 off x vs.toArray (by simpa using s2)]
    exact h3
   ·cases hf
theorem Qg9 (fs : List Field) (hk : fs.all (fun f => (P.info? f.type).isSome && (P.underlying f.type).isSome) = true) (w : World) :
  (fs.mapM fun f => (do pure (f.offset, ← sizeOf f.type) : Sem (Nat × Nat))).run P w = .ok (fs.map fun f => (f.offset, P.cellsOf f.type)) w := by
 induction fs with
 | nil => rfl
 | cons f fs ih =>
  simp only [List.all_cons, Bool.and_eq_true] at hk
  obtain ⟨⟨h1, _⟩, h2⟩ := hk
  obtain ⟨i, hi⟩ := Option.isSome_iff_exists.1 h1
  have hs : (sizeOf f.type).run P w = .ok (P.cellsOf f.type) w := by simp [sizeOf, typeInfo, hi, Program.cellsOf]
  simp only [List.mapM_cons, Sem.run_bind, hs, Result.andThen_ok, Sem.run_pure, ih (by simpa using h2), List.map_cons]
theorem Qdn {ti : TI} {T : TypeId → Option TI} (hlen : ti.len = none) {i : Nat} {v : V} {cs0 : List C} {rest : List (Nat × V)} {ps : List (Nat × List C)} (h : Q1q ti T ((i, v) :: rest) = some ps) (hv : v.cells = some cs0) :
  ∃ off g, ti.flds[i]? = some (off, cs0.length, g) ∧ ∃ ps', Q1q ti T rest = some ps' ∧ ps = (off, cs0) :: ps' := by
 simp only [Q1q, hv, hlen] at h
 split at h
 ·rename_i cs1 rest' he hr
  simp only [Option.some.injEq] at he
  subst he
  split at h
  ·rename_i off n g hf
   cases hb : Nat.beq cs0.length n with
   | false => rw [hb] at h; cases h
   | true =>
    have := Nat.eq_of_beq_eq_true hb
    subst this
    simp only [hb, cond_true, Option.some.injEq] at h
    exact ⟨off, g, hf, rest', hr, h.symm⟩
  ·cases h
 ·cases h
theorem Q8r {ti : TI} {T : TypeId → Option TI} {n : Nat} {e : TypeId} {te : TI} (hlen : ti.len = some n) (hel : ti.elem = some e) (hte : T e = some te) {i : Nat} {v : V} {cs0 : List C} {rest : List (Nat × V)} {ps : List (Nat × List C)} (h : Q1q ti T ((i, v) :: rest) = some ps) (hv : v.cells = some cs0) :
  cs0.length = te.size ∧ ∃ ps', Q1q ti T rest = some ps' ∧ ps = (i * te.size, cs0) :: ps' := by
 simp only [Q1q, hv, hlen, hel, hte] at h
 split at h
 ·rename_i cs1 rest' he hr
  simp only [Option.some.injEq] at he
  subst he
  cases hb : Nat.beq cs0.length te.size with
  | false => rw [hb] at h; cases h
  | true =>
   simp only [hb, cond_true, Option.some.injEq] at h
   exact ⟨Nat.eq_of_beq_eq_true hb, rest', hr, h.symm⟩
 ·cases h
theorem Qga {T : TypeId → Option TI} (hT : TOk P T) {kk : K β} {t : TypeId} {parts : Array (Nat × Operand)} (ho : o.op = .build t parts) {ti : TI} (ht : T t = some ti) (hagg : ti.agg = true) {ps : List (Nat × List C)}
  (hp : Q1q ti T (parts.toList.map fun p => (p.1, ρ p.2)) = some ps) {cs : List C} (hf : Q6e ti.zero ps = some cs) (hk : kk (.agg cs) [] [] = some r) : Sound P o ρ bl kk r := by
 obtain ⟨i, d, z, f⟩ := hT.facts ht
 have hu := f.under
 refine Sound.pure hk fun bl2 _ ok0 base pl w a hr hxs => ?_
 have hzero : CReps (Q4 ok0 base pl bl2 w) ti.zero z.cells.toList := by rw [f.zeroC]; exact Q27 f.one
 have hvals : ∀ (j : Nat) (p : Nat × V) (q : Nat × Value), (parts.toList.map fun p => (p.1, ρ p.2))[j]? = some p → (parts.toList.map fun p => (p.1, a.eval p.2))[j]? = some q → VRep (Q4 ok0 base pl bl2 w) p.2 q.2 := by
  intro j p q h1 h2
  rw [List.getElem?_map] at h1 h2
  cases hj : parts.toList[j]? with
  | none => rw [hj] at h1; cases h1
  | some x =>
   rw [hj] at h1 h2
   simp only [Option.map_some, Option.some.injEq] at h1 h2
   subst h1 h2
   exact hxs x.2 (by simp only [ho, Op.operands]; exact List.mem_toArray.2 (List.mem_map.2 ⟨x, List.mem_of_getElem? hj, rfl⟩))
 have hmap : (parts.toList.map fun p => (p.1, a.eval p.2)).map (·.1) = (parts.toList.map fun p => (p.1, ρ p.2)).map (·.1) := by simp
 rw [f.agg] at hagg
 unfold Q37 at hagg
 rw [hu] at hagg
 cases d <;> try (simp at hagg; done)
 ·
  rename_i n e
  have hel : ti.elem = some e := by rw [f.elem]; rfl
  have hlen : ti.len = some n := by rw [f.alen]; rfl
  have hkn := f.known
  simp only [Q76, Bool.and_eq_true] at hkn
  obtain ⟨ie, hie⟩ := Option.isSome_iff_exists.1 hkn.1
  have hsz : (sizeOf e).run P w = .ok ie.size w := by simp [sizeOf, typeInfo, hie]
  cases hparts : (parts.toList.map fun p => (p.1, ρ p.2)) with
  | nil =>
   rw [hparts] at hp
   simp only [Q1q, Option.some.injEq] at hp
   subst hp
   simp only [Q6e, Option.some.injEq] at hf
   subst hf
   have hemp : parts.toList = [] := by simpa using hparts
   have hpe : parts = #[] := by simpa using hemp
   exact ⟨.agg z.cells, by simp [execOp, ho, Instr.build, zeroValue, typeInfo, f.info, f.zero, run_underlying hu, hsz, hpe, Instr.fill], z.cells.toList, hzero, by simp⟩
  | cons p0 rest =>
   have hte : ∃ te, T e = some te := by
    rw [hparts] at hp
    obtain ⟨i0, v0⟩ := p0
    simp only [Q1q, hlen, hel] at hp
    cases hte : T e with
    | some te => exact ⟨te, rfl⟩
    | none => rw [hte] at hp; split at hp <;> simp at hp
   obtain ⟨te, hte⟩ := hte
   obtain ⟨i', d', z', fe⟩ := hT.facts hte
   have hes : ie.size = te.size := by
    have h1 := fe.info
    rw [hie] at h1
    injection h1 with h1
    rw [fe.size, h1]
   obtain ⟨us, h1, h2⟩ := Qai (T := T) (E := Q4 ok0 base pl bl2 w) (fun i => some (i * ie.size, ie.size)) ti
    (fun i v cs0 rest ps h hv => by
     obtain ⟨h1, ps', h2, h3⟩ := Q8r hlen hel hte h hv
     exact ⟨i * te.size, by rw [hes, h1], ps', h2, h3⟩) _ _ _ _ _ _ hp hmap hvals hzero hf
   refine ⟨.agg us.toArray, ?_, us, h2, by simp⟩
   simp only [Array.toArray_toList] at h1
   simp [execOp, ho, Instr.build, zeroValue, typeInfo, f.info, f.zero, run_underlying hu, hsz, h1]
 ·
  rename_i fs
  have hlen : ti.len = none := by rw [f.alen]; rfl
  have hkn := f.known
  simp only [Q76] at hkn
  have hpl := Qg9 (P := P) fs.toList hkn w
  have hpl' : (fs.mapM fun f => (do pure (f.offset, ← sizeOf f.type) : Sem (Nat × Nat))).run P w = .ok (fs.toList.map fun f => (f.offset, P.cellsOf f.type)).toArray w := by
   rw [Array.mapM_eq_mapM_toList, Sem.run_map, hpl]
   rfl
  obtain ⟨us, h1, h2⟩ := Qai (T := T) (E := Q4 ok0 base pl bl2 w) ((fs.toList.map fun f => (f.offset, P.cellsOf f.type)).toArray[·]?) ti
   (fun i v cs0 rest ps h hv => by
    obtain ⟨off, g, h1, ps', h2, h3⟩ := Qdn hlen h hv
    refine ⟨off, ?_, ps', h2, h3⟩
    rw [f.flds] at h1
    simp only [Qe6, List.getElem?_map] at h1
    simp only [List.getElem?_toArray, List.getElem?_map]
    cases hfi : fs.toList[i]? with
    | none => rw [hfi] at h1; cases h1
    | some fd =>
     rw [hfi] at h1
     simp only [Option.map_some, Option.some.injEq, Prod.mk.injEq] at h1 ⊢
     exact ⟨h1.1, h1.2.1⟩) _ _ _ _ _ _ hp hmap hvals hzero hf
  refine ⟨.agg us.toArray, ?_, us, h2, by simp⟩
  have hpl2 : (fs.mapM fun f => Prod.mk f.offset <$> sizeOf f.type : Sem (Array (Nat × Nat))).run P w = .ok (fs.toList.map fun f => (f.offset, P.cellsOf f.type)).toArray w := by
   simpa only [map_eq_pure_bind] using hpl'
  simp only [Array.toArray_toList] at h1
  simp only [execOp, ho, Instr.build, zeroValue, typeInfo, f.info, f.zero, run_underlying hu, Sem.run_bind, run_program, Result.andThen_ok, Sem.run_pure, hpl', Array.toList_map, h1]
def repL (n : Nat) (l : List Value) : List Value :=
 match n with
 | 0 => []
 | n + 1 => l ++ repL n l
theorem Qcu (l : List Value) : ∀ n, repL n l ++ l = l ++ repL n l
 | 0 => by simp [repL]
 | n + 1 => by simp only [repL, List.append_assoc]; rw [Qcu l n]
theorem Qeo {E : Env} {cs : List C} {vs : List Value} (h : CReps E cs vs) : ∀ n, CReps E (repC n cs) (repL n vs)
 | 0 => rfl
 | n + 1 => h.append (Qeo h n)
theorem Q3x (z : Array Value) (hz : 0 < z.size) : ∀ n, (madeCells z (n * z.size)).toList = repL n z.toList
 | 0 => by simp [madeCells, repL]
 | n + 1 => by
  have ih := Q3x z hz n
  have e : (madeCells z ((n + 1) * z.size)).toList = (madeCells z (n * z.size)).toList ++ z.toList := by
   simp only [madeCells, Array.toList_map, Array.toList_range, Nat.succ_mul, List.range_add, List.map_append]
   congr 1
   apply List.ext_getElem?
   intro j
   simp only [List.getElem?_map, List.map_map]
   by_cases hj : j < z.size
   ·rw [List.getElem?_range hj]
    have hm : (n * z.size + j) % z.size = j := by rw [Nat.mul_comm, Nat.mul_add_mod, Nat.mod_eq_of_lt hj]
    simp [hm, hj]
   ·have h1 : (List.range z.size)[j]? = none := by simp; omega
    rw [h1]
    simp
    omega
  rw [e, ih, Qcu]
  rfl
theorem DList.rep {w : World} {ok : Nat → Prop} {e : Ty} {x : e.den} {vs : List Value} (h : DRep w ok e x vs) : ∀ n, DList (fun x u => DRep w ok e x u) (List.replicate n x) (repL n vs)
 | 0 => rfl
 | n + 1 => ⟨vs, repL n vs, rfl, h, DList.rep h n⟩
theorem Q8s {kk : K β} {nx : Nat} {et : TypeId} {e : Ty} {l : List e.den} (hn : bl nx = none) (hk : kk (.c (.row nx 0)) [nx] [(nx, .row et e 0 l)] = some r) (hlm : l.length ≤ maxLen)
  (hrun : ∀ (bl2 : Nat → Option Blk) (ok0 : OK0 P) (base : Nat) (pl : Nat → Option Pl) (w : World) (a : Act), RelB ok0 base pl bl2 w → (∀ x ∈ o.op.operands, VRep (Q4 ok0 base pl bl2 w) (ρ x) (a.eval x)) →
   ∃ us : List Value, (execOp a.eval o).run P w = .ok (.value (.slice (some ⟨w.heap.size, 0, none⟩) l.length l.length)) (w.alloc (.cells us.toArray et)) ∧ DList (fun x u => DRep w (Q4 ok0 base pl bl2 w).ok e x u) l us) : Sound P o ρ bl kk r := by
 refine ⟨_, _, _, hk, fun bl2 hb => ?_⟩
 have hn2 : bl2 nx = none := (hb nx (by simp)).trans hn
 intro ok0 base pl w a hr hx K Q hK
 obtain ⟨us, h1, h2⟩ := hrun bl2 ok0 base pl w a hr hx
 have hg : w.grownBy (w.alloc (.cells us.toArray et)) none := World.grownBy_alloc w _ none
 have hp : ∀ g, (Pl.row (.slice (some ⟨w.heap.size, 0, none⟩) l.length l.length) []).has g → w.heap.size ≤ g := by
  intro g hgg
  have hgg := Pl.has_row hgg
  simp only [Value.ownBlock, Option.some.injEq] at hgg
  exact Nat.le_of_eq hgg
 have hs : Step pl bl2 w (upd pl nx (.row (.slice (some ⟨w.heap.size, 0, none⟩) l.length l.length) [])) (upd bl2 nx (.row et e 0 l)) (w.alloc (.cells us.toArray et)) := Step.new hr hn2 hg hp
 refine Qn h1 (hK _ (upd pl nx (.row (.slice (some ⟨w.heap.size, 0, none⟩) l.length l.length) [])) _ ?_ hs ?_)
 ·refine RelB.new hr hn2 hg hp ⟨rfl, us, h2.mono fun x u hu => hu.mono hs.ext.heap, ?_⟩
  have hl := h2.length
  exact ⟨hl, .inr ⟨w.heap.size, l.length, us.toArray, rfl, hr.baseLe, heap_alloc_new w _, Nat.le_refl _, hlm, by simpa using hl, by rw [← hl]; simp⟩⟩
 ·refine ⟨rfl, .slice (some ⟨w.heap.size, 0, none⟩) l.length l.length, [], by simp [Q4, upd], fun t1 e1 ver1 l1 h1 => ?_⟩
  simp only [Q4, updL, upd, if_true, Option.some.injEq] at h1
  injection h1 with q1 q2 q3 q4
  subst q3
  exact ⟨Nat.le_refl _, fun _ => rfl⟩
theorem Qaj {T : TypeId → Option TI} (hT : TOk P T) {kk : K β} {nx : Nat} {t : TypeId} {n : Nat} {parts : Array (Nat × Operand)} (ho : o.op = .buildSlice t n parts)
  (hk : Q57 T bl nx t n (parts.toList.map fun p => (p.1, ρ p.2)) kk = some r) : Sound P o ρ bl kk r := by
 unfold Q57 at hk
 split at hk
 ·cases hk
 rename_i ti ht
 obtain ⟨i, d, z, f⟩ := hT.facts ht
 split at hk
 ·rename_i et hel hal
  have hd := Ql f hel hal
  subst hd
  have hu := f.under
  split at hk
  ·cases hk
  rename_i te hte
  obtain ⟨i', d', z', fe⟩ := hT.facts hte
  split at hk
  ·cases hk
  rename_i e hety
  cases hs : (Nat.beq e.size te.size && (Nat.ble (n * te.size) 16777216 && Nat.blt 0 te.size)) with
  | false => rw [hs] at hk; cases hk
  | true =>
   obtain ⟨hs1, hs23⟩ := andB hs
   obtain ⟨hs2, hs3⟩ := andB hs23
   have hs1 := Nat.eq_of_beq_eq_true hs1
   have hs2 := Nat.le_of_ble_eq_true hs2
   have hs3 := Q1b hs3
   simp only [hs, cond_true] at hk
   split at hk
   ·cases hk
   rename_i ps hps
   split at hk
   ·cases hk
   rename_i cs hcs
   split at hk
   ·rename_i l hl hn
    have hll : l.length = n := by
     have : ∀ {m : Nat} {cs : List C} {l : List e.den}, Q3k (fun _ => none) e m cs = some l → l.length = m := by
      intro m
      induction m with
      | zero =>
       intro cs l h
       cases cs with
       | nil => simp only [Q3k, Option.some.injEq] at h; subst h; rfl
       | cons c cs => simp [Q3k] at h
      | succ m ih =>
       intro cs l h
       simp only [Q3k] at h
       split at h
       ·split at h
        ·rename_i l' hl'
         simp only [Option.some.injEq] at h
         subst h
         simp [ih hl']
        ·cases h
       ·cases h
     exact this hl
    have hnm : n ≤ n * te.size := Nat.le_mul_of_pos_right _ hs3
    refine Q8s hn hk (by simp only [maxLen]; omega) fun bl2 ok0 base pl w a hr hxs => ?_
    have hzl : z'.cells.size = te.size := by
     have := fe.len
     rw [Array.length_toList] at this
     rw [this, fe.size]
    have hzero : CReps (Q4 ok0 base pl bl2 w) (repC n te.zero) (repL n z'.cells.toList) := Qeo (by rw [fe.zeroC]; exact Q27 fe.one) n
    have hvals : ∀ (j : Nat) (p : Nat × V) (q : Nat × Value), (parts.toList.map fun p => (p.1, ρ p.2))[j]? = some p → (parts.toList.map fun p => (p.1, a.eval p.2))[j]? = some q → VRep (Q4 ok0 base pl bl2 w) p.2 q.2 := by
     intro j p q h1 h2
     rw [List.getElem?_map] at h1 h2
     cases hj : parts.toList[j]? with
     | none => rw [hj] at h1; cases h1
     | some x =>
      rw [hj] at h1 h2
      simp only [Option.map_some, Option.some.injEq] at h1 h2
      subst h1 h2
      exact hxs x.2 (by simp only [ho, Op.operands]; exact List.mem_toArray.2 (List.mem_map.2 ⟨x, List.mem_of_getElem? hj, rfl⟩))
    have hmap : (parts.toList.map fun p => (p.1, a.eval p.2)).map (·.1) = (parts.toList.map fun p => (p.1, ρ p.2)).map (·.1) := by simp
    obtain ⟨us, h1, h2⟩ := Qai (T := T) (E := Q4 ok0 base pl bl2 w) (fun i => some (i * te.size, te.size)) _
     (fun i v cs0 rest ps h hv => by
      obtain ⟨h1, ps', h2, h3⟩ := Q8r (ti := { te with elem := some et, len := some n }) rfl rfl hte h hv
      exact ⟨i * te.size, by rw [h1], ps', h2, h3⟩) _ _ _ _ _ _ hps hmap hvals hzero hcs
    obtain ⟨d1, d2⟩ := Q6h hr.blksOk (Rows.none _ _) h2 hl
    refine ⟨us, ?_, d1⟩
    have hmade : (madeCells z'.cells (n * te.size)) = (repL n z'.cells.toList).toArray := by
     apply Array.ext'
     rw [← hzl, Q3x _ (by omega)]
    have hnot : ¬ (n * te.size > 2 ^ 24) := by omega
    rw [hll]
    by_cases hz0 : n * te.size = 0
    ·have hn0 : n = 0 := by
      rcases Nat.mul_eq_zero.1 hz0 with h | h
      ·exact h
      ·omega
     subst hn0
     simp only [repL] at h1
     have e0 : ∀ g : Nat → Value, (Array.range 0).map g = #[] := fun g => by apply Array.ext'; simp
     have h0 : ¬ ((0 : Nat) > 2 ^ 24) := by decide
     simp only [execOp, ho, Instr.buildSlice, run_underlying hu, run_sizeOf fe, Sem.run_bind, Result.andThen_ok, hz0, h0, if_false, Sem.run_pure, if_true, e0, Array.toList_map, h1, newRow, run_newObj]
     rfl
    ·have hz1 : ∀ (k : Nat), (Array.range (n * te.size)).map (fun x => z'.cells[x % z'.cells.size]!) = (repL n z'.cells.toList).toArray := fun _ => hmade
     simp only [execOp, ho, Instr.buildSlice, run_underlying hu, run_sizeOf fe, Sem.run_bind, Result.andThen_ok, hnot, if_false, Sem.run_pure, hz0, zeroValue, typeInfo, run_program, fe.info, fe.zero, hz1 0, Array.toList_map, h1, newRow, run_newObj]
     rfl
   ·cases hk
 ·cases hk
theorem Qhx {T : TypeId → Option TI} (hT : TOk P T) {kk : K β} {nx : Nat} {t : TypeId} {x y : Operand} (ho : o.op = .makeSlice t x y) (hk : Qc8 T bl nx t (ρ x) (ρ y) kk = some r) : Sound P o ρ bl kk r := by
 have hx0 : x ∈ o.op.operands := by simp [ho, Op.operands]
 have hy0 : y ∈ o.op.operands := by simp [ho, Op.operands]
 unfold Qc8 at hk
 split at hk
 ·rename_i ti ki i kj j ht hi hj
  obtain ⟨inf, d, z, f⟩ := hT.facts ht
  split at hk
  ·rename_i et hel hal
   have hd := Ql f hel hal
   subst hd
   have hu := f.under
   split at hk
   ·cases hk
   rename_i te hte
   obtain ⟨i', d', z', fe⟩ := hT.facts hte
   split at hk
   ·cases hk
   rename_i e hety
   split at hk
   ·rename_i z0 hz0 hn
    cases hs : (Nat.beq e.size te.size && Nat.blt 0 te.size) with
    | false => rw [hs] at hk; cases hk
    | true =>
     obtain ⟨hs1, hs2⟩ := andB hs
     have hs1 := Nat.eq_of_beq_eq_true hs1
     have hs2 := Q1b hs2
     simp only [hs, cond_true] at hk
     obtain ⟨hc, hk2⟩ := Qe hk
     clear hk
     obtain ⟨c1, hc⟩ := andB hc
     obtain ⟨c2, hc⟩ := andB hc
     obtain ⟨c3, c4⟩ := andB hc
     have c1 := of_decide_eq_true c1
     have c2 := of_decide_eq_true c2
     have c3 := of_decide_eq_true c3
     have c4 := of_decide_eq_true c4
     subst c2
     refine Q8s hn hk2 (by simp only [List.length_replicate, maxLen]; omega) fun bl2 ok0 base pl w a hr hxs => ?_
     have hx := hxs x hx0
     have hy := hxs y hy0
     rw [Q29 hi] at hx
     rw [Q29 hj] at hy
     have hx' : a.eval x = .int ki i := hx
     have hy' : a.eval y = .int kj i := hy
     have hzl : z'.cells.size = te.size := by
      have := fe.len
      rw [Array.length_toList] at this
      rw [this, fe.size]
     have hzr : DRep w (Q4 ok0 base pl bl2 w).ok e z0 z'.cells.toList := Q3v hr.blksOk (Rows.none _ _) (by rw [fe.zeroC]; exact Q27 fe.one) hz0
     refine ⟨repL i.toNat z'.cells.toList, ?_, DList.rep hzr _⟩
     have hby : (i'.bytes : Int) * i ≤ 281474976710656 := by
      rw [← fe.bytes]
      have : ((i.toNat * te.bytes : Nat) : Int) = (te.bytes : Int) * i := by
       rw [Int.natCast_mul, Int.toNat_of_nonneg c1, Int.mul_comm]
      simp only [Q5] at c3
      omega
     have hr2 := run_make (P := P) w t et i' z' hu fe.info fe.zero ki kj i i c1 (Int.le_refl _) hby (by omega)
     have hmade : madeCells z'.cells (i.toNat * i'.size) = (repL i.toNat z'.cells.toList).toArray := by
      apply Array.ext'
      rw [← fe.size, ← hzl, Q3x _ (by omega)]
     rw [hmade] at hr2
     simp [execOp, ho, hx', hy', hr2]
   ·cases hk
  ·cases hk
 ·cases hk
end
end Go.Lift
namespace Go.Lift
open Go.RowKit
theorem Qhy {v : Value} (h : zeroC v = .nils) : v = .slice none 0 0 := by
 unfold zeroC at h
 split at h
 ·rename_i c hc
  subst h
  unfold C.ofValue at hc
  split at hc <;> first | rfl | (simp only [Option.some.injEq] at hc; cases hc) | cases hc
 ·cases h
theorem Qep (v : Value) : ∀ n, repL n [v] = List.replicate n v
 | 0 => rfl
 | n + 1 => by rw [repL, Qep v n]; rfl
section
variable {P : Program} {o : Oper} {ρ : Operand → V} {bl : Nat → Option Blk} {β : Type} {r : β}
theorem Qdo {T : TypeId → Option TI} (hT : TOk P T) {kk : K β} {nx : Nat} {t : TypeId} {x y : Operand} (ho : o.op = .makeSlice t x y) (hk : Q7o T bl nx t (ρ x) (ρ y) kk = some r) : Sound P o ρ bl kk r := by
 have hx0 : x ∈ o.op.operands := by simp [ho, Op.operands]
 have hy0 : y ∈ o.op.operands := by simp [ho, Op.operands]
 unfold Q7o at hk
 split at hk
 ·rename_i ti ki i kj j ht hi hj
  obtain ⟨inf, d, z, f⟩ := hT.facts ht
  split at hk
  ·rename_i et hel hal
   have hd := Ql f hel hal
   subst hd
   have hu := f.under
   split at hk
   ·cases hk
   rename_i te hte
   obtain ⟨i', d', z', fe⟩ := hT.facts hte
   split at hk
   ·rename_i e eet hety heel heln hn hz
    cases hs : Nat.beq te.size 1 with
    | false => rw [hs] at hk; cases hk
    | true =>
     have hs1 := Nat.eq_of_beq_eq_true hs
     simp only [hs, cond_true] at hk
     obtain ⟨hc, hk2⟩ := Qe hk
     clear hk
     obtain ⟨c1, hc⟩ := andB hc
     obtain ⟨c2, hc⟩ := andB hc
     obtain ⟨c3, c4⟩ := andB hc
     have c1 := of_decide_eq_true c1
     have c2 := of_decide_eq_true c2
     have c3 := of_decide_eq_true c3
     have c4 := of_decide_eq_true c4
     subst c2
     have hzz : z'.cells.toList = [.slice none 0 0] := by
      have h1 := fe.zeroC
      rw [hz] at h1
      cases hq : z'.cells.toList with
      | nil => rw [hq] at h1; cases h1
      | cons v vs =>
       rw [hq] at h1
       simp only [List.map_cons, List.cons.injEq] at h1
       obtain ⟨h2, h3⟩ := h1
       have h3 : vs = [] := by cases vs with | nil => rfl | cons _ _ => cases h3
       subst h3
       rw [Qhy h2.symm]
     refine ⟨_, _, _, hk2, fun bl2 hb => ?_⟩
     have hn2 : bl2 nx = none := (hb nx (by simp)).trans hn
     intro ok0 base pl w a hr hxs K Q hK
     have hx := hxs x hx0
     have hy := hxs y hy0
     rw [Q29 hi] at hx
     rw [Q29 hj] at hy
     have hx' : a.eval x = .int ki i := hx
     have hy' : a.eval y = .int kj i := hy
     have hzl : z'.cells.size = te.size := by
      have := fe.len
      rw [Array.length_toList] at this
      rw [this, fe.size]
     have hby : (i'.bytes : Int) * i ≤ 281474976710656 := by
      rw [← fe.bytes]
      have : ((i.toNat * te.bytes : Nat) : Int) = (te.bytes : Int) * i := by
       rw [Int.natCast_mul, Int.toNat_of_nonneg c1, Int.mul_comm]
      simp only [Q5] at c3
      omega
     have hr2 := run_make (P := P) w t et i' z' hu fe.info fe.zero ki kj i i c1 (Int.le_refl _) hby (by omega)
     have hmade : madeCells z'.cells (i.toNat * i'.size) = (repL i.toNat z'.cells.toList).toArray := by
      apply Array.ext'
      rw [← fe.size, ← hzl, Q3x _ (by omega)]
     rw [hmade, hzz, Qep] at hr2
     have hrun : (execOp a.eval o).run P w = .ok (.value (.slice (some ⟨w.heap.size, 0, none⟩) i.toNat i.toNat)) (w.alloc (.cells (List.replicate i.toNat (Value.slice none 0 0)).toArray et)) := by
      simp [execOp, ho, hx', hy', hr2]
     have hg : w.grownBy (w.alloc (.cells (List.replicate i.toNat (Value.slice none 0 0)).toArray et)) none := World.grownBy_alloc w _ none
     have hsvs : ∀ (k : Nat) (s : Value), (List.replicate i.toNat (some (Value.slice none 0 0)))[k]? = some (some s) → s = .slice none 0 0 ∧ k < i.toNat := fun k s h => by
      obtain ⟨h1, h2⟩ := List.getElem?_eq_some_iff.1 h
      simp only [List.getElem_replicate, Option.some.injEq] at h2
      exact ⟨h2.symm, by simpa using h1⟩
     have hp : ∀ g, (Pl.row (.slice (some ⟨w.heap.size, 0, none⟩) i.toNat i.toNat) (List.replicate i.toNat (some (Value.slice none 0 0)))).has g → w.heap.size ≤ g := by
      intro g hgg
      rcases hgg with hgg | ⟨k, s, hks, hgg⟩
      ·simp only [Value.ownBlock, Option.some.injEq] at hgg
       exact Nat.le_of_eq hgg
      ·rw [(hsvs k s hks).1] at hgg
       cases hgg
     have hst := Step.new (B := .mat et eet e 0 0 none (List.replicate i.toNat [])) hr hn2 hg hp
     refine Qn hrun (hK _ (upd pl nx (.row (.slice (some ⟨w.heap.size, 0, none⟩) i.toNat i.toNat) (List.replicate i.toNat (some (Value.slice none 0 0))))) _ ?_ hst ?_)
     ·refine RelB.new hr hn2 hg hp ⟨⟨List.replicate i.toNat (.slice none 0 0), ⟨by simp, .inr ⟨w.heap.size, i.toNat, _, by simp, hr.baseLe, heap_alloc_new w _, by simp, by simp only [maxLen]; omega, by simp, by simp⟩⟩, fun k s hks => ?_⟩, by simp, fun k hk => ?_, fun k s xx hks hkx => ?_, fun k s g hks hg1 hg2 => ?_, fun k j s s' g hkj hks hjs hg1 => ?_⟩
      ·obtain ⟨h1, h2⟩ := hsvs k s hks
       subst h1
       simp [h2]
      ·obtain ⟨h1, h2⟩ := List.getElem?_eq_some_iff.1 hk
       simp at h2
      ·obtain ⟨h1, h2⟩ := hsvs k s hks
       subst h1
       obtain ⟨_, h4⟩ := List.getElem?_eq_some_iff.1 hkx
       simp only [List.getElem_replicate] at h4
       subst h4
       exact ⟨[], rfl, by simp, .inl ⟨rfl, rfl⟩⟩
      ·rw [(hsvs k s hks).1] at hg2
       cases hg2
      ·rw [(hsvs k s hks).1] at hg1
       cases hg1
     ·refine ⟨rfl, _, _, by simp [Q4, upd]; exact ⟨rfl, rfl⟩, fun t1 et1 e1 ver1 iver1 hole1 l1 h1 => ?_⟩
      simp only [Q4, updL, upd, if_true, Option.some.injEq] at h1
      injection h1 with q1 q2 q3 q4
      subst q4
      exact ⟨Nat.le_refl _, fun _ => rfl⟩
   ·cases hk
  ·cases hk
 ·cases hk
theorem Qcb {T : TypeId → Option TI} (hT : TOk P T) {kk : K β} {nx : Nat} {t : TypeId} {n : Nat} {parts : Array (Nat × Operand)} (ho : o.op = .buildSlice t n parts)
  (hk : Q6t T bl nx t n (parts.toList.map fun p => (p.1, ρ p.2)) kk = some r) : Sound P o ρ bl kk r := by
 unfold Q6t at hk
 split at hk
 ·rename_i rr rv hparts
  split at hk
  ·cases hk
  rename_i ti ht
  obtain ⟨i, d, z, f⟩ := hT.facts ht
  split at hk
  ·rename_i et hel hal
   have hd := Ql f hel hal
   subst hd
   have hu := f.under
   split at hk
   ·cases hk
   rename_i te hte
   obtain ⟨i', d', z', fe⟩ := hT.facts hte
   split at hk
   ·rename_i eet et1 e rv' xr heel heln hbr hn
    cases hc : (Nat.beq n 1 && (Nat.beq te.size 1 && (Nat.beq rv rv' && Nat.beq et1 eet))) with
    | false => rw [hc] at hk; cases hk
    | true =>
     simp only [hc, cond_true] at hk
     obtain ⟨c1, hc⟩ := andB hc
     obtain ⟨c2, hc⟩ := andB hc
     obtain ⟨c3, c4⟩ := andB hc
     have := Nat.eq_of_beq_eq_true c1
     subst this
     have hs1 := Nat.eq_of_beq_eq_true c2
     have := Nat.eq_of_beq_eq_true c3
     subst this
     have := Nat.eq_of_beq_eq_true c4
     subst this
     obtain ⟨x, hpx, hxv⟩ : ∃ x, parts.toList = [(0, x)] ∧ ρ x = .c (.row rr rv) := by
      cases hq : parts.toList with
      | nil => rw [hq] at hparts; cases hparts
      | cons p ps =>
       rw [hq] at hparts
       simp only [List.map_cons, List.cons.injEq, Prod.mk.injEq, List.map_eq_nil_iff] at hparts
       obtain ⟨⟨h1, h2⟩, h3⟩ := hparts
       obtain ⟨p1, p2⟩ := p
       simp only at h1 h2
       subst h1 h3
       exact ⟨p2, rfl, h2⟩
     have hx0 : x ∈ o.op.operands := by simp only [ho, Op.operands]; exact List.mem_toArray.2 (List.mem_map.2 ⟨(0, x), by rw [hpx]; simp, rfl⟩)
     refine ⟨_, _, _, hk, fun bl2 hb => ?_⟩
     have hn2 : bl2 nx = none := (hb nx (by simp)).trans hn
     have hbr' : bl2 rr = some (.row et1 e rv xr) := (hb rr (by simp)).trans hbr
     intro ok0 base pl w a hr hxs K Q hK
     have hrn : rr ≠ nx := by rintro rfl; rw [hbr'] at hn2; cases hn2
     have hv := hxs x hx0
     rw [hxv] at hv
     obtain ⟨h1y, sr, svr, hpr, hcr⟩ := hv
     have hav := (hcr _ _ _ _ hbr').2 rfl
     have hpr : pl rr = some (.row sr svr) := hpr
     obtain ⟨pr, hpr', hBr⟩ := hr.blks rr _ hbr'
     have : pr = .row sr svr := by rw [hpr] at hpr'; injection hpr' with h; exact h.symm
     subst this
     obtain ⟨h0, xs, hd, hown⟩ := hBr
     subst h0
     have hzl : z'.cells.size = te.size := by
      have := fe.len
      rw [Array.length_toList] at this
      rw [this, fe.size]
     obtain ⟨z0, hz0⟩ : ∃ z0, z'.cells = #[z0] := by
      have : z'.cells.size = 1 := by omega
      exact Array.size_eq_one_iff.1 this
     have hone : sr.cells.toList = [sr] := by
      rcases hown.2 with ⟨h, _⟩ | ⟨g, cap, cur, h, _⟩ <;> rw [h] <;> rfl
     have hca : sr.cells = #[sr] := by
      apply Array.ext'
      rw [hone]
     have hfill : Instr.fill (fun i => some (i * te.size, te.size)) #[z0] [(0, a.eval x)] = some #[sr] := by
      rw [hav]
      simp [Instr.fill, hca, hs1]
     have hrun : (execOp a.eval o).run P w = .ok (.value (.slice (some ⟨w.heap.size, 0, none⟩) 1 1)) (w.alloc (.cells #[sr] et)) := by
      have e0 : (Array.range (1 * te.size)).map (fun x => z'.cells[x % z'.cells.size]!) = #[z0] := by
       have hmade : madeCells z'.cells (1 * te.size) = (repL 1 z'.cells.toList).toArray := by
        apply Array.ext'
        rw [← hzl, Q3x _ (by omega)]
       have h5 : (repL 1 z'.cells.toList).toArray = #[z0] := by rw [hz0]; rfl
       exact hmade.trans h5
      have h0 : ¬ (1 * te.size > 2 ^ 24) := by rw [hs1]; decide
      have h2 : ¬ (1 * te.size = 0) := by omega
      have hpm : (parts.map fun p => (p.1, a.eval p.2)).toList = [(0, a.eval x)] := by rw [Array.toList_map, hpx]; rfl
      simp only [execOp, ho, Instr.buildSlice, run_underlying hu, run_sizeOf fe, Sem.run_bind, Result.andThen_ok, h0, if_false, Sem.run_pure, h2, zeroValue, typeInfo, run_program, fe.info, fe.zero, e0, hpm, hfill, newRow, run_newObj]
      rfl
     have hg : w.grownBy (w.alloc (.cells #[sr] et)) none := World.grownBy_alloc w _ none
     have hsvs : ∀ (k : Nat) (s : Value), [some sr][k]? = some (some s) → k = 0 ∧ s = sr := fun k s h => by
      cases k with
      | zero => simp at h; exact ⟨rfl, h.symm⟩
      | succ k => simp at h
     have hownr : ∀ g, sr.ownBlock = some g → Qm pl bl2 rr g := fun g h => ⟨_, _, hbr', rfl, hpr, .inl h⟩
     have hltr : ∀ g, sr.ownBlock = some g → g < w.heap.size := fun g h => Own.lt hr ⟨rr, _, _, hbr', rfl, hpr, .inl h⟩
     have hpn := hr.fresh nx hn2
     have hhas : ∀ g, (Pl.row (.slice (some ⟨w.heap.size, 0, none⟩) 1 1) [some sr]).has g → Qm pl bl2 rr g ∨ Qm pl bl2 nx g ∨ w.heap.size ≤ g := fun g h => by
      rcases h with h | ⟨k, s, hks, h⟩
      ·simp only [Value.ownBlock, Option.some.injEq] at h
       exact .inr (.inr (Nat.le_of_eq h))
      ·rw [(hsvs k s hks).2] at h
       exact .inl (hownr g h)
     have hst : Step pl bl2 w (upd (upd pl rr (.row sr [])) nx (.row (.slice (some ⟨w.heap.size, 0, none⟩) 1 1) [some sr])) (upd (upd bl2 rr .dead) nx (.mat et et1 e 0 0 none [xr])) (w.alloc (.cells #[sr] et)) := by
      refine Step.two hr hrn hg (fun g h => by cases h) (fun g h => by cases h) (fun g _ h => hhas g h) (fun g h => by rw [hpr] at h; cases h) (fun g h => by rw [hpn] at h; cases h) (fun sv0 svs0 h => ?_) (fun sv0 svs0 h => by rw [hpn] at h; cases h)
      rw [hpr] at h
      injection h with h
      injection h with h h2
      subst h h2
      exact ⟨_, _, rfl, KeepR.ofDead⟩
     have hext := hst.ext (ok0 := ok0) (base := base)
     refine Qn hrun (hK _ (upd (upd pl rr (.row sr [])) nx (.row (.slice (some ⟨w.heap.size, 0, none⟩) 1 1) [some sr])) _ ?_ hst ?_)
     ·refine RelB.two hr hrn hg (fun g h => by cases h) (fun g h => by cases h) (fun g _ h => hhas g h) (fun g h => by cases h) hst trivial ?_
      refine ⟨⟨[sr], ⟨by simp, .inr ⟨w.heap.size, 1, #[sr], rfl, hr.baseLe, heap_alloc_new w _, Nat.le_refl _, by simp [maxLen], by simp, by simp⟩⟩, fun k s hks => ?_⟩, rfl, fun k hk => ?_, fun k s xx hks hkx => ?_, fun k s g hks hg1 hg2 => ?_, fun k j s s' g hkj hks hjs hg1 => ?_⟩
      ·obtain ⟨rfl, rfl⟩ := hsvs k s hks
       rfl
      ·cases k with
       | zero => simp at hk
       | succ k => simp at hk
      ·obtain ⟨rfl, rfl⟩ := hsvs k s hks
       simp only [List.getElem?_cons_zero, Option.some.injEq] at hkx
       subst hkx
       exact ⟨xs, hd.mono fun x u hu => hu.mono hext.heap, Qw (Nat.le_refl _) (fun g h => hg.block g (hltr g h) (by simp)) hown⟩
      ·rw [(hsvs k s hks).2] at hg2
       have := hltr g hg2
       simp only [Value.ownBlock, Option.some.injEq] at hg1
       omega
      ·exact absurd ((hsvs k s hks).1.trans (hsvs j s' hjs).1.symm) hkj
     ·refine ⟨rfl, _, _, by simp [Q4, upd]; exact ⟨rfl, rfl⟩, fun t1 et2 e1 ver1 iver1 hole1 l1 h1 => ?_⟩
      simp only [Q4, updL, upd, if_true, Option.some.injEq] at h1
      injection h1 with q1 q2 q3 q4
      subst q4
      exact ⟨Nat.le_refl _, fun _ => rfl⟩
   ·cases hk
  ·cases hk
 ·cases hk
theorem Q79 {w : World} (base : Nat) {t ty et : TypeId} {te : TI} {i : TypeInfo} {d : TypeDesc} {z : Value} (fe : TFacts P et te i d z) (ht : P.underlying t = some (.slice et)) (hpos : 0 < te.size) (hby : 0 < te.bytes)
  {v : Value} {n : Nat} {xs : List Value} (hown : w.ownsRow base et te.size v n xs) {src : Value} {m base2 : Nat} {ys : List Value} (hsrc : w.ownsRow base2 et te.size src m ys) (h1 : ∀ u ∈ ys, u.oneCell' = true) (hroom : (n + m) * te.bytes ≤ Q5) (hbase : base ≤ w.heap.size) :
  ∃ v' w', (Builtin.append_ #[t, t] ty #[v, src]).run P w = .ok v' w' ∧ w'.ownsRow base et te.size v' (n + m) (xs ++ ys) ∧ w.grownBy w' v.ownBlock ∧ (v'.ownBlock = v.ownBlock ∨ v'.ownBlock = some w.heap.size) := by
 have hsize : i.size = te.size := fe.size.symm
 have hzs : z.cells.size = te.size := by
  have := fe.len
  rw [Array.length_toList] at this
  rw [this, hsize]
 have hroom' : (n + m) * i.bytes ≤ 140737488355328 := by rw [← fe.bytes]; exact hroom
 have h63 : n + m ≤ maxLen := by
  have h2 : n + m ≤ (n + m) * te.bytes := Nat.le_mul_of_pos_right _ hby
  simp only [Q5] at hroom
  simp only [maxLen]
  omega
 have hs := hsrc
 rcases hsrc.2 with ⟨rfl, rfl⟩ | ⟨g, cap, cur, rfl, _⟩
 ·have hy : ys = [] := by
   have := hsrc.1
   exact List.eq_nil_of_length_eq_zero (by simpa using this)
  subst hy
  refine ⟨v, w, ?_, by simpa using hown, ⟨rfl, rfl, rfl, Nat.le_refl _, fun _ _ _ => rfl⟩, .inl rfl⟩
  rcases hown.2 with ⟨rfl, rfl⟩ | ⟨g, cap, cur, rfl, _, _, hnc, _⟩
  ·simp [Builtin.append_, run_underlying ht, sizeOf, typeInfo, fe.info, Builtin.lenOf, Builtin.firstCells]
  ·simp [Builtin.append_, run_underlying ht, sizeOf, typeInfo, fe.info, Builtin.lenOf, Builtin.firstCells, hnc, storeCells]
 ·obtain ⟨v', w', hrun, h2, h3, _, h5⟩ := run_append_own_at (P := P) w base t ty et i z te.size i.bytes ht fe.info fe.zero hsize rfl hzs hpos v n xs hown ⟨g, 0, none⟩ m cap ys hs.1
   (fun j u hj => hs.cells (g := g) rfl j u hj) h1 h63 hroom' hbase
  exact ⟨v', w', hrun, h2, h3, h5⟩
end
end Go.Lift
namespace Go.Lift
open Go.RowKit
theorem MatOk.nil (E : Env) (t et : TypeId) (e : Ty) : MatOk E t et e none [] (.slice none 0 0) [] :=
 ⟨⟨[], World.ownsRow_nil _ _ _ _, fun i s h => by simp at h⟩, rfl, fun i h => by simp at h, fun i s x h => by simp at h, fun i s g h => by simp at h, fun i j s r g _ h => by simp at h⟩
theorem MatOk.full {E : Env} {t et : TypeId} {e : Ty} {l : List (List e.den)} {sv : Value} {svs : List (Option Value)} (h : MatOk E t et e none l sv svs) {i : Nat} (hi : i < l.length) : ∃ s, svs[i]? = some (some s) := by
 have hi2 : i < svs.length := by rw [h.len]; exact hi
 have h2 : svs[i]? = some svs[i] := List.getElem?_eq_getElem hi2
 cases hs : svs[i] with
 | some s => exact ⟨s, by rw [h2, hs]⟩
 | none => rw [hs] at h2; exact absurd (h.hole i h2) (by simp)
theorem MatOk.one {E : Env} {t et : TypeId} {e : Ty} {hole : Option Nat} {l : List (List e.den)} {sv : Value} {svs : List (Option Value)} (h : MatOk E t et e hole l sv svs) {i : Nat} {s : Value} (hs : svs[i]? = some (some s)) : s.oneCell' = true := by
 have hi : i < l.length := by rw [← h.len]; exact (List.getElem?_eq_some_iff.1 hs).1
 obtain ⟨xs, _, ho⟩ := h.inner i s l[i] hs (List.getElem?_eq_getElem hi)
 rcases ho.2 with ⟨rfl, _⟩ | ⟨g, cap, cur, rfl, _⟩ <;> rfl
theorem Q4m {svs1 svs2 : List (Option Value)} {k : Nat} {s : Option Value} (h : (svs1 ++ svs2)[k]? = some s) : (k < svs1.length ∧ svs1[k]? = some s) ∨ (svs1.length ≤ k ∧ svs2[k - svs1.length]? = some s) := by
 rcases Nat.lt_or_ge k svs1.length with hk | hk
 ·rw [List.getElem?_append_left hk] at h
  exact .inl ⟨hk, h⟩
 ·rw [List.getElem?_append_right hk] at h
  exact .inr ⟨hk, h⟩
theorem MatOk.app {E E' : Env} (hb : E'.base = E.base) {t et : TypeId} {e : Ty} {l1 l2 : List (List e.den)} {sv1 sv2 v' : Value} {svs1 svs2 : List (Option Value)} {vs1 vs2 : List Value} (h1 : MatOk E t et e none l1 sv1 svs1) (h2 : MatOk E t et e none l2 sv2 svs2)
  (hown : E'.w.ownsRow E'.base t 1 v' (l1 ++ l2).length (vs1 ++ vs2)) (hl1 : vs1.length = l1.length) (hv1 : ∀ (i : Nat) (s : Value), svs1[i]? = some (some s) → vs1[i]? = some s) (hv2 : ∀ (i : Nat) (s : Value), svs2[i]? = some (some s) → vs2[i]? = some s)
  (hm : ∀ (x : e.den) u, DRep E.w E.ok e x u → DRep E'.w E'.ok e x u) (hs : ∀ g, ((∃ (i : Nat) (s : Value), svs1[i]? = some (some s) ∧ s.ownBlock = some g) ∨ (∃ (i : Nat) (s : Value), svs2[i]? = some (some s) ∧ s.ownBlock = some g)) → E'.w.heap[g]? = E.w.heap[g]? ∧ v'.ownBlock ≠ some g)
  (hx : ∀ (i j : Nat) (s r : Value) (g : Nat), svs1[i]? = some (some s) → svs2[j]? = some (some r) → s.ownBlock = some g → r.ownBlock ≠ some g) : MatOk E' t et e none (l1 ++ l2) v' (svs1 ++ svs2) := by
 have hsl : svs1.length = l1.length := h1.len
 refine ⟨⟨_, hown, fun k s hk => ?_⟩, by simp [h1.len, h2.len], fun k hk => ?_, fun k s x hk hkx => ?_, fun k s g hk hg => ?_, fun k j s r g hkj hk hj hg => ?_⟩
 ·rcases Q4m hk with ⟨h3, h4⟩ | ⟨h3, h4⟩
  ·rw [List.getElem?_append_left (by omega)]
   exact hv1 k s h4
  ·rw [List.getElem?_append_right (by omega), hl1, ← hsl]
   exact hv2 _ s h4
 ·rcases Q4m hk with ⟨h3, h4⟩ | ⟨h3, h4⟩
  ·exact h1.hole k h4
  ·have := h2.hole _ h4
   cases this
 ·rcases Q4m hk with ⟨h3, h4⟩ | ⟨h3, h4⟩
  ·rw [List.getElem?_append_left (by omega)] at hkx
   obtain ⟨xs, q1, q2⟩ := h1.inner k s x h4 hkx
   exact ⟨xs, q1.mono hm, Qw (by rw [hb]; exact Nat.le_refl _) (fun g hg => (hs g (.inl ⟨k, s, h4, hg⟩)).1) q2⟩
  ·rw [List.getElem?_append_right (by omega), ← hsl] at hkx
   obtain ⟨xs, q1, q2⟩ := h2.inner _ s x h4 hkx
   exact ⟨xs, q1.mono hm, Qw (by rw [hb]; exact Nat.le_refl _) (fun g hg => (hs g (.inr ⟨_, s, h4, hg⟩)).1) q2⟩
 ·intro hg2
  rcases Q4m hk with ⟨h3, h4⟩ | ⟨h3, h4⟩
  ·exact (hs g (.inl ⟨k, s, h4, hg2⟩)).2 hg
  ·exact (hs g (.inr ⟨_, s, h4, hg2⟩)).2 hg
 ·rcases Q4m hk with ⟨h3, h4⟩ | ⟨h3, h4⟩ <;> rcases Q4m hj with ⟨h5, h6⟩ | ⟨h5, h6⟩
  ·exact h1.sep k j s r g hkj h4 h6 hg
  ·exact hx k _ s r g h4 h6 hg
  ·exact fun hg2 => hx j _ r s g h6 h4 hg2 hg
  ·exact h2.sep _ _ s r g (by omega) h4 h6 hg
section
variable {P : Program} {o : Oper} {ρ : Operand → V} {bl : Nat → Option Blk} {β : Type} {r : β}
theorem Qb6 {T : TypeId → Option TI} (hT : TOk P T) {kk : K β} {c : Call} (ho : o.op = .call c) (hc : c.callee = .builtin .append) {x y : Operand} {t : TypeId} {nx : Nat} (ha : c.args.toList = [x, y]) (hty : c.argTypes.toList = [t, t])
  (hk : Q5u T bl nx t (ρ x) (ρ y) kk = some r) : Sound P o ρ bl kk r := by
 have hargs : c.args = #[x, y] := by rw [← Array.toArray_toList (xs := c.args), ha]
 have hx0 : x ∈ o.op.operands := by simp [ho, Op.operands, Call.operands, hargs]
 have hy0 : y ∈ o.op.operands := by simp [ho, Op.operands, Call.operands, hargs]
 unfold Q5u at hk
 split at hk
 ·cases hk
 rename_i ti ht
 obtain ⟨i, d, z, f⟩ := hT.facts ht
 split at hk
 ·rename_i et hel hal
  have hd := Ql f hel hal
  subst hd
  split at hk
  ·cases hk
  rename_i te hte
  obtain ⟨i', d', z', fe⟩ := hT.facts hte
  cases hs : (Nat.beq 1 te.size && Nat.blt 0 te.bytes) with
  | false => rw [hs] at hk; cases hk
  | true =>
   obtain ⟨hs1, hs3⟩ := andB hs
   have hs1 := Nat.eq_of_beq_eq_true hs1
   have hs3 := Q1b hs3
   simp only [hs, cond_true] at hk
   split at hk
   ·rename_i b2 ver2 hyv
    split at hk
    ·rename_i t2 et2 e ver2' iver2 new hb2l
     cases hvt : (Nat.beq ver2 ver2' && Nat.beq t2 et) with
     | false => rw [hvt] at hk; cases hk
     | true =>
      obtain ⟨hv1, hv2⟩ := andB hvt
      have := Nat.eq_of_beq_eq_true hv1
      subst this
      have := Nat.eq_of_beq_eq_true hv2
      subst this
      simp only [hvt, cond_true] at hk
      have hsrc : ∀ (bl2 : Nat → Option Blk), bl2 b2 = bl b2 → ∀ (ok0 : OK0 P) (base : Nat) (pl : Nat → Option Pl) (w : World) (a : Act), RelB ok0 base pl bl2 w → (∀ x ∈ o.op.operands, VRep (Q4 ok0 base pl bl2 w) (ρ x) (a.eval x)) →
        ∃ svs2 vs2, bl2 b2 = some (.mat t2 et2 e ver2 iver2 none new) ∧ pl b2 = some (.row (a.eval y) svs2) ∧ MatOk (Q4 ok0 base pl bl2 w) t2 et2 e none new (a.eval y) svs2 ∧ w.ownsRow base t2 1 (a.eval y) new.length vs2 ∧
         (∀ (i : Nat) (s : Value), svs2[i]? = some (some s) → vs2[i]? = some s) ∧ (∀ u ∈ vs2, u.oneCell' = true) := by
       intro bl2 hb2 ok0 base pl w a hr hxs
       have hb' : bl2 b2 = some (.mat t2 et2 e ver2 iver2 none new) := hb2.trans hb2l
       have hv := hxs y hy0
       rw [hyv] at hv
       obtain ⟨_, sv, svs, hg, hcur⟩ := hv
       have hav := (hcur _ _ _ _ _ _ _ hb').2 rfl
       subst hav
       obtain ⟨p, hp, hB⟩ := hr.blks b2 _ hb'
       have : p = .row (a.eval y) svs := by have h2 : pl b2 = some (.row (a.eval y) svs) := hg; rw [hp] at h2; injection h2
       subst this
       have hM : MatOk _ t2 et2 e none new (a.eval y) svs := hB
       obtain ⟨vs, ho1, ho2⟩ := hM.outer
       refine ⟨svs, vs, hb', hp, hM, ho1, ho2, fun u hu => ?_⟩
       obtain ⟨k, hk, rfl⟩ := List.getElem_of_mem hu
       have hvl : vs.length = new.length := by rw [ho1.1, Nat.mul_one]
       obtain ⟨s, hs⟩ := hM.full (show k < new.length by omega)
       have h3 := ho2 k s hs
       rw [List.getElem?_eq_getElem hk] at h3
       injection h3 with h3
       rw [h3]
       exact hM.one hs
      split at hk
      ·
       rename_i hx
       split at hk
       ·rename_i hn
        obtain ⟨hroom, hk⟩ := Qe hk
        have hroom := of_decide_eq_true hroom
        refine ⟨_, _, _, hk, fun bl2 hb2 => ?_⟩
        have hn2 : bl2 nx = none := (hb2 nx (by simp)).trans hn
        intro ok0 base pl w a hr hxs K Q hK
        obtain ⟨svs2, vs2, hb', hp, hM, ho1, ho2, hone⟩ := hsrc bl2 (hb2 b2 (by simp)) ok0 base pl w a hr hxs
        have hbn : b2 ≠ nx := by rintro rfl; rw [hb'] at hn2; cases hn2
        have hv : a.eval x = .slice none 0 0 := by have := hxs x hx0; rw [hx] at this; exact this
        obtain ⟨v', w', hrun, hown, hgr, hloc⟩ := Q79 (P := P) w.heap.size fe f.under (ty := o.type) (by omega) hs3 (World.ownsRow_nil w w.heap.size t2 te.size) (by rw [← hs1]; exact ho1) hone (by simpa using hroom) (Nat.le_refl _)
        rw [← hs1] at hown
        simp only [Nat.zero_add, List.nil_append] at hown
        have hgr' : w.grownBy w' none := hgr
        have hv' : ∀ g, v'.ownBlock = some g → w.heap.size ≤ g := fun g hg => (hown.lt g hg).1
        have hownb : ∀ g, (Pl.row (a.eval y) svs2).has g → Qm pl bl2 b2 g := fun g h => ⟨_, _, hb', rfl, hp, h⟩
        have hltb : ∀ g, (Pl.row (a.eval y) svs2).has g → g < w.heap.size := fun g h => Own.lt hr ⟨b2, _, _, hb', rfl, hp, h⟩
        have hhas : ∀ g, (Pl.row v' svs2).has g → Qm pl bl2 b2 g ∨ Qm pl bl2 nx g ∨ w.heap.size ≤ g := fun g h => by
         rcases h with h | h
         ·exact .inr (.inr (hv' g h))
         ·exact .inl (hownb g (.inr h))
        have hpn := hr.fresh nx hn2
        have hst : Step pl bl2 w (upd (upd pl b2 (.row (a.eval y) svs2)) nx (.row v' svs2)) (upd (upd bl2 b2 .dead) nx (.mat t2 et2 e 0 0 none new)) w' := by
         refine Step.two hr hbn hgr' (fun g h => by cases h) (fun g h => by cases h) (fun g _ h => hhas g h) (fun g h => by rw [hp] at h; cases h) (fun g h => by rw [hpn] at h; cases h) (fun sv0 svs0 h => ?_) (fun sv0 svs0 h => by rw [hpn] at h; cases h)
         rw [hp] at h
         injection h with h
         injection h with h h2
         subst h h2
         exact ⟨_, _, rfl, KeepR.ofDead⟩
        have hext := hst.ext (ok0 := ok0) (base := base)
        refine Qn (Q1r ho hc ha hty (by rw [hv]; exact hrun)) (hK v' (upd (upd pl b2 (.row (a.eval y) svs2)) nx (.row v' svs2)) w' ?_ hst ?_)
        ·refine RelB.two hr hbn hgr' (fun g h => by cases h) (fun g h => by cases h) (fun g _ h => hhas g h) (fun g h => by cases h) hst trivial ?_
         have hwn : w'.ownsRow base t2 1 v' (([] : List (List e.den)) ++ new).length ([] ++ vs2) := by simpa using Q2j hown hr.baseLe
         have := MatOk.app (E := Q4 ok0 base pl bl2 w) (E' := Q4 ok0 base (upd (upd pl b2 (.row (a.eval y) svs2)) nx (.row v' svs2)) (upd (upd bl2 b2 .dead) nx (.mat t2 et2 e 0 0 none new)) w') rfl (MatOk.nil _ t2 et2 e) hM (v' := v') (vs1 := []) (vs2 := vs2)
          hwn rfl (fun i s h => by simp at h) ho2 (fun x u hu => hu.mono hext.heap) (fun g h => ?_) (fun i j s r g h => by simp at h)
         ·exact (show MatOk _ t2 et2 e none new v' svs2 by simpa using this)
         ·rcases h with ⟨i, s, h1, _⟩ | ⟨i, s, h1, h2⟩
          ·simp at h1
          ·have hlt := hltb g (.inr ⟨i, s, h1, h2⟩)
           exact ⟨hgr'.block g hlt (by simp), fun h3 => by have := hv' g h3; omega⟩
        ·refine ⟨?_, v', svs2, by simp [Q4, upd], fun t1 et1 e1 ver1 iver1 hole1 l1 h1 => ?_⟩
         ·rcases hown.2 with ⟨rfl, _⟩ | ⟨g, cap, cur, rfl, _⟩ <;> rfl
         ·simp only [Q4, updL, upd, if_true, Option.some.injEq] at h1
          injection h1 with q1 q2 q3 q4
          subst q4
          exact ⟨Nat.le_refl _, fun _ => rfl⟩
       ·cases hk
      ·
       rename_i b ver hx
       split at hk
       ·rename_i t0 et0 e0 ver' iver l hb
        cases hvt2 : (Nat.beq ver ver' && (Nat.beq t0 t2 && (Nat.beq et0 et2 && !Nat.beq b b2))) with
        | false => rw [hvt2] at hk; cases hk
        | true =>
         obtain ⟨q1, q⟩ := andB hvt2
         obtain ⟨q2, q⟩ := andB q
         obtain ⟨q3, q4⟩ := andB q
         have := Nat.eq_of_beq_eq_true q1
         subst this
         have := Nat.eq_of_beq_eq_true q2
         subst this
         have := Nat.eq_of_beq_eq_true q3
         subst this
         have hbb : b2 ≠ b := by
          rintro rfl
          rw [Q3n] at q4
          cases q4
         simp only [hvt2, cond_true] at hk
         split at hk
         ·rename_i he
          subst he
          obtain ⟨hroom, hk⟩ := Qe hk
          have hroom := of_decide_eq_true hroom
          refine ⟨_, _, _, hk, fun bl2 hb2 => ?_⟩
          intro ok0 base pl w a hr hxs K Q hK
          obtain ⟨svs2, vs2, hb2', hp2, hM2, ho21, ho22, hone⟩ := hsrc bl2 (hb2 b2 (by simp)) ok0 base pl w a hr hxs
          have hb' : bl2 b = some (.mat t0 et0 e0 ver iver none l) := (hb2 b (by simp)).trans hb
          have hv := hxs x hx0
          rw [hx] at hv
          obtain ⟨_, sv, svs, hg, hcur⟩ := hv
          have hav := (hcur _ _ _ _ _ _ _ hb').2 rfl
          subst hav
          obtain ⟨p, hp, hB⟩ := hr.blks b _ hb'
          have : p = .row (a.eval x) svs := by have h2 : pl b = some (.row (a.eval x) svs) := hg; rw [hp] at h2; injection h2
          subst this
          have hM : MatOk _ t0 et0 e0 none l (a.eval x) svs := hB
          obtain ⟨vs, ho1, ho2⟩ := hM.outer
          have hvl : vs.length = l.length := by rw [ho1.1, Nat.mul_one]
          obtain ⟨v', w', hrun, hown, hgr, hloc⟩ := Q79 (P := P) base fe f.under (ty := o.type) (by omega) hs3 (show w.ownsRow base t0 te.size (a.eval x) l.length vs by rw [← hs1]; exact ho1) (show w.ownsRow base t0 te.size (a.eval y) new.length vs2 by rw [← hs1]; exact ho21) hone hroom hr.baseLe
          rw [← hs1] at hown
          have hown1 : ∀ g, (Pl.row (a.eval x) svs).has g → Qm pl bl2 b g := fun g h => ⟨_, _, hb', rfl, hp, h⟩
          have hown2 : ∀ g, (Pl.row (a.eval y) svs2).has g → Qm pl bl2 b2 g := fun g h => ⟨_, _, hb2', rfl, hp2, h⟩
          have hlt1 : ∀ g, (Pl.row (a.eval x) svs).has g → g < w.heap.size := fun g h => Own.lt hr ⟨b, _, _, hb', rfl, hp, h⟩
          have hlt2 : ∀ g, (Pl.row (a.eval y) svs2).has g → g < w.heap.size := fun g h => Own.lt hr ⟨b2, _, _, hb2', rfl, hp2, h⟩
          have hsep : ∀ g, (Pl.row (a.eval y) svs2).has g → ¬ (Pl.row (a.eval x) svs).has g := fun g h h2 => hr.sep b2 b _ _ _ _ g hbb hb2' hb' rfl rfl hp2 hp h h2
          have hog : ∀ g, (a.eval x).ownBlock = some g → Qm pl bl2 b2 g ∨ Qm pl bl2 b g := fun g h => .inr (hown1 g (.inl h))
          have hhas : ∀ g, (Pl.row v' (svs ++ svs2)).has g → Qm pl bl2 b2 g ∨ Qm pl bl2 b g ∨ w.heap.size ≤ g := fun g h => by
           rcases h with h | ⟨k, s, hks, h⟩
           ·rcases hloc with h2 | h2
            ·rw [h2] at h; exact .inr (.inl (hown1 g (.inl h)))
            ·rw [h2] at h
             exact .inr (.inr (Nat.le_of_eq (Option.some.inj h)))
           ·rcases Q4m hks with ⟨_, h4⟩ | ⟨_, h4⟩
            ·exact .inr (.inl (hown1 g (.inr ⟨k, s, h4, h⟩)))
            ·exact .inl (hown2 g (.inr ⟨_, s, h4, h⟩))
          have hst : Step pl bl2 w (upd (upd pl b2 (.row (a.eval y) svs2)) b (.row v' (svs ++ svs2))) (upd (upd bl2 b2 .dead) b (.mat t0 et0 e0 (ver + 1) (iver + 1) none (l ++ new))) w' := by
           refine Step.two hr hbb hgr hog (fun g h => by cases h) (fun g _ h => hhas g h) (fun g h => by rw [hp2] at h; cases h) (fun g h => by rw [hp] at h; cases h) (fun sv0 svs0 h => ?_) (fun sv0 svs0 h => ?_)
           ·rw [hp2] at h
            injection h with h
            injection h with h h2
            subst h h2
            exact ⟨_, _, rfl, KeepR.ofDead⟩
           ·rw [hp] at h
            injection h with h
            injection h with h h2
            subst h h2
            refine ⟨_, _, rfl, ?_⟩
            rw [hb']
            exact KeepR.ofMat ⟨by omega, fun h => by omega⟩ ⟨by omega, fun h => by omega⟩
          have hext := hst.ext (ok0 := ok0) (base := base)
          refine Qn (Q1r ho hc ha hty hrun) (hK v' (upd (upd pl b2 (.row (a.eval y) svs2)) b (.row v' (svs ++ svs2))) w' ?_ hst ?_)
          ·refine RelB.two hr hbb hgr hog (fun g h => by cases h) (fun g _ h => hhas g h) (fun g h => by cases h) hst trivial ?_
           refine MatOk.app (E := Q4 ok0 base pl bl2 w) (E' := Q4 ok0 base (upd (upd pl b2 (.row (a.eval y) svs2)) b (.row v' (svs ++ svs2))) (upd (upd bl2 b2 .dead) b (.mat t0 et0 e0 (ver + 1) (iver + 1) none (l ++ new))) w') rfl hM hM2 (vs1 := vs) (vs2 := vs2) (by rw [List.length_append]; exact hown) hvl ho2 ho22 (fun x u hu => hu.mono hext.heap) (fun g h => ?_) (fun i j s r g h1 h2 h3 h4 => hsep g (.inr ⟨j, r, h2, h4⟩) (.inr ⟨i, s, h1, h3⟩))
           have hne : (a.eval x).ownBlock ≠ some g ∧ g < w.heap.size := by
            rcases h with ⟨i, s, h1, h2⟩ | ⟨i, s, h1, h2⟩
            ·exact ⟨fun h3 => hM.sep0 i s g h1 h3 h2, hlt1 g (.inr ⟨i, s, h1, h2⟩)⟩
            ·exact ⟨fun h3 => hsep g (.inr ⟨i, s, h1, h2⟩) (.inl h3), hlt2 g (.inr ⟨i, s, h1, h2⟩)⟩
           refine ⟨hgr.block g hne.2 (fun h3 => hne.1 h3.symm), fun h3 => ?_⟩
           rcases hloc with h4 | h4
           ·rw [h4] at h3; exact hne.1 h3
           ·rw [h4] at h3
            have := Option.some.inj h3
            omega
          ·refine ⟨?_, v', svs ++ svs2, by simp [Q4, upd], fun t1 et1 e1 ver1 iver1 hole1 l1 h1 => ?_⟩
           ·rcases hown.2 with ⟨rfl, _⟩ | ⟨g, cap, cur, rfl, _⟩ <;> rfl
           ·simp only [Q4, updL, upd, if_true, Option.some.injEq] at h1
            injection h1 with q1 q2 q3 q4
            subst q4
            exact ⟨Nat.le_refl _, fun _ => rfl⟩
         ·cases hk
       ·cases hk
      ·cases hk
    ·cases hk
   ·cases hk
 ·cases hk
theorem Qeq {w : World} {base : Nat} {t0 : TypeId} {size : Nat} {sv : Value} {m : Nat} {xs : List Value} (hown : w.ownsRow base t0 size sv m xs)
  {g o n c : Nat} (hsv : sv = .slice (some ⟨g, 0, none⟩) n c) {us : List Value} (h1 : ∀ u ∈ us, u.oneCell' = true) (hle : o + us.length ≤ xs.length) :
  ∃ w', (storeCells ⟨g, o, none⟩ us).run P w = .ok () w' ∧ w.grownBy w' (some g) ∧ w'.ownsRow base t0 size sv m (xs.take o ++ us ++ xs.drop (o + us.length)) := by
 obtain ⟨hxl, hown2⟩ := hown
 rcases hown2 with ⟨h0, _⟩ | ⟨g', cap, cur, hsv', hbase, hh, hnc, hcm, hcs', htake⟩
 ·rw [hsv] at h0; cases h0
 have hh : w.heap[g']? = some (.cells cur t0 (0, 0)) := hh
 have hgg : g' = g := by
  rw [hsv] at hsv'
  injection hsv' with e1 e2 e3
  injection e1 with e1
  injection e1 with e1
  exact e1.symm
 subst hgg
 have hcur : cur.toList = xs ++ cur.toList.drop (m * size) := by
  rw [← htake, List.take_append_drop]
 have hle2 : o + us.length ≤ cur.toList.length := by
  rw [hcur]
  simp only [List.length_append]
  omega
 have hst := run_storeCells_at P g' o t0 us 0 cur w hh (by simpa using hle2) h1
 simp only [Nat.add_zero] at hst
 have hnew : cur.toList.take o ++ us ++ cur.toList.drop (o + us.length) = xs.take o ++ us ++ xs.drop (o + us.length) ++ cur.toList.drop (m * size) := by
  have e1 : cur.toList.take o = xs.take o := by
   rw [hcur, List.take_append_of_le_length (by omega)]
  have e2 : cur.toList.drop (o + us.length) = xs.drop (o + us.length) ++ cur.toList.drop (m * size) := by
   conv => lhs; rw [hcur]
   rw [List.drop_append_of_le_length hle]
  rw [e1, e2]
  simp only [List.append_assoc]
 have hnl : (xs.take o ++ us ++ xs.drop (o + us.length)).length = xs.length := by
  simp only [List.length_append, List.length_take, List.length_drop]
  omega
 refine ⟨_, hst, Q4k w g' _, by rw [hnl]; exact hxl, .inr ⟨g', cap, _, hsv', hbase, setRow_heap w g' _ _ t0 _ hh, hnc, hcm, ?_, ?_⟩⟩
 ·have hcs2 : cur.size = cap * size := hcs'
  have : (cur.toList.take o ++ us ++ cur.toList.drop (o + us.length)).length = cur.toList.length := by
   simp only [List.length_append, List.length_take, List.length_drop]
   omega
  rw [List.size_toArray, this, Array.length_toList]
  exact hcs2
 ·simp only [hnew]
  rw [List.take_append_of_le_length (by rw [hnl, hxl]; exact Nat.le_refl _), List.take_of_length_le (by rw [hnl, hxl]; exact Nat.le_refl _)]
theorem Qcc {w : World} {okI : Nat → Prop} {e : Ty} {new : List e.den} {src : Value} (hsrc : Reads w okI e new src) (n : Nat) : ∃ ys, DList (fun x u => DRep w okI e x u) (new.take n) ys ∧ ys.length = Nat.min new.length n * e.size ∧
  (Builtin.lenOf src).run P w = .ok new.length w ∧ (Builtin.firstCells e.size (Nat.min new.length n) src).run P w = .ok ys.toArray w := by
 obtain ⟨A, c, ys, rfl, hle, hcm, hd, hcell⟩ := hsrc
 have hyl := hd.length
 have hd2 := hd.take n
 have hl2 := hd2.length
 have hmin : (new.take n).length = Nat.min new.length n := by rw [List.length_take, Nat.min_comm]
 rw [hmin] at hl2
 have heq : ys.take (n * e.size) = ys.take (Nat.min new.length n * e.size) := by
  rcases Nat.le_total new.length n with h | h
  ·have : Nat.min new.length n = new.length := Nat.min_eq_left h
   rw [this, ← hyl, List.take_of_length_le (Nat.le_refl _), List.take_of_length_le]
   rw [hyl]
   exact Nat.mul_le_mul_right _ h
  ·have : Nat.min new.length n = n := Nat.min_eq_right h
   rw [this]
 refine ⟨ys.take (n * e.size), hd2, hl2, by simp [Builtin.lenOf], ?_⟩
 cases A with
 | none =>
  have hy : ys = [] := by
   cases ys with
   | nil => rfl
   | cons y ys => obtain ⟨ad, ha, _⟩ := hcell 0 y rfl; cases ha
  subst hy
  simp [Builtin.firstCells]
 | some ad =>
  have h := run_loadCells_list (P := P) w ad (ys.take (n * e.size)) (fun j u hj => by
   rw [List.getElem?_take] at hj
   split at hj
   ·obtain ⟨ad', ha, hc⟩ := hcell j u hj
    injection ha with ha
    subst ha
    exact hc
   ·cases hj)
  rw [hl2] at h
  simpa [Builtin.firstCells] using h
theorem Q60 {w w' : World} {a : Act} {x y : Operand} {c : Call} {t : TypeId} (ho : o.op = .call c) (hc : c.callee = .builtin .copy) (ha : c.args.toList = [x, y]) (ht : c.argTypes.toList = [t, t]) {v : Value}
  (h : (Builtin.copy_ #[t, t] o.type #[a.eval x, a.eval y]).run P w = .ok v w') : (execOp a.eval o).run P w = .ok (.value v) w' := by
 have h1 : c.args = #[x, y] := by rw [← Array.toArray_toList (xs := c.args), ha]
 have h2 : c.argTypes = #[t, t] := by rw [← Array.toArray_toList (xs := c.argTypes), ht]
 simp [execOp, ho, resolve, hc, h1, h2, invoke, builtin, h]
theorem Qer {te : TI} {t et : TypeId} {inf : TypeInfo} {d' : TypeDesc} {z : Value} (fe : TFacts P et te inf d' z) (hu : P.underlying t = some (.slice et)) {e : Ty} (hes : e.size = te.size) {E : Env} {base : Nat} {t0 : TypeId} {l new : List e.den} {sv : Value} {xs : List Value} (hd : DList (fun x u => DRep E.w E.ok e x u) l xs) (hown : E.w.ownsRow base t0 e.size sv l.length xs)
  {src : Value} (hsrc : Reads E.w E.ok e new src) {i d : Nat} (hid : i + d ≤ l.length) {A : Option Addr} {cd : Nat} (hA : 0 < d → ∃ g n c, sv = .slice (some ⟨g, 0, none⟩) n c ∧ A = some ⟨g, i * e.size, none⟩) (ty : TypeId) :
  ∃ w' xs', (Builtin.copy_ #[t, t] ty #[.slice A d cd, src]).run P E.w = .ok (.int .i64 ((Nat.min new.length d : Nat) : Int)) w' ∧ E.w.grownBy w' sv.ownBlock ∧ DList (fun x u => DRep E.w E.ok e x u) (l.take i ++ (new.take d ++ l.drop (i + Nat.min new.length d))) xs' ∧
   w'.ownsRow base t0 e.size sv l.length xs' := by
 obtain ⟨ys, hdy, hyl, hlen, hfc⟩ := Qcc (P := P) hsrc d
 have hxl := hd.length
 have hone := hdy.oneCell
 have hn : Nat.min new.length d ≤ d := Nat.min_le_right _ _
 have hd2 : DList (fun x u => DRep E.w E.ok e x u) (l.take i ++ (new.take d ++ l.drop (i + Nat.min new.length d))) (xs.take (i * e.size) ++ (ys ++ xs.drop ((i + Nat.min new.length d) * e.size))) := (hd.take i).append (hdy.append (hd.drop _))
 have hsz : (sizeOf et).run P E.w = .ok e.size E.w := by rw [hes]; exact run_sizeOf fe E.w
 rcases Nat.eq_zero_or_pos d with h0 | h0
 ·subst h0
  have hm : Nat.min new.length 0 = 0 := Nat.min_eq_right (Nat.zero_le _)
  rw [hm] at hyl hfc
  have hy : ys = [] := List.eq_nil_of_length_eq_zero (by simpa using hyl)
  subst hy
  refine ⟨E.w, xs, ?_, ⟨rfl, rfl, rfl, Nat.le_refl _, fun _ _ _ => rfl⟩, ?_, hown⟩
  ·cases A with
   | none => simp [Builtin.copy_, run_underlying hu, hlen, hm, hsz, hfc, goInt]
   | some ad => simp [Builtin.copy_, run_underlying hu, hlen, hm, hsz, hfc, goInt, storeCells]
  ·have h3 : l.take i ++ (new.take 0 ++ l.drop (i + Nat.min new.length 0)) = l := by rw [hm]; simp
   rw [h3]
   exact hd
 ·obtain ⟨g, n, c, hsv, rfl⟩ := hA h0
  have hle : i * e.size + ys.length ≤ xs.length := by
   rw [hyl, hxl, ← Nat.add_mul]
   exact Nat.mul_le_mul_right _ (by omega)
  obtain ⟨w', hst, hg, hown'⟩ := Qeq (P := P) hown (o := i * e.size) hsv hone hle
  refine ⟨w', _, ?_, by rw [hsv]; exact hg, hd2, ?_⟩
  ·simp [Builtin.copy_, run_underlying hu, hlen, hsz, hfc, goInt, hst]
  ·have : xs.take (i * e.size) ++ (ys ++ xs.drop ((i + Nat.min new.length d) * e.size)) = xs.take (i * e.size) ++ ys ++ xs.drop (i * e.size + ys.length) := by
    rw [hyl, ← Nat.add_mul, List.append_assoc]
   rw [this]
   exact hown'
theorem Qhz {T : TypeId → Option TI} (hT : TOk P T) {kk : K β} {c : Call} (ho : o.op = .call c) (hc : c.callee = .builtin .copy) {x y : Operand} {t : TypeId} (ha : c.args.toList = [x, y]) (hty : c.argTypes.toList = [t, t])
  (hk : Qc6 T bl t (ρ x) (ρ y) kk = some r) : Sound P o ρ bl kk r := by
 have hargs : c.args = #[x, y] := by rw [← Array.toArray_toList (xs := c.args), ha]
 have hx0 : x ∈ o.op.operands := by simp [ho, Op.operands, Call.operands, hargs]
 have hy0 : y ∈ o.op.operands := by simp [ho, Op.operands, Call.operands, hargs]
 unfold Qc6 at hk
 split at hk
 ·cases hk
 rename_i ti ht
 obtain ⟨i, d, z, f⟩ := hT.facts ht
 split at hk
 ·rename_i et hel hal
  have hd := Ql f hel hal
  subst hd
  split at hk
  ·cases hk
  rename_i te hte
  obtain ⟨i', d', z', fe⟩ := hT.facts hte
  split at hk
  ·cases hk
  rename_i e hety
  cases hs : (Nat.beq e.size te.size && Nat.blt 0 te.size) with
  | false => rw [hs] at hk; cases hk
  | true =>
   obtain ⟨hs1, hs2⟩ := andB hs
   have hs1 := Nat.eq_of_beq_eq_true hs1
   simp only [hs, cond_true] at hk
   split at hk
   ·cases hk
   rename_i new rd hsrc
   split at hk
   ·
    rename_i b ver lo hi hx
    split at hk
    ·rename_i t0 e0 ver' l hb
     cases hver : Nat.beq ver ver' with
     | false => rw [hver] at hk; cases hk
     | true =>
      have := Nat.eq_of_beq_eq_true hver
      subst this
      simp only [hver, cond_true] at hk
      split at hk
      ·rename_i he
       subst he
       refine ⟨_, _, _, hk, fun bl2 hb2 => ?_⟩
       have hb' : bl2 b = some (.row t0 e0 ver l) := (hb2 b (by simp)).trans hb
       intro ok0 base pl w a hr hxs K Q hK
       have hv := hxs x hx0
       rw [hx] at hv
       obtain ⟨_, sv, svs, hg, hcur⟩ := hv
       obtain ⟨q1, q2, A, A', n, cc, hsv, hav, hA, _⟩ := (hcur t0 e0 ver l hb').2 rfl
       obtain ⟨p, hp, hB⟩ := hr.blks b _ hb'
       have : p = .row sv svs := by have h2 : pl b = some (.row sv svs) := hg; rw [hp] at h2; injection h2
       subst this
       obtain ⟨h0, xs, hd', hown⟩ := hB
       subst h0
       have hrd : Reads w (Q4 ok0 base pl bl2 w).ok e0 new (a.eval y) := Q3w hr.blksOk hsrc (fun b hb B hB => (hb2 b (by simp [hb])).trans hB) (hxs y hy0)
       obtain ⟨w', xs', hrun, hgr, hd2, hown2⟩ := Qer fe f.under hs1 (E := Q4 ok0 base pl bl2 w) hd' hown hrd (i := lo) (d := hi - lo) (by omega) (A := A') (cd := cc - lo) (fun hpos => by
        have hA := hA (by omega)
        rcases hown.2 with ⟨hsv2, hn⟩ | ⟨g, cap, cur, hsv2, _⟩
        ·omega
        ·rw [hsv] at hsv2
         injection hsv2 with e1 _ _
         subst e1
         refine ⟨g, n, cc, hsv, ?_⟩
         rw [hA]
         simp [Addr.add_lit]) o.type
       have hver : ver ≤ ver ∧ (ver = ver → sv = sv ∧ (l.take lo ++ (new.take (hi - lo) ++ l.drop (lo + Nat.min new.length (hi - lo)))).length = l.length) := ⟨Nat.le_refl _, fun _ => ⟨rfl, by
        have h1 : Nat.min new.length (hi - lo) = min (hi - lo) new.length := Nat.min_comm _ _
        simp only [List.length_append, List.length_take, List.length_drop, h1]
        omega⟩⟩
       have hst := Step.grown hr hb' hp hgr (.inl rfl) hver
       have hext := hst.ext (ok0 := ok0) (base := base)
       refine Qn (Q60 ho hc ha hty (by rw [hav]; exact hrun)) (hK _ (upd pl b (.row sv [])) w' ?_ hst rfl)
       exact RelB.grown hr hb' hp hgr (.inl rfl) hver ⟨rfl, xs', hd2.mono fun x u hu => hu.mono hext.heap, by rw [(hver.2 rfl).2]; exact hown2⟩
      ·cases hk
    ·cases hk
   ·
    rename_i b ver hx
    split at hk
    ·rename_i t0 e0 ver' l hb
     cases hver : Nat.beq ver ver' with
     | false => rw [hver] at hk; cases hk
     | true =>
      have := Nat.eq_of_beq_eq_true hver
      subst this
      simp only [hver, cond_true] at hk
      split at hk
      ·rename_i he
       subst he
       refine ⟨_, _, _, hk, fun bl2 hb2 => ?_⟩
       have hb' : bl2 b = some (.row t0 e0 ver l) := (hb2 b (by simp)).trans hb
       intro ok0 base pl w a hr hxs K Q hK
       have hv := hxs x hx0
       rw [hx] at hv
       obtain ⟨_, sv, svs, hg, hcur⟩ := hv
       have hav := (hcur t0 e0 ver l hb').2 rfl
       obtain ⟨p, hp, hB⟩ := hr.blks b _ hb'
       have : p = .row sv svs := by have h2 : pl b = some (.row sv svs) := hg; rw [hp] at h2; injection h2
       subst this
       obtain ⟨h0, xs, hd', hown⟩ := hB
       subst h0
       have hrd : Reads w (Q4 ok0 base pl bl2 w).ok e0 new (a.eval y) := Q3w hr.blksOk hsrc (fun b hb B hB => (hb2 b (by simp [hb])).trans hB) (hxs y hy0)
       obtain ⟨A, cc, hsv, hA⟩ : ∃ A cc, sv = .slice A l.length cc ∧ (0 < l.length → ∃ g n c, sv = .slice (some ⟨g, 0, none⟩) n c ∧ A = some ⟨g, 0 * e0.size, none⟩) := by
        rcases hown.2 with ⟨hsv2, hn⟩ | ⟨g, cap, cur, hsv2, _⟩
        ·exact ⟨none, 0, by rw [hsv2, hn], fun h => by omega⟩
        ·exact ⟨_, cap, hsv2, fun _ => ⟨g, _, _, hsv2, by simp⟩⟩
       obtain ⟨w', xs', hrun, hgr, hd2, hown2⟩ := Qer fe f.under hs1 (E := Q4 ok0 base pl bl2 w) hd' hown hrd (i := 0) (d := l.length) (by omega) (A := A) (cd := cc) hA o.type
       simp only [List.take_zero, List.nil_append, Nat.zero_add] at hd2
       have hver : ver ≤ ver ∧ (ver = ver → sv = sv ∧ (new.take l.length ++ l.drop (Nat.min new.length l.length)).length = l.length) := ⟨Nat.le_refl _, fun _ => ⟨rfl, by
        have h1 : Nat.min new.length l.length = min l.length new.length := Nat.min_comm _ _
        simp only [List.length_append, List.length_take, List.length_drop, h1]
        omega⟩⟩
       have hst := Step.grown hr hb' hp hgr (.inl rfl) hver
       have hext := hst.ext (ok0 := ok0) (base := base)
       refine Qn (Q60 ho hc ha hty (by rw [hav, hsv]; exact hrun)) (hK _ (upd pl b (.row sv [])) w' ?_ hst rfl)
       exact RelB.grown hr hb' hp hgr (.inl rfl) hver ⟨rfl, xs', hd2.mono fun x u hu => hu.mono hext.heap, by rw [(hver.2 rfl).2]; exact hown2⟩
      ·cases hk
    ·cases hk
   ·cases hk
 ·cases hk
theorem Qb7 {w : World} {ok : Nat → Prop} {k : IntKind} : ∀ {l : List Int} {ys : List Value}, DList (fun (x : (Ty.int k).den) u => DRep w ok (.int k) x u) l ys → ys = l.map (Value.int k)
 | [], _, h => by simp only [DList] at h; subst h; rfl
 | n :: l, _, ⟨u, v, e1, hr, ht⟩ => by
  have hu : u = [.int k n] := hr
  subst e1 hu
  rw [Qb7 ht]
  rfl
theorem Qgb {T : TypeId → Option TI} (hT : TOk P T) {kk : K β} {s t : TypeId} {x : Operand} (ho : o.op = .convert s t x) {si ti : TI} (hs : T s = some si) (ht : T t = some ti) (hk : Qah T bl si ti (ρ x) kk = some r) : Sound P o ρ bl kk r := by
 obtain ⟨i, d, z, f⟩ := hT.facts ht
 obtain ⟨i', d', z', f'⟩ := hT.facts hs
 unfold Qah at hk
 split at hk
 ·rename_i et hel hal
  have hd := Ql f' hel hal
  subst hd
  split at hk
  ·cases hk
  rename_i te hte
  obtain ⟨i2, d2, z2, fe⟩ := hT.facts hte
  split at hk
  ·rename_i hkd
   have he : d2 = .int .u8 := by
    rw [fe.kind] at hkd
    cases d2 <;> simp_all [Q9k]
   subst he
   cases hstr : ti.isStr with
   | false => rw [hstr] at hk; cases hk
   | true =>
    have hd := Q5z f hstr
    subst hd
    simp only [hstr, cond_true] at hk
    split at hk
    ·rename_i l rd hsrc
     refine Sound.pure hk fun bl2 hb2 ok0 base pl w a hr hxs => ⟨.string ⟨(Q9f l).toArray⟩, ?_, rfl⟩
     have hrd : Reads w (Q4 ok0 base pl bl2 w).ok (.int .u8) l (a.eval x) := Q3w hr.blksOk hsrc (fun b hb B hB => (hb2 b (by simpa using hb)).trans hB) (hxs x (by simp [ho, Op.operands]))
     obtain ⟨A, c, ys, hv, _, _, hdl, hcell⟩ := hrd
     have hys := Qb7 hdl
     subst hys
     have hconv : (convert s t (a.eval x)).run P w = .ok (.string ⟨(Q9f l).toArray⟩) w := by
      rw [hv, run_convert_bytes_string w s t et A _ c f'.under fe.under f.under]
      cases A with
      | none =>
       have : l = [] := by
        cases l with
        | nil => rfl
        | cons n l => obtain ⟨ad, h, _⟩ := hcell 0 _ rfl; cases h
       subst this
       rfl
      | some ad =>
       have hload : (loadCells ad l.length).run P w = .ok (l.map (Value.int .u8)).toArray w := by
        have := run_loadCells_list (P := P) w ad (l.map (Value.int .u8)) (fun j v hj => by
         obtain ⟨ad', h, h2⟩ := hcell j v hj
         injection h with h
         subst h
         exact h2)
        simpa using this
       rw [run_bytesToString w ad l.length c l hload, foldl_push_bytes]
       congr 2
       simp [Q9f, ByteArray.empty, ByteArray.emptyWithCapacity]
       rfl
     simp [execOp, ho, hconv]
    ·cases hk
  ·cases hk
 ·cases hk
end
end Go.Lift
namespace Go.Lift
open Go.RowKit
section
variable {β : Type} {r : β} {P : Program} {o : Oper} {ρ : Operand → V} {bl : Nat → Option Blk}
theorem Q7a (z : Array Value) (hz : 0 < z.size) (n : Nat) : (Builtin.zeroCells z n).toList = repL n z.toList := Q3x z hz n
theorem Qgc {T : TypeId → Option TI} (hT : TOk P T) {kk : K β} {c : Call} (ho : o.op = .call c) (hc : c.callee = .builtin .clear) {x : Operand} {t : TypeId} (ha : c.args.toList = [x]) (hty : c.argTypes.toList = [t])
  (hk : Qag T bl t (ρ x) kk = some r) : Sound P o ρ bl kk r := by
 have hargs : c.args = #[x] := by rw [← Array.toArray_toList (xs := c.args), ha]
 have htys : c.argTypes = #[t] := by rw [← Array.toArray_toList (xs := c.argTypes), hty]
 have hx0 : x ∈ o.op.operands := by simp [ho, Op.operands, Call.operands, hargs]
 unfold Qag at hk
 split at hk
 ·cases hk
 rename_i ti ht
 obtain ⟨i, d, z, f⟩ := hT.facts ht
 split at hk
 ·rename_i et hel hal
  have hd := Ql f hel hal
  subst hd
  have hu := f.under
  split at hk
  ·cases hk
  rename_i te hte
  obtain ⟨i', d', z', fe⟩ := hT.facts hte
  split at hk
  ·cases hk
  rename_i e hety
  cases hs : (Nat.beq e.size te.size && Nat.blt 0 te.size) with
  | false => rw [hs] at hk; cases hk
  | true =>
   obtain ⟨hs1, hs2⟩ := andB hs
   have hs1 := Nat.eq_of_beq_eq_true hs1
   have hs2 := Q1b hs2
   simp only [hs, cond_true] at hk
   split at hk
   ·cases hk
   rename_i z0 hz0
   split at hk
   ·rename_i b ver lo hi hx
    split at hk
    ·rename_i t0 e0 ver' l hb
     cases hver : Nat.beq ver ver' with
     | false => rw [hver] at hk; cases hk
     | true =>
      have := Nat.eq_of_beq_eq_true hver
      subst this
      simp only [hver, cond_true] at hk
      split at hk
      ·rename_i he
       subst he
       refine ⟨_, _, _, hk, fun bl2 hb2 => ?_⟩
       have hb' : bl2 b = some (.row t0 e0 ver l) := (hb2 b (by simp)).trans hb
       intro ok0 base pl w a hr hxs K Q hK
       have hv := hxs x hx0
       rw [hx] at hv
       obtain ⟨_, sv, svs, hg, hcur⟩ := hv
       obtain ⟨q1, q2, A, A', n, cc, hsv, hav, hA, _⟩ := (hcur t0 e0 ver l hb').2 rfl
       obtain ⟨p, hp, hB⟩ := hr.blks b _ hb'
       have : p = .row sv svs := by have h2 : pl b = some (.row sv svs) := hg; rw [hp] at h2; injection h2
       subst this
       obtain ⟨h0, xs, hd', hown⟩ := hB
       subst h0
       have hzl : z'.cells.size = te.size := by
        have := fe.len
        rw [Array.length_toList] at this
        rw [this, fe.size]
       have hzr : DRep w (Q4 ok0 base pl bl2 w).ok e0 z0 z'.cells.toList := Q3v hr.blksOk (Rows.none _ _) (by rw [fe.zeroC]; exact Q27 fe.one) hz0
       have hzs : DList (fun x u => DRep w (Q4 ok0 base pl bl2 w).ok e0 x u) (List.replicate (hi - lo) z0) (repL (hi - lo) z'.cells.toList) := DList.rep hzr _
       have hyl := hzs.length
       simp only [List.length_replicate] at hyl
       have hone := hzs.oneCell
       have hxl := hd'.length
       have hlen' : (l.take lo ++ (List.replicate (hi - lo) z0 ++ l.drop hi)).length = l.length := by simp; omega
       have hver : ver ≤ ver ∧ (ver = ver → sv = sv ∧ (l.take lo ++ (List.replicate (hi - lo) z0 ++ l.drop hi)).length = l.length) := ⟨Nat.le_refl _, fun _ => ⟨rfl, hlen'⟩⟩
       have hzv : ∀ w, (zeroValue et).run P w = .ok z' w := fun w => by simp [zeroValue, typeInfo, fe.info, fe.zero]
       have hrun : ∃ w' xs', (Builtin.clear_ #[t] o.type #[a.eval x]).run P w = .ok (.tuple #[]) w' ∧ w.grownBy w' sv.ownBlock ∧
         DList (fun x u => DRep w (Q4 ok0 base pl bl2 w).ok e0 x u) (l.take lo ++ (List.replicate (hi - lo) z0 ++ l.drop hi)) xs' ∧ w'.ownsRow base t0 e0.size sv l.length xs' := by
        rcases Nat.eq_zero_or_pos (hi - lo) with h0 | h0
        ·refine ⟨w, xs, ?_, ⟨rfl, rfl, rfl, Nat.le_refl _, fun _ _ _ => rfl⟩, ?_, hown⟩
         ·rw [hav, h0]
          cases A' <;> simp [Builtin.clear_, run_underlying hu]
         ·have h3 : l.take lo ++ (List.replicate (hi - lo) z0 ++ l.drop hi) = l := by
           rw [h0, show hi = lo by omega]
           simp
          rw [h3]
          exact hd'
        ·have hA := hA (by omega)
         rcases hown.2 with ⟨hsv2, hn⟩ | ⟨g, cap, cur, hsv2, _⟩
         ·omega
         ·have hAg : A = some ⟨g, 0, none⟩ := by rw [hsv] at hsv2; injection hsv2
          subst hAg
          have hle : lo * e0.size + (repL (hi - lo) z'.cells.toList).length ≤ xs.length := by
           rw [hyl, hxl, ← Nat.add_mul]
           exact Nat.mul_le_mul_right _ (by omega)
          obtain ⟨w', hst, hgw, hown'⟩ := Qeq (P := P) (w := w) (base := base) hown (o := lo * e0.size) hsv hone hle
          refine ⟨w', _, ?_, by rw [hsv]; exact hgw, (hd'.take lo).append (hzs.append (hd'.drop hi)), ?_⟩
          ·obtain ⟨m, hm⟩ : ∃ m, hi - lo = m + 1 := ⟨hi - lo - 1, by omega⟩
           rw [hav, hA, hm]
           rw [hm] at hst
           have hz := Q7a z'.cells (by omega) (m + 1)
           have ha2 : (Addr.mk g 0 none).add (lo * e0.size) = ⟨g, lo * e0.size, none⟩ := by simp [Addr.add_lit]
           simp only [Option.map_some, ha2]
           simp only [Builtin.clear_, run_underlying hu, hzv, hz, Sem.run_bind, Result.andThen_ok, List.getElem?_toArray, List.getElem?_cons_zero, Sem.run_pure]
           rw [hst]
           rfl
          ·have h4 : xs.take (lo * e0.size) ++ (repL (hi - lo) z'.cells.toList ++ xs.drop (hi * e0.size)) = xs.take (lo * e0.size) ++ repL (hi - lo) z'.cells.toList ++ xs.drop (lo * e0.size + (repL (hi - lo) z'.cells.toList).length) := by
            rw [hyl, ← Nat.add_mul, List.append_assoc, show lo + (hi - lo) = hi by omega]
           rw [h4]
           exact hown'
       obtain ⟨w', xs', hrun, hgr, hd2, hown2⟩ := hrun
       have hst := Step.grown hr hb' hp hgr (.inl rfl) hver
       have hext := hst.ext (ok0 := ok0) (base := base)
       have hex : (execOp a.eval o).run P w = .ok (.value (.tuple #[])) w' := by
        simp [execOp, ho, resolve, hc, hargs, htys, invoke, builtin, hrun]
       refine Qn hex (hK _ (upd pl b (.row sv [])) w' ?_ hst ⟨[], rfl, rfl⟩)
       exact RelB.grown hr hb' hp hgr (.inl rfl) hver ⟨rfl, xs', hd2.mono fun x u hu => hu.mono hext.heap, by rw [(hver.2 rfl).2]; exact hown2⟩
      ·cases hk
    ·cases hk
   ·cases hk
 ·cases hk
theorem Qj1 {T : TypeId → Option TI} (hT : TOk P T) {kk : K β} {c : Call} (ho : o.op = .call c) (hc : c.callee = .builtin .cap) {x : Operand} {t : TypeId} (ha : c.args.toList = [x]) (hty : c.argTypes.toList = [t])
  (hk : Qec T t (ρ x) kk = some r) : Sound P o ρ bl kk r := by
 have hargs : c.args = #[x] := by rw [← Array.toArray_toList (xs := c.args), ha]
 have htys : c.argTypes = #[t] := by rw [← Array.toArray_toList (xs := c.argTypes), hty]
 have hx0 : x ∈ o.op.operands := by simp [ho, Op.operands, Call.operands, hargs]
 unfold Qec at hk
 split at hk
 ·cases hk
 rename_i ti ht
 obtain ⟨i, d, z, f⟩ := hT.facts ht
 split at hk
 ·rename_i et hel hal hx
  have hd := Ql f hel hal
  subst hd
  have hu := f.under
  refine Sound.pure hk fun bl2 hb2 ok0 base pl w a hr hxs => ⟨.int .i64 0, ?_, rfl⟩
  have hv := hxs x hx0
  rw [hx] at hv
  have hv : a.eval x = .slice none 0 0 := hv
  simp [execOp, ho, resolve, hc, hargs, htys, invoke, builtin, Builtin.cap_, run_underlying hu, hv, goInt]
 ·cases hk
theorem Qj2 {T : TypeId → Option TI} (hT : TOk P T) {kk : K β} {t : TypeId} {x : Operand} {hi : Option Operand} (ho : o.op = .slice t x none hi none) (hk : Qea T bl t (ρ x) (hi.map ρ) kk = some r) : Sound P o ρ bl kk r := by
 have hx0 : x ∈ o.op.operands := by simp [ho, Op.operands]
 have hhi0 : ∀ y, hi = some y → y ∈ o.op.operands := by rintro y rfl; simp [ho, Op.operands]
 unfold Qea at hk
 split at hk
 ·cases hk
 rename_i ti ht
 obtain ⟨i, d, z, f⟩ := hT.facts ht
 have hu := f.under
 split at hk
 ·rename_i et hel hal
  have hd := Ql f hel hal
  subst hd
  split at hk
  ·cases hk
  rename_i te hte
  obtain ⟨i', d', z', fe⟩ := hT.facts hte
  split at hk
  ·rename_i b ver hx
   split at hk
   ·rename_i t0 e ver' l hb
    cases hs : (Nat.beq ver ver' && (Nat.beq e.size te.size && Nat.blt 0 te.size)) with
    | false => rw [hs] at hk; cases hk
    | true =>
     obtain ⟨hver, hs12⟩ := andB hs
     obtain ⟨hs1, hs2⟩ := andB hs12
     have hs1 := Nat.eq_of_beq_eq_true hs1
     have := Nat.eq_of_beq_eq_true hver
     subst this
     simp only [hs, cond_true] at hk
     split at hk
     ·rename_i n hn
      obtain ⟨hc, hk⟩ := Qe hk
      obtain ⟨c2, c3⟩ := andB hc
      have c2 := of_decide_eq_true c2
      have c3 := of_decide_eq_true c3
      refine ⟨_, _, _, hk, fun bl2 hb2 => ?_⟩
      have hb' : bl2 b = some (.row t0 e ver l) := (hb2 b (by simp)).trans hb
      intro ok0 base pl w a hr hxs K Q hK
      have h1 := hxs x hx0
      rw [hx] at h1
      obtain ⟨_, sv, svs, hg, hcur⟩ := h1
      have hav := (hcur t0 e ver l hb').2 rfl
      obtain ⟨p, hp, hB⟩ := hr.blks b _ hb'
      have : p = .row sv svs := by have h2 : pl b = some (.row sv svs) := hg; rw [hp] at h2; injection h2
      subst this
      obtain ⟨h0, xs, hd', hown⟩ := hB
      subst h0
      obtain ⟨A, cc, hsv, hle⟩ : ∃ A cc, sv = .slice A l.length cc ∧ l.length ≤ cc := by
       rcases hown.2 with ⟨hsv, hn⟩ | ⟨g, cap, cur, hsv, _, _, hnc, _⟩
       ·exact ⟨none, 0, by rw [hsv, hn], by omega⟩
       ·exact ⟨_, cap, hsv, hnc⟩
      have hb3 := Q1g (P := P) (isSl := true) (len := l.length) (cap := cc) (m := 0) (lo := none) (.inl ⟨rfl, rfl⟩) (Q1f hn fun y hy => hxs y (hhi0 y hy)) (Int.le_refl 0) c2 (by omega) w
      have hcc : (if cc = 0 then A else A.map (·.add 0)) = A := by
       split
       ·rfl
       ·cases A <;> simp [Addr.add]
      have hex : (execOp a.eval o).run P w = .ok (.value (.slice A n.toNat cc)) w := by
       have hb4 : (Instr.sliceBounds true l.length cc none (hi.map a.eval) none).run P w = .ok (0, n.toNat, cc) w := hb3
       simp [execOp, ho, Instr.sliceAt, run_underlying hu, Instr.slice, hav, hsv, hb4, run_sizeOf fe]
       cases A <;> simp [Addr.add]
      have hnl : n.toNat ≤ l.length := by omega
      have htl : (l.take n.toNat).length = n.toNat := by simp; omega
      have hown2 : w.ownsRow base t0 e.size (.slice A n.toNat cc) n.toNat (xs.take (n.toNat * e.size)) := by
       have hxl := hd'.length
       refine ⟨by rw [List.length_take, hxl]; exact Nat.min_eq_left (Nat.mul_le_mul_right _ hnl), ?_⟩
       rcases hown.2 with ⟨hsv2, hn0⟩ | ⟨g, cap, cur, hsv2, hbase, hh, hnc, hcm, hcs, htake⟩
       ·rw [hsv] at hsv2
        injection hsv2 with e1 e2 e3
        exact .inl ⟨by rw [e1, e3]; congr 1; omega, by omega⟩
       ·have q := hsv.symm.trans hsv2
        injection q with e1 e2 e3
        exact .inr ⟨g, cap, cur, by rw [e1, e3], hbase, hh, by omega, hcm, hcs, by rw [← htake, List.take_take, Nat.min_eq_left (Nat.mul_le_mul_right _ hnl)]⟩
      have hgr : w.grownBy w sv.ownBlock := ⟨rfl, rfl, rfl, Nat.le_refl _, fun _ _ _ => rfl⟩
      have hob : (Value.slice A n.toNat cc).ownBlock = sv.ownBlock ∨ ∀ g, (Value.slice A n.toNat cc).ownBlock = some g → w.heap.size ≤ g := .inl (by rw [hsv]; cases A <;> rfl)
      have hver : ver ≤ ver + 1 ∧ (ver = ver + 1 → (Value.slice A n.toNat cc) = sv ∧ (l.take n.toNat).length = l.length) := ⟨Nat.le_succ _, fun h => by omega⟩
      have hst := Step.grown (l' := l.take n.toNat) hr hb' hp hgr hob hver
      have hext := hst.ext (ok0 := ok0) (base := base)
      have hR := RelB.grown hr hb' hp hgr hob hver ⟨rfl, xs.take (n.toNat * e.size), (hd'.take n.toNat).mono fun x u hu => hu.mono hext.heap, by rw [htl]; exact hown2⟩
      refine Qn hex (hK _ (upd pl b (.row (.slice A n.toNat cc) [])) w hR hst ⟨rfl, .slice A n.toNat cc, [], by simp [Q4, upd], fun t1 e1 ver2 l2 hb2' => ?_⟩)
      have hb3 : upd bl2 b (.row t0 e (ver + 1) (l.take n.toNat)) b = some (.row t1 e1 ver2 l2) := hb2'
      simp [upd] at hb3
      exact ⟨by omega, fun _ => rfl⟩
     ·cases hk
   ·cases hk
  ·cases hk
 ·cases hk
theorem Qb8 {w : World} {t u ty et : TypeId} {te : TI} {i : TypeInfo} {d : TypeDesc} {z : Value} {k ki : IntKind} (fe : TFacts P et te i d z) (ht : P.underlying t = some (.slice et)) (hu : P.underlying u = some (.int k)) {m : Nat} (h0 : 0 < m) (hby : 0 < te.bytes) (hb : m * te.bytes ≤ Q5)
  (hpos : 0 < te.size) :
  (Builtin.append_ #[t, u] ty #[.slice none 0 0, .int ki (m : Int)]).run P w = .ok (.slice (some ⟨w.heap.size, 0, none⟩) m (grownCap w m 0 et)) (w.drew.alloc (.cells (Builtin.zeroCells z.cells m ++ Builtin.zeroCells z.cells (grownCap w m 0 et - m)) et)) := by
 have hm : m ≤ 140737488355328 := by
  have h1 : m * 1 ≤ m * te.bytes := Nat.mul_le_mul_left _ hby
  simp only [Q5] at hb
  omega
 have hb2 : m * i.bytes ≤ 140737488355328 := by rw [← fe.bytes]; exact hb
 have hwr : IntKind.i64.wrap (m : Int) = m := by simp [IntKind.wrap, IntKind.bits, IntKind.signed]; omega
 have hn : m ≠ 0 := by omega
 have hsz : ¬ i.size = 0 := by rw [← fe.size]; omega
 have hmz : ¬ m * i.size = 0 := by rw [Nat.mul_eq_zero]; omega
 have h63' : ¬ (9223372036854775807 < (m : Int)) := by omega
 have hmul : ((m : Int) * (i.bytes : Int)) = ((m * i.bytes : Nat) : Int) := by simp
 have h48 : ¬ (281474976710656 < (m : Int) * (i.bytes : Int)) := by rw [hmul]; omega
 have h48' : ¬ (281474976710656 < Builtin.nextslicecap m 0 * i.bytes) := by rw [nextslicecap_zero h0]; omega
 have hneg : ¬ ((m : Int) < 0) := by omega
 simp [Builtin.append_, run_underlying ht, run_underlying hu, sizeOf, typeInfo, zeroValue, fe.info, fe.zero, asInt, asIntOf, hwr, hneg, h48, hn, h63', h48', Question.forced, run_firstCells_none, newRow, grownCap]
 exact fun h => absurd h hmz
theorem Qak {T : TypeId → Option TI} (hT : TOk P T) {kk : K β} {c : Call} (ho : o.op = .call c) (hc : c.callee = .builtin .append) {x y : Operand} {t u : TypeId} {nx : Nat} (ha : c.args.toList = [x, y]) (hty : c.argTypes.toList = [t, u])
  (hk : Q56 T bl nx t u (ρ x) (ρ y) kk = some r) : Sound P o ρ bl kk r := by
 have hargs : c.args = #[x, y] := by rw [← Array.toArray_toList (xs := c.args), ha]
 have htys : c.argTypes = #[t, u] := by rw [← Array.toArray_toList (xs := c.argTypes), hty]
 have hx0 : x ∈ o.op.operands := by simp [ho, Op.operands, Call.operands, hargs]
 have hy0 : y ∈ o.op.operands := by simp [ho, Op.operands, Call.operands, hargs]
 unfold Q56 at hk
 split at hk
 ·rename_i ti tu ki m hti htu hm
  obtain ⟨i, d, z, f⟩ := hT.facts hti
  obtain ⟨i2, d2, z2, f2⟩ := hT.facts htu
  split at hk
  ·rename_i hx
   split at hk
   ·rename_i et kd hel hal hkd
    have hd := Ql f hel hal
    subst hd
    obtain rfl : d2 = .int kd := by
     rw [f2.kind] at hkd
     cases d2 <;> simp_all [Q9k]
    split at hk
    ·cases hk
    rename_i te hte
    obtain ⟨i', d', z', fe⟩ := hT.facts hte
    split at hk
    ·cases hk
    rename_i e hety
    split at hk
    ·rename_i z0 hz0 hn
     cases hs : (Nat.beq e.size te.size && (Nat.blt 0 te.size && Nat.blt 0 te.bytes)) with
     | false => rw [hs] at hk; cases hk
     | true =>
      obtain ⟨hs1, hs23⟩ := andB hs
      obtain ⟨hs2, hs3⟩ := andB hs23
      have hs1 := Nat.eq_of_beq_eq_true hs1
      have hs2 := Q1b hs2
      have hs3 := Q1b hs3
      simp only [hs, cond_true] at hk
      obtain ⟨hroom, hk⟩ := Qe hk
      obtain ⟨c1, c2⟩ := andB hroom
      have c1 := of_decide_eq_true c1
      have c2 := of_decide_eq_true c2
      refine ⟨_, _, _, hk, fun bl2 hb2 => ?_⟩
      have hn2 : bl2 nx = none := (hb2 nx (by simp)).trans hn
      intro ok0 base pl w a hr hxs K Q hK
      have hv : a.eval x = .slice none 0 0 := by have := hxs x hx0; rw [hx] at this; exact this
      have hy : a.eval y = .int ki m := by have := hxs y hy0; rw [Q29 hm] at this; exact this
      obtain ⟨m, rfl⟩ : ∃ q : Nat, m = (q : Int) := ⟨m.toNat, by omega⟩
      simp only [Int.toNat_natCast] at c2 hk hK ⊢
      have hzl : z'.cells.size = te.size := by
       have := fe.len
       rw [Array.length_toList] at this
       rw [this, fe.size]
      have hzr : DRep w (Q4 ok0 base pl bl2 w).ok e z0 z'.cells.toList := Q3v hr.blksOk (Rows.none _ _) (by rw [fe.zeroC]; exact Q27 fe.one) hz0
      have hzs : DList (fun x u => DRep w (Q4 ok0 base pl bl2 w).ok e x u) (List.replicate m z0) (repL m z'.cells.toList) := DList.rep hzr _
      have hyl := hzs.length
      simp only [List.length_replicate] at hyl
      have hrun : ∃ v' w', (Builtin.append_ #[t, u] o.type #[a.eval x, a.eval y]).run P w = .ok v' w' ∧ w.grownBy w' none ∧ w'.ownsRow w.heap.size et e.size v' m (repL m z'.cells.toList) := by
       rw [hv, hy]
       rcases Nat.eq_zero_or_pos m with h0 | h0
       ·subst h0
        refine ⟨.slice none 0 0, w, ?_, ⟨rfl, rfl, rfl, Nat.le_refl _, fun _ _ _ => rfl⟩, World.ownsRow_nil w w.heap.size et e.size⟩
        have hwr : IntKind.i64.wrap (0 : Int) = 0 := by decide
        simp [Builtin.append_, run_underlying f.under, run_underlying f2.under, sizeOf, typeInfo, fe.info, asInt, asIntOf, hwr]
       ·refine ⟨_, _, Qb8 fe f.under f2.under h0 hs3 c2 hs2, ⟨rfl, rfl, rfl, by simp, fun k hk _ => heap_alloc_old w.drew _ k hk⟩, hyl, .inr ⟨w.heap.size, _, _, rfl, Nat.le_refl _, heap_alloc_new w.drew _, grownCap_ge w m 0 et, grownCap_le_maxLen w m 0 et ?_, ?_, ?_⟩⟩
        ·simp only [Q5, maxLen] at c2 ⊢
         have h1 : m * 1 ≤ m * te.bytes := Nat.mul_le_mul_left _ hs3
         omega
        ·have := grownCap_ge w m 0 et
         simp only [Array.size_append, size_zeroCells, hzl, hs1, ← Nat.add_mul]
         congr 1
         omega
        ·rw [Array.toList_append, Q7a z'.cells (by omega) m, ← hyl]
         exact List.take_left
      obtain ⟨v', w', hrun, hgr', hown⟩ := hrun
      have hp : ∀ g, (Pl.row v' []).has g → w.heap.size ≤ g := fun g hg => (hown.lt g (Pl.has_row hg)).1
      have hst : Step pl bl2 w (upd pl nx (.row v' [])) (upd bl2 nx (.row et e 0 (List.replicate m z0))) w' := Step.new hr hn2 hgr' hp
      have hex : (execOp a.eval o).run P w = .ok (.value v') w' := by simp [execOp, ho, resolve, hc, hargs, htys, invoke, builtin, hrun]
      refine Qn hex (hK v' (upd pl nx (.row v' [])) w' ?_ hst ?_)
      ·refine RelB.new hr hn2 hgr' hp ⟨rfl, repL m z'.cells.toList, hzs.mono fun x u hu => hu.mono hst.ext.heap, ?_⟩
       rw [List.length_replicate]
       exact Q2j hown hr.baseLe
      ·refine ⟨?_, v', [], by simp [Q4, upd], fun t1 e1 ver1 l1 h1 => ?_⟩
       ·rcases hown.2 with ⟨rfl, _⟩ | ⟨g, cap, cur, rfl, _⟩ <;> rfl
       ·simp only [Q4, updL, upd, if_true, Option.some.injEq] at h1
        injection h1 with q1 q2 q3 q4
        subst q3
        exact ⟨Nat.le_refl _, fun _ => rfl⟩
    ·cases hk
   ·cases hk
  ·cases hk
 ·cases hk
end
end Go.Lift
namespace Go.Lift
open Go.RowKit
section
variable {P : Program} {o : Oper} {ρ : Operand → V} {bl : Nat → Option Blk} {β : Type} {r : β}
theorem Qj3 {kk : K β} {t : TypeId} {x : Operand} (ho : o.op = .unOp .not t x) {b : Bool} (hx : ρ x = .c (.bool b)) (hk : kk (.c (.bool (!b))) [] [] = some r) : Sound P o ρ bl kk r := by
 refine Sound.pure hk fun bl2 _ ok0 base pl w a hr hxs => ⟨.bool (!b), ?_, rfl⟩
 have h1 := hxs x (by simp [ho, Op.operands])
 rw [hx] at h1
 have h1' : a.eval x = .bool b := h1
 simp [execOp, ho, h1', Op.unary]
theorem Qj4 {kk : K β} {t : TypeId} {x : Operand} (ho : o.op = .unOp .neg t x) {k : IntKind} {n : Int} (hx : ρ x = .c (.int k n)) (hk : kk (.c (.int k (k.wrap (0 - n)))) [] [] = some r) : Sound P o ρ bl kk r := by
 refine Sound.pure hk fun bl2 _ ok0 base pl w a hr hxs => ⟨.int k (k.wrap (0 - n)), ?_, rfl⟩
 have h1 := hxs x (by simp [ho, Op.operands])
 rw [hx] at h1
 have h1' : a.eval x = .int k n := h1
 simp [execOp, ho, h1', Op.unary, Op.intArith]
theorem Qdp {T : TypeId → Option TI} (hT : TOk P T) {kk : K β} {s t : TypeId} {x : Operand} (ho : o.op = .convert s t x) {si ti : TI} (hs : T s = some si) (ht : T t = some ti) {k0 k : IntKind} {n : Int} (hx : ρ x = .c (.int k0 n)) (hkd : ti.kind = some k)
  (hk : kk (.c (.int k (k.wrap n))) [] [] = some r) : Sound P o ρ bl kk r := by
 obtain ⟨i, d, z, f⟩ := hT.facts ht
 obtain ⟨i', d', z', f'⟩ := hT.facts hs
 have hd : d = .int k := by
  rw [f.kind] at hkd
  cases d <;> simp_all [Q9k]
 subst hd
 refine Sound.pure hk fun bl2 _ ok0 base pl w a hr hxs => ⟨.int k (k.wrap n), ?_, rfl⟩
 have h1 := hxs x (by simp [ho, Op.operands])
 rw [hx] at h1
 have h1' : a.eval x = .int k0 n := h1
 simp [execOp, ho, h1', convert, run_underlying f.under, run_underlying f'.under, Conv.intToInt]
theorem Qdq {T : TypeId → Option TI} (hT : TOk P T) {kk : K β} {s t : TypeId} {x : Operand} (ho : o.op = .convert s t x) {si ti : TI} (hs : T s = some si) (ht : T t = some ti) {l : List UInt8} (hx : ρ x = .c (.str l)) (hkd : ti.isStr = true)
  (hk : kk (.c (.str l)) [] [] = some r) : Sound P o ρ bl kk r := by
 obtain ⟨i, d, z, f⟩ := hT.facts ht
 obtain ⟨i', d', z', f'⟩ := hT.facts hs
 have hd := Q5z f hkd
 subst hd
 refine Sound.pure hk fun bl2 _ ok0 base pl w a hr hxs => ⟨.string ⟨l.toArray⟩, ?_, rfl⟩
 have h1 := hxs x (by simp [ho, Op.operands])
 rw [hx] at h1
 have h1' : a.eval x = .string ⟨l.toArray⟩ := h1
 simp [execOp, ho, h1', convert, run_underlying f.under, run_underlying f'.under]
theorem Qb9 {E : Env} : ∀ {vs : List V} {us : List Value} {bs : List Nat}, Q75 vs = some bs → vs.length = us.length → (∀ (j : Nat) (v : V) (u : Value), vs[j]? = some v → us[j]? = some u → VRep E v u) →
  ∃ gs : List Nat, bs.map E.pl = gs.map (fun g => some (.cells g)) ∧ us = gs.map fun g => .pointer (some ⟨g, 0, none⟩)
 | [], us, bs, h, hl, hv => by
  simp only [Q75, Option.some.injEq] at h
  subst h
  cases us with
  | nil => exact ⟨[], rfl, rfl⟩
  | cons u us => simp at hl
 | v :: vs, us, bs, h, hl, hv => by
  cases us with
  | nil => simp at hl
  | cons u us =>
   unfold Q75 at h
   split at h
   ·rename_i heq; cases heq
   ·rename_i b r' heq
    injection heq with h1 h2
    subst h1 h2
    split at h
    ·rename_i l hl'
     simp only [Option.some.injEq] at h
     subst h
     obtain ⟨gs, h3, h4⟩ := Qb9 hl' (by simpa using hl) (fun j v u hj hu => hv (j + 1) v u (by simpa using hj) (by simpa using hu))
     obtain ⟨g, hg, hu⟩ := hv 0 _ _ rfl rfl
     exact ⟨g :: gs, by simp [h3, hg], by simp [h4, hu]⟩
    ·cases h
   ·cases h
theorem Qcd {kk : K β} {f : FuncId} {first caps : Array Operand} (ho : o.op = .makeFunc (.func f) first caps) (hf : first.toList = []) {bs : List Nat} (hb : Q75 (caps.toList.map ρ) = some bs) (hk : kk (.c (.fn f bs)) [] [] = some r) : Sound P o ρ bl kk r := by
 have hf' : first = #[] := by simpa using hf
 subst hf'
 refine Sound.pure hk fun bl2 _ ok0 base pl w a hr hxs => ?_
 obtain ⟨gs, h1, h2⟩ := Qb9 (E := Q4 ok0 base pl bl2 w) (us := caps.toList.map a.eval) hb (by simp) (fun j v u hj hu => by
  rw [List.getElem?_map] at hj hu
  cases hc : caps.toList[j]? with
  | none => rw [hc] at hj; cases hj
  | some x =>
   rw [hc] at hj hu
   simp only [Option.map_some, Option.some.injEq] at hj hu
   subst hj hu
   exact hxs x (by simp only [ho, Op.operands, Array.mem_append]; exact .inr (by have := List.mem_of_getElem? hc; simpa using this)))
 refine ⟨.func (.func f) #[] (gs.map fun g => .pointer (some ⟨g, 0, none⟩)).toArray, ?_, gs, h1, rfl⟩
 have h3 : caps.map a.eval = (gs.map fun g => Value.pointer (some ⟨g, 0, none⟩)).toArray := by
  apply Array.ext'
  simpa using h2
 simp [execOp, ho, Instr.makeFunc, h3]
theorem Q20 {kk : K β} {x : Operand} (ho : o.op = .nilCheck x) (hx : (∃ b of, ρ x = .c (.ptr b of)) ∨ (∃ b ver i of, ρ x = .eptr b ver i of) ∨ (∃ e y of, ρ x = .lptr e y of) ∨ (∃ f caps, ρ x = .c (.fn f caps)) ∨ (∃ b ver i, ρ x = .mcell b ver i) ∨ (∃ b ver i j of, ρ x = .mptr b ver i j of))
  (hk : kk (ρ x) [] [] = some r) : Sound P o ρ bl kk r := by
 refine Sound.pure hk fun bl2 _ ok0 base pl w a hr hxs => ⟨a.eval x, ?_, hxs x (by simp [ho, Op.operands])⟩
 have h1 := hxs x (by simp [ho, Op.operands])
 rcases hx with ⟨b, of, hx⟩ | ⟨b, ver, i, of, hx⟩ | ⟨e, y, of, hx⟩ | ⟨f, caps, hx⟩ | ⟨b, ver, i, hx⟩ | ⟨b, ver, i, j, of, hx⟩ <;> rw [hx] at h1
 ·obtain ⟨g, _, hv⟩ := h1
  simp [execOp, ho, hv]
 ·obtain ⟨sv, svs, ad, _, hv, _⟩ := h1
  simp [execOp, ho, hv]
 ·obtain ⟨xs, ad, _, hv, _⟩ := h1
  simp [execOp, ho, hv]
 ·obtain ⟨gs, _, hv⟩ := h1
  simp [execOp, ho, hv]
 ·obtain ⟨sv, svs, ad, _, hv, _⟩ := h1
  simp [execOp, ho, hv]
 ·obtain ⟨sv, svs, ad, _, hv, _⟩ := h1
  simp [execOp, ho, hv]
theorem Qgd {T : TypeId → Option TI} (hT : TOk P T) {kk : K β} {t : TypeId} {x : Operand} {fi : Nat} (ho : o.op = .field t x fi) {ti : TI} (ht : T t = some ti) {cs : List C} (hx : ρ x = .agg cs) {off n : Nat} {g : Bool} (hf : ti.flds[fi]? = some (off, n, g))
  (h1 : (g || Nat.beq n 1) = true) {rc : List C} (hs : sub cs off n = some rc) (hk : kk (V.mk g rc) [] [] = some r) : Sound P o ρ bl kk r := by
 obtain ⟨i, d, z, f⟩ := hT.facts ht
 obtain ⟨fs, fd, j, e, rfl, hfd, rfl, hj, rfl, he, hg⟩ := Qcr f hf
 refine Sound.pure hk fun bl2 _ ok0 base pl w a hr hxs => ?_
 have hv := hxs x (by simp [ho, Op.operands])
 rw [hx] at hv
 obtain ⟨vs, hvs, hav⟩ := hv
 simp only [if_true] at hav
 obtain ⟨s1, s2, s3⟩ := Q5m hvs hs
 have hagg : (isAgg fd.type).run P w = .ok g w := by
  rw [← hg]
  unfold isAgg Q37
  rw [Sem.run_bind, run_underlying he w, he]
  cases e <;> simp
 have hsz : (sizeOf fd.type).run P w = .ok j.size w := by simp [sizeOf, typeInfo, hj]
 cases g with
 | true =>
  refine ⟨.agg ((vs.drop fd.offset).take j.size).toArray, ?_, _, s1, by simp⟩
  have hex : vs.toArray.extract fd.offset (fd.offset + j.size) = ((vs.drop fd.offset).take j.size).toArray := by
   apply Array.ext'
   simp
  simp [execOp, ho, hav, Instr.field, run_underlying f.under, hfd, asAgg, part, hagg, hsz]
 | false =>
  have hn : j.size = 1 := by simpa using Nat.eq_of_beq_eq_true (by simpa using h1)
  have hlt : fd.offset < vs.length := by omega
  have htake : (vs.drop fd.offset).take j.size = [vs[fd.offset]] := by
   rw [hn, List.drop_eq_getElem_cons hlt]
   rfl
  rw [htake] at s1
  refine ⟨vs[fd.offset], ?_, VRep.mk ⟨_, s1, by simp⟩⟩
  simp [execOp, ho, hav, Instr.field, run_underlying f.under, hfd, asAgg, part, hagg, hlt]
theorem Qge {T : TypeId → Option TI} (hT : TOk P T) {kk : K β} {t : TypeId} {x y : Operand} (ho : o.op = .index t x y) {ti : TI} (ht : T t = some ti) {s : List UInt8} (hx : ρ x = .c (.str s)) {k : IntKind} {i : Int} (hy : ival (ρ y) = some (k, i)) (hstr : ti.isStr = true)
  (h0 : 0 ≤ i) (h1 : i < (s.length : Int)) (hk : kk (.c (.int .u8 ((s.getD i.toNat 0).toNat : Int))) [] [] = some r) : Sound P o ρ bl kk r := by
 obtain ⟨inf, d, z, f⟩ := hT.facts ht
 have := Q5z f hstr
 subst this
 refine Sound.pure hk fun bl2 _ ok0 base pl w a hr hxs => ⟨.int .u8 ((s.getD i.toNat 0).toNat : Int), ?_, rfl⟩
 have hx1 := hxs x (by simp [ho, Op.operands])
 have hy1 := hxs y (by simp [ho, Op.operands])
 rw [hx] at hx1
 rw [Q29 hy] at hy1
 have hx2 : a.eval x = .string ⟨s.toArray⟩ := hx1
 have hy2 : a.eval y = .int k i := hy1
 have hlt : i.toNat < s.length := by omega
 have hget : (⟨s.toArray⟩ : ByteArray)[i.toNat]? = some s[i.toNat] := by
  have hsz : i.toNat < (⟨s.toArray⟩ : ByteArray).size := hlt
  rw [getElem?_pos (⟨s.toArray⟩ : ByteArray) i.toNat hsz]
  rfl
 have hd : s.getD i.toNat 0 = s[i.toNat] := by simp [List.getD, hlt]
 rw [hd]
 simp [execOp, ho, hx2, hy2, Instr.index, asIntOf, run_underlying f.under, h0, hget]
theorem TReps.get {E : Env} : ∀ {ts : List (Bool × List C)} {vs : List Value} {i : Nat} {t : Bool × List C}, TReps E ts vs → ts[i]? = some t → ∃ v, vs[i]? = some v ∧ SRep E t.1 t.2 v
 | [], _, i, t, _, h => by simp at h
 | t0 :: ts, _, 0, t, ⟨v, vs', e, h1, h2⟩, h => by
  simp only [List.getElem?_cons_zero, Option.some.injEq] at h
  subst h e
  exact ⟨v, rfl, h1⟩
 | t0 :: ts, _, i + 1, t, ⟨v, vs', e, h1, h2⟩, h => by
  subst e
  obtain ⟨u, h3, h4⟩ := TReps.get (i := i) h2 (by simpa using h)
  exact ⟨u, by simpa using h3, h4⟩
theorem Qdr {kk : K β} {x : Operand} {i : Nat} (ho : o.op = .extract x i) {ts : List (Bool × List C)} (hx : ρ x = .tup ts) {t : Bool × List C} (ht : ts[i]? = some t) (hk : kk (V.mk t.1 t.2) [] [] = some r) : Sound P o ρ bl kk r := by
 refine Sound.pure hk fun bl2 _ ok0 base pl w a hr hxs => ?_
 have h1 := hxs x (by simp [ho, Op.operands])
 rw [hx] at h1
 obtain ⟨vs, hv, hts⟩ := h1
 obtain ⟨v, hv2, hs⟩ := TReps.get hts ht
 refine ⟨v, ?_, VRep.mk hs⟩
 simp [execOp, ho, hv, Instr.extract, hv2]
theorem Q7b {E : Env} {isMax : Bool} {k : IntKind} : ∀ {vs : List V} {us : List Value} {a : Int} {v : V}, Q41 isMax k a vs = some v → vs.length = us.length → (∀ (j : Nat) (x : V) (u : Value), vs[j]? = some x → us[j]? = some u → VRep E x u) → ∀ w,
  ∃ n, v = .c (.int k n) ∧ (us.foldlM (bif isMax then Builtin.max2 else Builtin.min2) (.int k a)).run P w = .ok (.int k n) w
 | [], us, a, v, h, hl, hv, w => by
  simp only [Q41, Option.some.injEq] at h
  cases us with
  | nil => exact ⟨a, h.symm, rfl⟩
  | cons u us => simp at hl
 | x :: vs, us, a, v, h, hl, hv, w => by
  cases us with
  | nil => simp at hl
  | cons u us =>
   unfold Q41 at h
   split at h
   ·rename_i heq; cases heq
   ·rename_i a' k' b r' heq
    injection heq with h1 h2
    subst h1 h2
    split at h
    ·rename_i hkk
     subst hkk
     have hu : u = .int k b := hv 0 _ _ rfl rfl
     subst hu
     obtain ⟨n, h3, h4⟩ := Q7b h (by simpa using hl) (fun j x u hj hu => hv (j + 1) x u (by simpa using hj) (by simpa using hu)) w
     refine ⟨n, h3, ?_⟩
     rw [List.foldlM_cons]
     cases isMax with
     | true =>
      simp only [cond_true, Sem.run_bind, Builtin.max2, Sem.run_pure, Result.andThen_ok] at h4 ⊢
      exact h4
     | false =>
      simp only [cond_false, Sem.run_bind, Builtin.min2, Sem.run_pure, Result.andThen_ok] at h4 ⊢
      exact h4
    ·cases h
   ·cases h
theorem Q8t {isMax : Bool} {kk : K β} {c : Call} (ho : o.op = .call c) (hc : c.callee = .builtin (bif isMax then .max else .min)) {v : V} (hm : Qax isMax (c.args.toList.map ρ) = some v) (hk : kk v [] [] = some r) : Sound P o ρ bl kk r := by
 refine Sound.pure hk fun bl2 _ ok0 base pl w a hr hxs => ?_
 have hvs : ∀ (j : Nat) (x : V) (u : Value), (c.args.toList.map ρ)[j]? = some x → (c.args.toList.map a.eval)[j]? = some u → VRep (Q4 ok0 base pl bl2 w) x u := by
  intro j x u hj hu
  rw [List.getElem?_map] at hj hu
  cases hcj : c.args.toList[j]? with
  | none => rw [hcj] at hj; cases hj
  | some y =>
   rw [hcj] at hj hu
   simp only [Option.map_some, Option.some.injEq] at hj hu
   subst hj hu
   exact hxs y (by simp only [ho, Op.operands, Call.operands, Array.mem_append]; exact .inr (by have := List.mem_of_getElem? hcj; simpa using this))
 have hl : (c.args.toList.map ρ).length = (c.args.toList.map a.eval).length := by simp
 generalize c.args.toList.map ρ = vs at hm hvs hl
 generalize hus : c.args.toList.map a.eval = us at hvs hl
 unfold Qax at hm
 split at hm
 ·rename_i k a0 r'
  cases us with
  | nil => simp at hl
  | cons u us =>
   have hu : u = .int k a0 := hvs 0 _ _ rfl rfl
   subst hu
   obtain ⟨n, h3, h4⟩ := Q7b (P := P) hm (by simpa using hl) (fun j x u hj hu => hvs (j + 1) x u (by simpa using hj) (by simpa using hu)) w
   subst h3
   refine ⟨.int k n, ?_, rfl⟩
   cases isMax with
   | true =>
    simp only [cond_true] at h4 hc
    simp [execOp, ho, resolve, hc, invoke, builtin, Builtin.max_, hus, h4]
   | false =>
    simp only [cond_false] at h4 hc
    simp [execOp, ho, resolve, hc, invoke, builtin, Builtin.min_, hus, h4]
 ·cases hm
end
end Go.Lift
namespace Go.Lift
open Go.RowKit
theorem Q3p {x : Nat} : ∀ {l : List Nat}, memB x l = true ↔ x ∈ l
 | [] => by simp [memB]
 | y :: r => by
  simp only [memB, Bool.or_eq_true, Q3p (l := r), List.mem_cons]
  constructor
  ·rintro (h | h)
   ·exact .inl (Nat.eq_of_beq_eq_true h)
   ·exact .inr h
  ·rintro (h | h)
   ·subst h; exact .inl (Q3n x)
   ·exact .inr h
theorem Q7u : ∀ {l : List Nat}, Q8i l = true → l.Nodup
 | [], _ => List.nodup_nil
 | x :: r, h => by
  obtain ⟨h1, h2⟩ := andB h
  refine List.nodup_cons.2 ⟨fun hm => ?_, Q7u h2⟩
  have := Q3p.2 hm
  rw [this] at h1
  cases h1
theorem Qba {i : Nat} : ∀ {n s : Nat}, i ∈ Q7 s n ↔ s ≤ i ∧ i < s + n
 | 0, s => by simp only [Q7, List.not_mem_nil, false_iff]; omega
 | n + 1, s => by simp only [Q7, List.mem_cons, Qba (n := n)]; omega
theorem Q59 : ∀ {n s : Nat}, (Q7 s n).length = n
 | 0, _ => rfl
 | n + 1, s => by simp [Q7, Q59 (n := n)]
theorem Q5c : ∀ {n s b : Nat}, b < n → (Q7 s n)[b]? = some (s + b)
 | 0, _, _, h => by omega
 | n + 1, s, 0, _ => rfl
 | n + 1, s, b + 1, h => by
  simp only [Q7, List.getElem?_cons_succ]
  rw [Q5c (n := n) (by omega)]
  congr 1
  omega
theorem Q61 : ∀ {n s : Nat}, (Q7 s n).Nodup
 | 0, _ => List.nodup_nil
 | n + 1, s => List.nodup_cons.2 ⟨fun h => by have := Qba.1 h; omega, Q61⟩
theorem Q8u {bl : Nat → Option Blk} : ∀ {l : List Nat}, Q9e bl l = true → ∀ i ∈ l, bl i = none
 | [], _, i, h => by simp at h
 | j :: r, h, i, hi => by
  simp only [Q9e] at h
  split at h
  ·rename_i hj
   rcases List.mem_cons.1 hi with rfl | hi
   ·exact hj
   ·exact Q8u h i hi
  ·cases h
structure Ren (E E' : Env) (ids ids' : List Nat) : Prop where
 cells : ∀ b i g, ids[b]? = some i → E.pl i = some (.cells g) → E'.pl (ids'.getD b 0) = some (.cells g)
 row : ∀ b i sv svs t e ver l, ids[b]? = some i → E.bl i = some (.row t e ver l) → E.pl i = some (.row sv svs) → E'.pl (ids'.getD b 0) = some (.row sv svs)
 mat : ∀ b i sv svs t et e ver iver hole l, ids[b]? = some i → E.bl i = some (.mat t et e ver iver hole l) → E.pl i = some (.row sv svs) → E'.pl (ids'.getD b 0) = some (.row sv svs)
 nil : ∀ b i, ids[b]? = some i → E.bl i = none → E'.pl (ids'.getD b 0) = some (.row (.slice none 0 0) [])
theorem Qes {E E' : Env} {ids ids' : List Nat} (hr : Ren E E' ids ids') : ∀ (caps caps' gs : List Nat), caps.map (ids[·]?) = caps'.map some → caps'.map E.pl = gs.map (fun g => some (.cells g)) →
  (caps.map fun b => ids'.getD b 0).map E'.pl = gs.map (fun g => some (.cells g))
 | [], caps', gs, h, hg => by
  cases caps' with
  | nil => cases gs <;> simp_all
  | cons b bs => simp at h
 | b :: bs, caps', gs, h, hg => by
  cases caps' with
  | nil => simp at h
  | cons b' bs' =>
   cases gs with
   | nil => simp at hg
   | cons g gs =>
    simp only [List.map_cons, List.cons.injEq] at h hg ⊢
    exact ⟨hr.cells b b' g h.1 hg.1, Qes hr bs bs' gs h.2 hg.2⟩
theorem Q10 {E E' : Env} {blp : Nat → Option Blk} {ids ids' : List Nat} (hb : Q1m E) (hw : E'.w = E.w) (hr : Ren E E' ids ids') (hsub : ∀ i ∈ ids, blp i = E.bl i) : ∀ {l : List CT} {cs : List C} {vs : List Value} {y : CT.dens l},
  Rows E blp E'.ok (Qg cs) → CReps E cs vs → Qf blp ids l cs = some y → CReps E' (mkC ids' l y) vs
 | [], cs, vs, y, hrw, h, hp => by
  cases cs with
  | nil => exact h
  | cons c cs => simp [Qf] at hp
 | .data τ :: l, cs, vs, y, hrw, h, hp => by
  simp only [Qf] at hp
  split at hp
  ·cases hp
  ·rename_i x r hx
   split at hp
   ·cases hp
   ·rename_i y' hy
    simp only [Option.some.injEq] at hp
    subst hp
    obtain ⟨us, ws, e, d, c, ds, hc⟩ := Q4j hb hrw h hx
    have hrw1 : Rows E blp E'.ok (Qg r) := hrw.sub fun b hbm => by rw [hc, Q2x]; exact List.mem_append_right _ hbm
    rw [e]
    refine CReps.append ?_ (Q10 hb hw hr hsub hrw1 c hy)
    exact Q1a (by rw [hw]; exact d)
 | .ptr b o :: l, cs, vs, y, hrw, h, hp => by
  cases cs with
  | nil => simp [Qf] at hp
  | cons c cs =>
   cases c <;> simp only [Qf] at hp <;> try (cases hp; done)
   rename_i b' o'
   split at hp
   ·rename_i i hi
    cases hc : (Nat.beq i b' && Nat.beq o o') with
    | false => rw [hc] at hp; cases hp
    | true =>
     simp only [hc, cond_true] at hp
     obtain ⟨h1, h2⟩ := andB hc
     have h1 := Nat.eq_of_beq_eq_true h1
     have h2 := Nat.eq_of_beq_eq_true h2
     subst h1 h2
     obtain ⟨v, vs', e, ⟨g, hg, hv⟩, ht⟩ := h
     exact ⟨v, vs', e, ⟨g, hr.cells b i g hi hg, hv⟩, Q10 hb hw hr hsub hrw.tail ht hp⟩
   ·cases hp
 | .rowh b :: l, cs, vs, y, hrw, h, hp => by
  cases cs with
  | nil => simp [Qf] at hp
  | cons c cs =>
   cases c <;> simp only [Qf] at hp <;> try (cases hp; done)
   ·
    split at hp
    ·rename_i i hi
     split at hp
     ·rename_i hn
      obtain ⟨v, vs', e, hv, ht⟩ := h
      simp only [CRep] at hv
      subst hv
      have hn' : E.bl i = none := by rw [← hsub i (List.mem_of_getElem? hi)]; exact hn
      exact ⟨_, vs', e, ⟨rfl, _, _, hr.nil b i hi hn', fun _ _ _ _ _ => ⟨Nat.zero_le _, fun _ => rfl⟩⟩, Q10 hb hw hr hsub hrw.tail ht hp⟩
     ·cases hp
    ·cases hp
   ·rename_i b' ver
    split at hp
    ·rename_i i hi
     cases hc : Nat.beq i b' with
     | false => rw [hc] at hp; cases hp
     | true =>
      have := Nat.eq_of_beq_eq_true hc
      subst this
      simp only [hc, cond_true] at hp
      split at hp
      ·rename_i t e ver' l' hbl
       cases hv' : Nat.beq ver ver' with
       | false => rw [hv'] at hp; cases hp
       | true =>
        have := Nat.eq_of_beq_eq_true hv'
        subst this
        simp only [hv', cond_true] at hp
        obtain ⟨v, vs', ev, ⟨h1, sv, svs, hsv, hcur⟩, ht⟩ := h
        have hbl' : E.bl i = some (.row t e ver l') := by rw [← hsub i (List.mem_of_getElem? hi)]; exact hbl
        have hvs := (hcur t e ver l' hbl').2 rfl
        exact ⟨v, vs', ev, ⟨h1, sv, svs, hr.row b i sv svs t e ver l' hi hbl' hsv, fun _ _ _ _ _ => ⟨Nat.zero_le _, fun _ => hvs⟩⟩, Q10 hb hw hr hsub hrw.tail ht hp⟩
      ·cases hp
    ·cases hp
 | .fn f caps :: l, cs, vs, y, hrw, h, hp => by
  cases cs with
  | nil => simp [Qf] at hp
  | cons c cs =>
   cases c <;> simp only [Qf] at hp <;> try (cases hp; done)
   rename_i f' caps'
   cases hc : (Nat.beq f f' && decide (caps.map (ids[·]?) = caps'.map some)) with
   | false => rw [hc] at hp; cases hp
   | true =>
    simp only [hc, cond_true] at hp
    obtain ⟨h1, h2⟩ := andB hc
    have h1 := Nat.eq_of_beq_eq_true h1
    have h2 := of_decide_eq_true h2
    subst h1
    obtain ⟨v, vs', e, ⟨gs, hg, hv⟩, ht⟩ := h
    refine ⟨v, vs', e, ⟨gs, ?_, hv⟩, Q10 hb hw hr hsub hrw.tail ht hp⟩
    exact Qes hr caps caps' gs h2 hg
 | .bself b :: l, cs, vs, y, hrw, h, hp => by
  cases cs with
  | nil => simp [Qf] at hp
  | cons c cs =>
   cases c <;> simp only [Qf] at hp <;> try (cases hp; done)
   ·obtain ⟨v, vs', e, hv, ht⟩ := h
    exact ⟨v, vs', e, .inl hv, Q10 hb hw hr hsub hrw.tail ht hp⟩
   ·rename_i b'
    split at hp
    ·rename_i i hi
     cases hc : Nat.beq i b' with
     | false => rw [hc] at hp; cases hp
     | true =>
      simp only [hc, cond_true] at hp
      have h1 := Nat.eq_of_beq_eq_true hc
      subst h1
      obtain ⟨v, vs', e, hg, ht⟩ := h
      refine ⟨v, vs', e, ?_, Q10 hb hw hr hsub hrw.tail ht hp⟩
      rcases hg with hg | ⟨g, hg, hv⟩
      ·exact .inl hg
      ·exact .inr ⟨g, hr.cells b i g hi hg, hv⟩
    ·cases hp
 | .maph b :: l, cs, vs, y, hrw, h, hp => by
  cases cs with
  | nil => simp [Qf] at hp
  | cons c cs =>
   cases c <;> simp only [Qf] at hp <;> try (cases hp; done)
   rename_i b'
   split at hp
   ·rename_i i hi
    cases hc : Nat.beq i b' with
    | false => rw [hc] at hp; cases hp
    | true =>
     simp only [hc, cond_true] at hp
     have h1 := Nat.eq_of_beq_eq_true hc
     subst h1
     obtain ⟨v, vs', e, ⟨g, hg, hv⟩, ht⟩ := h
     exact ⟨v, vs', e, ⟨g, hr.cells b i g hi hg, hv⟩, Q10 hb hw hr hsub hrw.tail ht hp⟩
   ·cases hp
 | .math b :: l, cs, vs, y, hrw, h, hp => by
  cases cs with
  | nil => simp [Qf] at hp
  | cons c cs =>
   cases c <;> simp only [Qf] at hp <;> try (cases hp; done)
   ·
    split at hp
    ·rename_i i hi
     split at hp
     ·rename_i hn
      obtain ⟨v, vs', e, hv, ht⟩ := h
      simp only [CRep] at hv
      subst hv
      have hn' : E.bl i = none := by rw [← hsub i (List.mem_of_getElem? hi)]; exact hn
      exact ⟨_, vs', e, ⟨rfl, _, _, hr.nil b i hi hn', fun _ _ _ _ _ _ _ _ => ⟨Nat.zero_le _, fun _ => rfl⟩⟩, Q10 hb hw hr hsub hrw.tail ht hp⟩
     ·cases hp
    ·cases hp
   ·rename_i b' ver
    split at hp
    ·rename_i i hi
     cases hc : Nat.beq i b' with
     | false => rw [hc] at hp; cases hp
     | true =>
      have := Nat.eq_of_beq_eq_true hc
      subst this
      simp only [hc, cond_true] at hp
      split at hp
      ·rename_i t et e ver' iver l' hbl
       cases hv' : Nat.beq ver ver' with
       | false => rw [hv'] at hp; cases hp
       | true =>
        have := Nat.eq_of_beq_eq_true hv'
        subst this
        simp only [hv', cond_true] at hp
        obtain ⟨v, vs', ev, ⟨h1, sv, svs, hsv, hcur⟩, ht⟩ := h
        have hbl' : E.bl i = some (.mat t et e ver iver none l') := by rw [← hsub i (List.mem_of_getElem? hi)]; exact hbl
        have hvs := (hcur _ _ _ _ _ _ _ hbl').2 rfl
        exact ⟨v, vs', ev, ⟨h1, sv, svs, hr.mat b i sv svs _ _ _ _ _ _ _ hi hbl' hsv, fun _ _ _ _ _ _ _ _ => ⟨Nat.zero_le _, fun _ => hvs⟩⟩, Q10 hb hw hr hsub hrw.tail ht hp⟩
      ·cases hp
    ·cases hp
 | .nilc :: l, cs, vs, y, hrw, h, hp => by
  cases cs with
  | nil => simp [Qf] at hp
  | cons c cs => cases c <;> simp [Qf] at hp
 | .lsome _ :: l, cs, vs, y, hrw, h, hp => by
  cases cs with
  | nil => simp [Qf] at hp
  | cons c cs => cases c <;> simp [Qf] at hp
 | .nils :: l, cs, vs, y, hrw, h, hp => by
  cases cs with
  | nil => simp [Qf] at hp
  | cons c cs =>
   cases c <;> simp only [Qf] at hp <;> first | (cases hp; done) | skip
   obtain ⟨v, vs', e, hv, ht⟩ := h
   exact ⟨v, vs', e, hv, Q10 hb hw hr hsub hrw.tail ht hp⟩
 | .junk :: l, cs, vs, y, hrw, h, hp => by
  cases cs with
  | nil => simp [Qf] at hp
  | cons c cs =>
   simp only [Qf] at hp
   obtain ⟨v, vs', e, hv, ht⟩ := h
   exact ⟨v, vs', e, CRep.oneCell hv, Q10 hb hw hr hsub hrw.tail ht hp⟩
def VReps (E : Env) : List V → List Value → Prop
 | [], us => us = []
 | v :: vs, us => ∃ u us', us = u :: us' ∧ VRep E v u ∧ VReps E vs us'
theorem Q8v {v : V} {vs : List V} {cs : List C} (h : v.cells = some cs) : Qj (v :: vs) = Qg cs ++ Qj vs := by simp [Qj, h]
theorem Q8w {E E' : Env} {blp : Nat → Option Blk} {ids ids' : List Nat} (hb : Q1m E) (hw : E'.w = E.w) (hr : Ren E E' ids ids') (hsub : ∀ i ∈ ids, blp i = E.bl i) : ∀ {l : List (Bool × List CT)} {vs : List V} {us : List Value} {y : ST.dens l},
  Rows E blp E'.ok (Qj vs) → VReps E vs us → Q31 blp ids l vs = some y → TReps E' (mkS ids' l y) us
 | [], vs, us, y, hrw, h, hp => by
  cases vs with
  | nil => exact h
  | cons v vs => simp [Q31] at hp
 | t :: l, vs, us, y, hrw, h, hp => by
  cases vs with
  | nil => simp [Q31] at hp
  | cons v vs =>
   obtain ⟨u, us', e, hv, ht⟩ := h
   obtain ⟨agg, ct⟩ := t
   cases agg with
   | false =>
    cases v <;> simp only [Q31] at hp <;> try (cases hp; done)
    rename_i x
    split at hp
    ·cases hp
    ·rename_i y1 h1
     split at hp
     ·cases hp
     ·rename_i z h2
      simp only [Option.some.injEq] at hp
      subst hp
      have hrow : Qj (V.c x :: vs) = Qg [x] ++ Qj vs := Q8v rfl
      refine ⟨u, us', e, ⟨[u], ?_, by simp⟩, Q8w hb hw hr hsub (hrw.sub fun b hbm => by rw [hrow]; exact List.mem_append_right _ hbm) ht h2⟩
      exact Q10 hb hw hr hsub (hrw.sub fun b hbm => by rw [hrow]; exact List.mem_append_left _ hbm) (show CReps E [x] [u] from ⟨u, [], rfl, hv, rfl⟩) h1
   | true =>
    cases v <;> simp only [Q31] at hp <;> try (cases hp; done)
    rename_i cs
    split at hp
    ·cases hp
    ·rename_i y1 h1
     split at hp
     ·cases hp
     ·rename_i z h2
      simp only [Option.some.injEq] at hp
      subst hp
      have hrow : Qj (V.agg cs :: vs) = Qg cs ++ Qj vs := Q8v rfl
      obtain ⟨xs, hxs, hu⟩ := hv
      refine ⟨u, us', e, ⟨xs, ?_, hu⟩, Q8w hb hw hr hsub (hrw.sub fun b hbm => by rw [hrow]; exact List.mem_append_right _ hbm) ht h2⟩
      exact Q10 hb hw hr hsub (hrw.sub fun b hbm => by rw [hrow]; exact List.mem_append_left _ hbm) hxs h1
theorem Qcv {E E' : Env} {blp : Nat → Option Blk} {ids ids' : List Nat} (hb : Q1m E) (hw : E'.w = E.w) (hr : Ren E E' ids ids') (hsub : ∀ i ∈ ids, blp i = E.bl i) : ∀ {l : List BT} {is : List Nat} {y : BT.dens l},
  Rows E blp E'.ok (Q24 blp is) → (∀ i ∈ is, i ∈ ids) → Q2m blp ids l is = some y → is.length = l.length ∧ ∀ (j i : Nat), is[j]? = some i → ∃ g B, E.pl i = some (.cells g) ∧ (mkB ids' l y)[j]? = some B ∧ BRep E' B (.cells g) ∧ B.live = true
 | [], is, y, hrw, hin, hp => by
  cases is with
  | nil => exact ⟨rfl, fun j i h => by simp at h⟩
  | cons i is => simp [Q2m] at hp
 | .row t e :: r, is, y, hrw, hin, hp => by cases is <;> simp [Q2m] at hp
 | .map t k v vg :: r, is, y, hrw, hin, hp => by cases is <;> simp [Q2m] at hp
 | .mat t et e :: r, is, y, hrw, hin, hp => by cases is <;> simp [Q2m] at hp
 | .cells t l :: r, is, y, hrw, hin, hp => by
  cases is with
  | nil => simp [Q2m] at hp
  | cons i is =>
   simp only [Q2m] at hp
   split at hp
   ·rename_i t' cs hbl
    cases ht : Nat.beq t t' with
    | false => rw [ht] at hp; cases hp
    | true =>
     have := Nat.eq_of_beq_eq_true ht
     subst this
     simp only [ht, cond_true] at hp
     split at hp
     ·cases hp
     ·rename_i y1 h1
      split at hp
      ·cases hp
      ·rename_i z h2
       simp only [Option.some.injEq] at hp
       subst hp
       have hrow : Q24 blp (i :: is) = Qg cs ++ Q24 blp is := by simp [Q24, hbl]
       obtain ⟨hl, hrest⟩ := Qcv hb hw hr hsub (hrw.sub fun b hbm => by rw [hrow]; exact List.mem_append_right _ hbm) (fun j hj => hin j (List.mem_cons_of_mem _ hj)) h2
       refine ⟨by simp [hl], fun j k hj => ?_⟩
       cases j with
       | zero =>
        simp only [List.getElem?_cons_zero, Option.some.injEq] at hj
        subst hj
        have hbl' : E.bl i = some (.cells t cs) := by rw [← hsub i (hin i (by simp))]; exact hbl
        obtain ⟨p, hp', hB⟩ := hb i _ hbl'
        cases p with
        | row _ _ => exact hB.elim
        | cells g =>
         obtain ⟨vs, hh, hcs⟩ := hB
         refine ⟨g, _, hp', rfl, ⟨vs, by rw [hw]; exact hh, ?_⟩, rfl⟩
         exact Q10 hb hw hr hsub (hrw.sub fun b hbm => by rw [hrow]; exact List.mem_append_left _ hbm) hcs h1
       | succ j =>
        obtain ⟨g, B, h3, h4, h5, h6⟩ := hrest j k (by simpa using hj)
        exact ⟨g, B, h3, by simpa [mkB] using h4, h5, h6⟩
   ·cases hp
theorem Q17 {ids : List Nat} : ∀ {l : List BT} {y : BT.dens l}, (mkB ids l y).length = l.length
 | [], _ => rfl
 | .cells _ _ :: r, y => by simp [mkB, Q17 (l := r)]
 | .row _ _ :: r, y => by simp [mkB, Q17 (l := r)]
 | .map _ _ _ _ :: r, y => by simp [mkB, Q17 (l := r)]
 | .mat _ _ _ :: r, y => by simp [mkB, Q17 (l := r)]
end Go.Lift
namespace Go.Lift
open Go.RowKit
structure Ren2 (m : Nat) (E E' : Env) (ids ids' : List Nat) : Prop where
 cells : ∀ b g, b < m → E.pl (ids.getD b 0) = some (.cells g) → E'.pl (ids'.getD b 0) = some (.cells g)
 row : ∀ b sv svs, b < m → E.pl (ids.getD b 0) = some (.row sv svs) → E'.pl (ids'.getD b 0) = some (.row sv svs) ∧ (∀ t e ver l, E'.bl (ids'.getD b 0) = some (.row t e ver l) → E.bl (ids.getD b 0) = some (.row t e ver l)) ∧
  (∀ t et e ver iver hole l, E'.bl (ids'.getD b 0) = some (.mat t et e ver iver hole l) → E.bl (ids.getD b 0) = some (.mat t et e ver iver hole l))
theorem Qh0 {m : Nat} {E E' : Env} {ids ids' : List Nat} (hr : Ren2 m E E' ids ids') : ∀ (caps gs : List Nat), caps.all (fun b => Nat.blt b m) = true → (caps.map fun b => ids.getD b 0).map E.pl = gs.map (fun g => some (.cells g)) →
  (caps.map fun b => ids'.getD b 0).map E'.pl = gs.map (fun g => some (.cells g))
 | [], gs, _, hg => by cases gs <;> simp_all
 | b :: bs, gs, hb, hg => by
  cases gs with
  | nil => simp at hg
  | cons g gs =>
   simp only [List.map_cons, List.cons.injEq] at hg ⊢
   obtain ⟨h1, h2⟩ := andB (show (Nat.blt b m && bs.all (fun b => Nat.blt b m)) = true from hb)
   exact ⟨hr.cells b g (Q1b h1) hg.1, Qh0 hr bs gs h2 hg.2⟩
theorem Q1v {m : Nat} {E E' : Env} {ids ids' : List Nat} (hr : Ren2 m E E' ids ids') {all : Prop} (hd : ∀ (τ : Ty) (x : τ.den) (us : List Value), (all ∨ τ.flat = true) → DRep E.w E.ok τ x us → DRep E'.w E'.ok τ x us) :
  ∀ {l : List CT} {y : CT.dens l} {vs : List Value}, CT.bnd m l = true → (all ∨ CT.flat l = true) → CReps E (mkC ids l y) vs → CReps E' (mkC ids' l y) vs
 | [], _, _, _, _, h => h
 | .data τ :: l, y, vs, hb, hf, h => by
  obtain ⟨us, ws, e, h1, h2⟩ := CReps.split h
  rw [e]
  have hf1 : all ∨ τ.flat = true := hf.imp id fun h => by simp only [CT.flat, Bool.and_eq_true] at h; exact h.1
  have hf2 : all ∨ CT.flat l = true := hf.imp id fun h => by simp only [CT.flat, Bool.and_eq_true] at h; exact h.2
  refine CReps.append ?_ (Q1v hr hd (by simpa [CT.bnd] using hb) hf2 h2)
  have key : ∀ (τ : Ty) (x : τ.den) (us : List Value), (all ∨ τ.flat = true) → CReps E (cells τ x) us → CReps E' (cells τ x) us := by
   intro τ
   induction τ with
   | bool => intro x us _ h; exact h
   | int k => intro x us _ h; exact h
   | str => intro x us _ h; exact h
   | err => intro x us _ h; exact h
   | unit => intro x us _ h; exact h
   | prod a b iha ihb =>
    intro x us hf h
    obtain ⟨p, q, e, h1, h2⟩ := CReps.split h
    rw [e]
    have g1 : all ∨ a.flat = true := hf.imp id fun h => by simp only [Ty.flat, Bool.and_eq_true] at h; exact h.1
    have g2 : all ∨ b.flat = true := hf.imp id fun h => by simp only [Ty.flat, Bool.and_eq_true] at h; exact h.2
    exact (iha _ _ g1 h1).append (ihb _ _ g2 h2)
   | slice e ih =>
    intro x us hf h
    obtain ⟨v, vs', e1, h1, h2⟩ := h
    exact ⟨v, vs', e1, hd (.slice e) x [v] hf h1, h2⟩
  exact key τ _ _ hf1 h1
 | .ptr b o :: l, y, vs, hb, hf, ⟨v, vs', e, ⟨g, hg, hv⟩, ht⟩ => by
  obtain ⟨hb1, hb2⟩ := andB (show (Nat.blt b m && CT.bnd m l) = true from hb)
  exact ⟨v, vs', e, ⟨g, hr.cells b g (Q1b hb1) hg, hv⟩, Q1v hr hd hb2 (hf.imp id fun h => by simpa [CT.flat] using h) ht⟩
 | .rowh b :: l, y, vs, hb, hf, ⟨v, vs', e, ⟨h1, sv, svs, hsv, hcur⟩, ht⟩ => by
  obtain ⟨hb1, hb2⟩ := andB (show (Nat.blt b m && CT.bnd m l) = true from hb)
  obtain ⟨h2, h3, _⟩ := hr.row b sv svs (Q1b hb1) hsv
  exact ⟨v, vs', e, ⟨h1, sv, svs, h2, fun t e ver l h => hcur t e ver l (h3 t e ver l h)⟩, Q1v hr hd hb2 (hf.imp id fun h => by simpa [CT.flat] using h) ht⟩
 | .math b :: l, y, vs, hb, hf, ⟨v, vs', e, ⟨h1, sv, svs, hsv, hcur⟩, ht⟩ => by
  obtain ⟨hb1, hb2⟩ := andB (show (Nat.blt b m && CT.bnd m l) = true from hb)
  obtain ⟨h2, _, h3⟩ := hr.row b sv svs (Q1b hb1) hsv
  exact ⟨v, vs', e, ⟨h1, sv, svs, h2, fun t et e ver iver hole l h => hcur t et e ver iver hole l (h3 t et e ver iver hole l h)⟩, Q1v hr hd hb2 (hf.imp id fun h => by simpa [CT.flat] using h) ht⟩
 | .fn f caps :: l, y, vs, hb, hf, ⟨v, vs', e, ⟨gs, hg, hv⟩, ht⟩ => by
  obtain ⟨hb1, hb2⟩ := andB (show (caps.all (fun b => Nat.blt b m) && CT.bnd m l) = true from hb)
  refine ⟨v, vs', e, ⟨gs, ?_, hv⟩, Q1v hr hd hb2 (hf.imp id fun h => by simpa [CT.flat] using h) ht⟩
  exact Qh0 hr caps gs hb1 hg
 | .maph b :: l, y, vs, hb, hf, ⟨v, vs', e, ⟨g, hg, hv⟩, ht⟩ => by
  obtain ⟨hb1, hb2⟩ := andB (show (Nat.blt b m && CT.bnd m l) = true from hb)
  exact ⟨v, vs', e, ⟨g, hr.cells b g (Q1b hb1) hg, hv⟩, Q1v hr hd hb2 (hf.imp id fun h => by simpa [CT.flat] using h) ht⟩
 | .bself b :: l, y, vs, hb, hf, ⟨v, vs', e, .inl hv, ht⟩ => by
  obtain ⟨hb1, hb2⟩ := andB (show (Nat.blt b m && CT.bnd m l) = true from hb)
  exact ⟨v, vs', e, .inl hv, Q1v hr hd hb2 (hf.imp id fun h => by simpa [CT.flat] using h) ht⟩
 | .bself b :: l, y, vs, hb, hf, ⟨v, vs', e, .inr ⟨g, hg, hv⟩, ht⟩ => by
  obtain ⟨hb1, hb2⟩ := andB (show (Nat.blt b m && CT.bnd m l) = true from hb)
  exact ⟨v, vs', e, .inr ⟨g, hr.cells b g (Q1b hb1) hg, hv⟩, Q1v hr hd hb2 (hf.imp id fun h => by simpa [CT.flat] using h) ht⟩
 | .nilc :: l, y, vs, hb, hf, ⟨v, vs', e, hv, ht⟩ => ⟨v, vs', e, hv, Q1v hr hd (by simpa [CT.bnd] using hb) (hf.imp id fun h => by simpa [CT.flat] using h) ht⟩
 | .nils :: l, y, vs, hb, hf, ⟨v, vs', e, hv, ht⟩ => ⟨v, vs', e, hv, Q1v hr hd (by simpa [CT.bnd] using hb) (hf.imp id fun h => by simpa [CT.flat] using h) ht⟩
 | .lsome e0 :: l, y, vs, hb, hf, ⟨v, vs', e, hv, ht⟩ => by
  have ha : all := hf.resolve_right (by simp [CT.flat])
  exact ⟨v, vs', e, ⟨hd (.slice e0) y.1 [v] (.inl ha) hv.1, hv.2⟩, Q1v hr hd (by simpa [CT.bnd] using hb) (.inl ha) ht⟩
 | .junk :: l, y, vs, hb, hf, ⟨v, vs', e, hv, ht⟩ => ⟨v, vs', e, hv, Q1v hr hd (by simpa [CT.bnd] using hb) (hf.imp id fun h => by simpa [CT.flat] using h) ht⟩
theorem Qh1 {m : Nat} {E E' : Env} {ids ids' : List Nat} (hr : Ren2 m E E' ids ids') {all : Prop} (hd : ∀ (τ : Ty) (x : τ.den) (us : List Value), (all ∨ τ.flat = true) → DRep E.w E.ok τ x us → DRep E'.w E'.ok τ x us) :
  ∀ {l : List (Bool × List CT)} {y : ST.dens l} {vs : List Value}, ST.bnd m l = true → (all ∨ ST.flat l = true) → TReps E (mkS ids l y) vs → TReps E' (mkS ids' l y) vs
 | [], _, _, _, _, h => h
 | t :: l, y, vs, hb, hf, ⟨v, vs', e, ⟨xs, hx, hv⟩, ht⟩ => by
  obtain ⟨hb1, hb2⟩ := andB (show (CT.bnd m t.2 && ST.bnd m l) = true from hb)
  have hf1 : all ∨ CT.flat t.2 = true := hf.imp id fun h => (andB (show (CT.flat t.2 && ST.flat l) = true from h)).1
  have hf2 : all ∨ ST.flat l = true := hf.imp id fun h => (andB (show (CT.flat t.2 && ST.flat l) = true from h)).2
  exact ⟨v, vs', e, ⟨xs, Q1v hr hd hb1 hf1 hx, hv⟩, Qh1 hr hd hb2 hf2 ht⟩
def Q3e : List Value → Value
 | [v] => v
 | vs => .tuple vs.toArray
theorem TReps.res {E : Env} : ∀ {ts : List (Bool × List C)} {vs : List Value}, TReps E ts vs → VRep E (resV ts) (Q3e vs)
 | [], vs, h => by
  have h' : vs = [] := h
  subst h'
  exact ⟨[], rfl, h⟩
 | [t], vs, ⟨v, vs', e, h1, h2⟩ => by
  have h2' : vs' = [] := h2
  subst h2' e
  exact VRep.mk h1
 | t :: t2 :: ts, vs, h => by
  obtain ⟨v, vs', e, h1, v2, vs2, e2, h2, h3⟩ := id h
  subst e e2
  exact ⟨_, rfl, h⟩
theorem Q7c {m : Nat} {E E' : Env} {ids ids' : List Nat} (hr : Ren2 m E E' ids ids') (hbase : E'.base ≤ E.base) {all : Prop} (hd : ∀ (τ : Ty) (x : τ.den) (us : List Value), (all ∨ τ.flat = true) → DRep E.w E.ok τ x us → DRep E'.w E'.ok τ x us) (hw : E'.w = E.w) :
  ∀ {l : List BT} {y : BT.dens l} {j : Nat} {B : Blk} {p : Pl}, BT.bnd m l = true → (all ∨ BT.flat l = true) → (mkB ids l y)[j]? = some B → BRep E B p → ∃ B', (mkB ids' l y)[j]? = some B' ∧ BRep E' B' p ∧ B'.live = B.live ∧ (∀ t e ver l, B' = .row t e ver l → B = .row t e ver l) ∧ (∀ t et e ver iver hole l, B' = .mat t et e ver iver hole l → B = .mat t et e ver iver hole l)
 | [], _, j, _, _, _, _, h, _ => by simp [mkB] at h
 | .cells t l :: r, y, 0, B, p, hb, hf, h, hB => by
  simp only [mkB, List.getElem?_cons_zero, Option.some.injEq] at h
  subst h
  obtain ⟨hb1, hb2⟩ := andB (show (CT.bnd m l && BT.bnd m r) = true from hb)
  have hf1 : all ∨ CT.flat l = true := hf.imp id fun h => (andB (show (CT.flat l && BT.flat r) = true from h)).1
  refine ⟨_, rfl, ?_, rfl, (fun t e ver l h => by cases h), fun t et e ver iver hole l h => by cases h⟩
  cases p with
  | row _ _ => exact hB.elim
  | cells g =>
   obtain ⟨vs, hh, hcs⟩ := hB
   exact ⟨vs, by rw [hw]; exact hh, Q1v hr hd hb1 hf1 hcs⟩
 | .row t e :: r, y, 0, B, p, hb, hf, h, hB => by
  simp only [mkB, List.getElem?_cons_zero, Option.some.injEq] at h
  subst h
  refine ⟨_, rfl, ?_, rfl, (fun _ _ _ _ h => h), fun _ _ _ _ _ _ _ h => h⟩
  have hf1 : all ∨ e.flat = true := hf.imp id fun h => (andB (show (e.flat && BT.flat r) = true from h)).1
  cases p with
  | cells _ => exact hB.elim
  | row sv svs =>
   obtain ⟨h0, xs, h1, h2⟩ := hB
   refine ⟨h0, xs, h1.mono fun x u hu => hd e x u hf1 hu, ?_⟩
   rw [hw]
   exact Q2j h2 hbase
 | .mat t et e :: r, y, 0, B, p, hb, hf, h, hB => by
  simp only [mkB, List.getElem?_cons_zero, Option.some.injEq] at h
  subst h
  refine ⟨_, rfl, ?_, rfl, (fun _ _ _ _ h => by cases h), fun _ _ _ _ _ _ _ h => h⟩
  have hf1 : all ∨ e.flat = true := hf.imp id fun h => (andB (show (e.flat && BT.flat r) = true from h)).1
  cases p with
  | cells _ => exact hB.elim
  | row sv svs =>
   have hM : MatOk E t et e none _ sv svs := hB
   obtain ⟨vs, h1, h2⟩ := hM.outer
   refine ⟨⟨vs, by rw [hw]; exact Q2j h1 hbase, h2⟩, hM.len, hM.hole, fun i s x hs hx => ?_, hM.sep0, hM.sep⟩
   obtain ⟨xs, h3, h4⟩ := hM.inner i s x hs hx
   exact ⟨xs, h3.mono fun x u hu => hd e x u hf1 hu, by rw [hw]; exact Q2j h4 hbase⟩
 | .mat t et e :: r, y, j + 1, B, p, hb, hf, h, hB => by
  simp only [mkB, List.getElem?_cons_succ] at h ⊢
  exact Q7c hr hbase hd hw hb (hf.imp id fun h => (andB (show (e.flat && BT.flat r) = true from h)).2) h hB
 | .map t k v vg :: r, y, 0, B, p, hb, hf, h, hB => by
  simp only [mkB, List.getElem?_cons_zero, Option.some.injEq] at h
  subst h
  refine ⟨_, rfl, ?_, rfl, (fun _ _ _ _ h => h), fun _ _ _ _ _ _ _ h => h⟩
  have hf1 : all ∨ k.flat = true := hf.imp id fun h => (andB (show (k.flat && (v.flat && BT.flat r)) = true from h)).1
  have hf2 : all ∨ v.flat = true := hf.imp id fun h => (andB (andB (show (k.flat && (v.flat && BT.flat r)) = true from h)).2).1
  cases p with
  | row _ _ => exact hB.elim
  | cells g =>
   obtain ⟨es, clock, hh, hm⟩ := hB
   exact ⟨es, clock, by rw [hw]; exact hh, hm.mono (fun x u hu => hd k x u hf1 hu) (fun x u hu => hd v x u hf2 hu)⟩
 | .map t k v vg :: r, y, j + 1, B, p, hb, hf, h, hB => by
  simp only [mkB, List.getElem?_cons_succ] at h ⊢
  exact Q7c hr hbase hd hw hb (hf.imp id fun h => (andB (andB (show (k.flat && (v.flat && BT.flat r)) = true from h)).2).2) h hB
 | .cells t l :: r, y, j + 1, B, p, hb, hf, h, hB => by
  simp only [mkB, List.getElem?_cons_succ] at h ⊢
  exact Q7c hr hbase hd hw (andB (show (CT.bnd m l && BT.bnd m r) = true from hb)).2 (hf.imp id fun h => (andB (show (CT.flat l && BT.flat r) = true from h)).2) h hB
 | .row t e :: r, y, j + 1, B, p, hb, hf, h, hB => by
  simp only [mkB, List.getElem?_cons_succ] at h ⊢
  exact Q7c hr hbase hd hw hb (hf.imp id fun h => (andB (show (e.flat && BT.flat r) = true from h)).2) h hB
def fnBl (l : List Blk) : Nat → Option Blk := fun b => l[b]?
structure SpecOk (P : Program) (f : FuncId) (S : Spec) : Prop where
 fn : ∃ fn, P.funcs[f]? = some fn ∧ (fn.name == "runtime.NumGoroutine") = false ∧ fn.body.isNone = false
 ok : ∀ {β : Type} (x : ST.dens S.params × BT.dens S.ins) (k : ST.dens S.res × BT.dens S.outs → Option β) (r : β), S.run x k = some r →
  ∃ y, k y = some r ∧ ∀ (ok0 : OK0 P) (pl : Nat → Option Pl) (w : World) (args : List Value),
   RelB ok0 w.heap.size pl (fnBl (mkB (Q7 0 S.ins.length) S.ins x.2)) w →
   TReps (Q4 ok0 w.heap.size pl (fnBl (mkB (Q7 0 S.ins.length) S.ins x.2)) w) (mkS (Q7 0 S.ins.length) S.params x.1) args →
   Calls P f args.toArray w fun e w' => ∃ vals pl', e = .returned (Q3e vals) ∧
    RelB ok0 w.heap.size pl' (fnBl (mkB (Q7 0 S.outs.length) S.outs y.2)) w' ∧
    StepM S.ins.length pl (fnBl (mkB (Q7 0 S.ins.length) S.ins x.2)) w pl' (fnBl (mkB (Q7 0 S.outs.length) S.outs y.2)) w' ∧
    TReps (Q4 ok0 w.heap.size pl' (fnBl (mkB (Q7 0 S.outs.length) S.outs y.2)) w') (mkS (Q7 0 S.outs.length) S.res y.1) vals
structure RowOk (P : Program) (f : FuncId) (F : RowF) : Prop where
 fn : ∃ fn, P.funcs[f]? = some fn ∧ (fn.name == "runtime.NumGoroutine") = false ∧ fn.body.isNone = false
 flat : F.e.flat = true
 len : F.cut = false → ∀ l, (F.run l).length = l.length
 ok : ∀ (w : World) (base : Nat) (sv : Value) (l : List F.e.den) (xs : List Value), F.dom l = true → base ≤ w.heap.size → GlobR P sv.ownBlock w → DList (fun x u => DRep w (fun _ => True) F.e x u) l xs → w.ownsRow base F.t F.e.size sv l.length xs →
  Calls P f (sv :: F.extra).toArray w fun e w' => ∃ sv', e = .returned (bif F.cut then sv' else .tuple #[]) ∧ w.grownBy w' sv.ownBlock ∧ (F.cut = false → sv' = sv) ∧ (sv'.ownBlock = sv.ownBlock ∨ ∀ g, sv'.ownBlock = some g → w.heap.size ≤ g) ∧
   ∃ xs', DList (fun x u => DRep w (fun _ => True) F.e x u) (F.run l) xs' ∧ w'.ownsRow base F.t F.e.size sv' (F.run l).length xs'
def Qmn (P : Program) (f : FuncId) (F : BldF) (w : World) (base b : Nat) (v : Value) (l : List Int) : Nat → Prop
 | 0 => ∀ s : List UInt8, l.length + s.length ≤ 140737488355328 → Calls P f #[.pointer (some ⟨b, 0, none⟩), .string ⟨s.toArray⟩] w fun e w' =>
   e = .returned (.tuple #[.int .i64 (s.length : Int), .nilIface]) ∧ ∃ w1 w2 v', w.grownBy w1 (some b) ∧ w1.heap[b]? = some (.cells #[.pointer (some ⟨b, 0, none⟩), v] F.t (0, 0)) ∧
    w1.grownBy w2 v.ownBlock ∧ (v'.ownBlock = v.ownBlock ∨ ∀ g, v'.ownBlock = some g → w1.heap.size ≤ g) ∧ w2.ownsRow base F.te 1 v' (l.length + s.length) ((l ++ Q1y s).map (Value.int .u8)) ∧
    w2.grownBy w' (some b) ∧ w'.heap[b]? = some (.cells #[.pointer (some ⟨b, 0, none⟩), v'] F.t (0, 0))
 | 1 => Qgw l = true → Calls P f #[.pointer (some ⟨b, 0, none⟩)] w fun e w' => e = .returned (.string ⟨(Q9f l).toArray⟩) ∧ w.grownBy w' v.ownBlock
 | _ => Calls P f #[.pointer (some ⟨b, 0, none⟩)] w fun e w' => e = .returned (.int .i64 (l.length : Int)) ∧ w.grownBy w' none
structure BldOk (P : Program) (f : FuncId) (F : BldF) : Prop where
 fn : ∃ fn, P.funcs[f]? = some fn ∧ (fn.name == "runtime.NumGoroutine") = false ∧ fn.body.isNone = false
 ok : F.op < 3 → ∀ (w : World) (base b : Nat) (p v : Value) (l : List Int), base ≤ w.heap.size → w.heap[b]? = some (.cells #[p, v] F.t (0, 0)) → (p = .pointer none ∨ p = .pointer (some ⟨b, 0, none⟩)) →
  w.ownsRow base F.te 1 v l.length (l.map (Value.int .u8)) → v.ownBlock ≠ some b → Qmn P f F w base b v l F.op
 join : F.op = 3 → ∀ (w : World) (base : Nat) (sv : Value) (l : List (List UInt8)) (sep : List UInt8), w.ownsRow base F.t 1 sv l.length (l.map fun s => Value.string ⟨s.toArray⟩) → l.length ≤ 140737488355328 → (Lib.join l sep).length ≤ 140737488355328 →
  Calls P f #[sv, .string ⟨sep.toArray⟩] w fun e w' => e = .returned (.string ⟨(Lib.join l sep).toArray⟩) ∧ w.grownBy w' none
structure ΓOk (P : Program) (Γ : FuncId → Option Fun) : Prop where
 spec : ∀ f S, Γ f = some (.spec S) → SpecOk P f S
 rows : ∀ f F, Γ f = some (.rows F) → RowOk P f F
 bld : ∀ f F, Γ f = some (.bld F) → BldOk P f F
def place : List Nat → Nat → Option Nat
 | [], _ => none
 | x :: r, i => if i = x then some 0 else (place r i).map (· + 1)
theorem Q2o : ∀ {l : List Nat} {i b : Nat}, place l i = some b → l[b]? = some i
 | [], i, b, h => by simp [place] at h
 | x :: r, i, b, h => by
  simp only [place] at h
  split at h
  ·rename_i hx
   simp only [Option.some.injEq] at h
   subst h hx
   rfl
  ·cases hp : place r i with
   | none => rw [hp] at h; cases h
   | some c =>
    rw [hp] at h
    simp only [Option.map_some, Option.some.injEq] at h
    subst h
    simpa using Q2o hp
theorem Q3q : ∀ {l : List Nat} {i b : Nat}, l.Nodup → l[b]? = some i → place l i = some b
 | [], i, b, _, h => by simp at h
 | x :: r, i, 0, _, h => by simp at h; subst h; simp [place]
 | x :: r, i, b + 1, hn, h => by
  have h' : r[b]? = some i := by simpa using h
  have hne : i ≠ x := by
   rintro rfl
   exact (List.nodup_cons.1 hn).1 (List.mem_of_getElem? h')
  simp [place, hne, Q3q (List.nodup_cons.1 hn).2 h']
theorem Qi0 {l : List Nat} {i : Nat} (h : i ∉ l) : place l i = none := by
 cases hp : place l i with
 | none => rfl
 | some b => exact absurd (List.mem_of_getElem? (Q2o hp)) h
theorem Qkz {f : Nat → Option Blk} : ∀ {l : List Nat} {xs : List Blk} (i : Nat), l.Nodup → l.length = xs.length → updL f (l.zip xs) i = match place l i with | some b => xs[b]? | none => f i := by
 intro l
 induction l generalizing f with
 | nil => intro xs i _ _; rfl
 | cons x r ih =>
  intro xs i hn hl
  cases xs with
  | nil => simp at hl
  | cons B xs =>
   simp only [List.zip_cons_cons, updL]
   rw [ih i (List.nodup_cons.1 hn).2 (by simpa using hl)]
   simp only [place]
   by_cases hi : i = x
   ·subst hi
    rw [Qi0 (List.nodup_cons.1 hn).1]
    simp [upd]
   ·simp only [hi, if_false]
    cases hp : place r i with
    | none => simp [upd, hi]
    | some b => simp
theorem Q88 {ps : List (Nat × Nat)} : ∀ {n j : Nat} {ids : List Nat}, Q8h ps j n = some ids → ids.length = n
 | 0, j, ids, h => by simp only [Q8h, Option.some.injEq] at h; subst h; rfl
 | n + 1, j, ids, h => by
  simp only [Q8h] at h
  split at h
  ·rename_i b r _ hr
   simp only [Option.some.injEq] at h
   subst h
   simp [Q88 hr]
  ·cases h
theorem Q6y {bl : Nat → Option Blk} {ids : List Nat} : ∀ {l : List BT} {is : List Nat} {y : BT.dens l}, Q2m bl ids l is = some y → ∀ i ∈ is, ∃ t cs, bl i = some (.cells t cs)
 | [], is, y, hp => by
  cases is with
  | nil => intro i h; simp at h
  | cons i is => simp [Q2m] at hp
 | .row t e :: r, is, y, hp => by cases is <;> simp [Q2m] at hp
 | .map t k v vg :: r, is, y, hp => by cases is <;> simp [Q2m] at hp
 | .mat t et e :: r, is, y, hp => by cases is <;> simp [Q2m] at hp
 | .cells t l :: r, is, y, hp => by
  cases is with
  | nil => intro i h; simp at h
  | cons i is =>
   simp only [Q2m] at hp
   split at hp
   ·rename_i t' cs hbl
    cases ht : Nat.beq t t' with
    | false => rw [ht] at hp; cases hp
    | true =>
     simp only [ht, cond_true] at hp
     split at hp
     ·cases hp
     ·split at hp
      ·cases hp
      ·rename_i z h2
       intro j hj
       rcases List.mem_cons.1 hj with rfl | hj
       ·exact ⟨t', cs, hbl⟩
       ·exact Q6y h2 j hj
   ·cases hp
theorem Q7d {ids ids2 : List Nat} : ∀ {l : List BT} {y : BT.dens l} {j : Nat} {t : TypeId} {e : Ty} {ver : Nat} {l' : List e.den}, (mkB ids l y)[j]? = some (.row t e ver l') → (mkB ids2 l y)[j]? = some (.row t e ver l')
 | [], _, j, _, _, _, _, h => by simp [mkB] at h
 | .cells _ _ :: r, y, 0, _, _, _, _, h => by simp [mkB] at h
 | .row _ _ :: r, y, 0, _, _, _, _, h => by simpa [mkB] using h
 | .cells _ _ :: r, y, j + 1, _, _, _, _, h => by simp only [mkB, List.getElem?_cons_succ] at h ⊢; exact Q7d h
 | .row _ _ :: r, y, j + 1, _, _, _, _, h => by simp only [mkB, List.getElem?_cons_succ] at h ⊢; exact Q7d h
 | .map _ _ _ _ :: r, y, 0, _, _, _, _, h => by simp [mkB] at h
 | .map _ _ _ _ :: r, y, j + 1, _, _, _, _, h => by simp only [mkB, List.getElem?_cons_succ] at h ⊢; exact Q7d h
 | .mat _ _ _ :: r, y, 0, _, _, _, _, h => by simp [mkB] at h
 | .mat _ _ _ :: r, y, j + 1, _, _, _, _, h => by simp only [mkB, List.getElem?_cons_succ] at h ⊢; exact Q7d h
theorem Q7e {ids ids2 : List Nat} : ∀ {l : List BT} {y : BT.dens l} {j : Nat} {t et : TypeId} {e : Ty} {ver iver : Nat} {hole : Option Nat} {l' : List (List e.den)}, (mkB ids l y)[j]? = some (.mat t et e ver iver hole l') → (mkB ids2 l y)[j]? = some (.mat t et e ver iver hole l')
 | [], _, j, _, _, _, _, _, _, _, h => by simp [mkB] at h
 | .cells _ _ :: r, y, 0, _, _, _, _, _, _, _, h => by simp [mkB] at h
 | .row _ _ :: r, y, 0, _, _, _, _, _, _, _, h => by simp [mkB] at h
 | .map _ _ _ _ :: r, y, 0, _, _, _, _, _, _, _, h => by simp [mkB] at h
 | .mat _ _ _ :: r, y, 0, _, _, _, _, _, _, _, h => by simpa [mkB] using h
 | .cells _ _ :: r, y, j + 1, _, _, _, _, _, _, _, h => by simp only [mkB, List.getElem?_cons_succ] at h ⊢; exact Q7e h
 | .row _ _ :: r, y, j + 1, _, _, _, _, _, _, _, h => by simp only [mkB, List.getElem?_cons_succ] at h ⊢; exact Q7e h
 | .map _ _ _ _ :: r, y, j + 1, _, _, _, _, _, _, _, h => by simp only [mkB, List.getElem?_cons_succ] at h ⊢; exact Q7e h
 | .mat _ _ _ :: r, y, j + 1, _, _, _, _, _, _, _, h => by simp only [mkB, List.getElem?_cons_succ] at h ⊢; exact Q7e h
theorem Q62 {ids : List Nat} : ∀ {l : List BT} {y : BT.dens l} {j : Nat} {B : Blk}, (mkB ids l y)[j]? = some B → B.live = true
 | [], _, j, _, h => by simp [mkB] at h
 | .cells _ _ :: r, y, 0, _, h => by simp only [mkB, List.getElem?_cons_zero, Option.some.injEq] at h; subst h; rfl
 | .row _ _ :: r, y, 0, _, h => by simp only [mkB, List.getElem?_cons_zero, Option.some.injEq] at h; subst h; rfl
 | .cells _ _ :: r, y, j + 1, _, h => by simp only [mkB, List.getElem?_cons_succ] at h; exact Q62 h
 | .row _ _ :: r, y, j + 1, _, h => by simp only [mkB, List.getElem?_cons_succ] at h; exact Q62 h
 | .map _ _ _ _ :: r, y, 0, _, h => by simp only [mkB, List.getElem?_cons_zero, Option.some.injEq] at h; subst h; rfl
 | .map _ _ _ _ :: r, y, j + 1, _, h => by simp only [mkB, List.getElem?_cons_succ] at h; exact Q62 h
 | .mat _ _ _ :: r, y, 0, _, h => by simp only [mkB, List.getElem?_cons_zero, Option.some.injEq] at h; subst h; rfl
 | .mat _ _ _ :: r, y, j + 1, _, h => by simp only [mkB, List.getElem?_cons_succ] at h; exact Q62 h
theorem Q4w {n b : Nat} (h : b < n) : (Q7 0 n).getD b 0 = b := by
 have := Q5c (n := n) (s := 0) h
 simp [List.getD, this]
section
variable {P : Program} {o : Oper} {ρ : Operand → V} {bl : Nat → Option Blk} {β : Type} {r : β}
theorem Qgf {S : Spec} {bl : Nat → Option Blk} {rds : List Nat} {p : Nat × Blk} (h : p ∈ Q5l S bl rds) : p.2 = .dead ∧ p.1 ∈ rds ∧ ∃ t e ver l, bl p.1 = some (.row t e ver l) := by
 unfold Q5l at h
 cases hf : (ST.flat S.res && BT.flat S.outs) with
 | true => rw [hf] at h; simp at h
 | false =>
  rw [hf, cond_false] at h
  obtain ⟨b, hb, hp⟩ := List.mem_filterMap.1 h
  split at hp
  ·rename_i t e ver l hbl
   injection hp with hp
   subst hp
   exact ⟨rfl, hb, t, e, ver, l, hbl⟩
  ·cases hp
theorem Qgg {S : Spec} {bl : Nat → Option Blk} {rds : List Nat} (hf : (ST.flat S.res && BT.flat S.outs) = false) {b : Nat} (hb : b ∈ rds) {t : TypeId} {e : Ty} {ver : Nat} {l : List e.den} (hbl : bl b = some (.row t e ver l)) : (b, Blk.dead) ∈ Q5l S bl rds := by
 unfold Q5l
 rw [hf, cond_false]
 exact List.mem_filterMap.2 ⟨b, hb, by rw [hbl]⟩
theorem Q54 : ∀ {l : List (Nat × Blk)} {f : Nat → Option Blk} (i : Nat), (∀ p ∈ l, p.2 = Blk.dead) → (updL f l i = f i ∧ (∀ p ∈ l, p.1 ≠ i)) ∨ (updL f l i = some .dead ∧ ∃ p ∈ l, p.1 = i)
 | [], f, i, _ => .inl ⟨rfl, fun _ h => by simp at h⟩
 | (j, x) :: l, f, i, h => by
  have hx : x = .dead := h (j, x) (by simp)
  subst hx
  simp only [updL]
  rcases Q54 (l := l) (f := upd f j .dead) i (fun p hp => h p (by simp [hp])) with ⟨h1, h2⟩ | ⟨h1, p, hp, h2⟩
  ·by_cases hij : i = j
   ·subst hij
    exact .inr ⟨by rw [h1]; simp [upd], (i, .dead), by simp, rfl⟩
   ·refine .inl ⟨by rw [h1]; simp [upd, hij], fun p hp => ?_⟩
    rcases List.mem_cons.1 hp with e | hp
    ·rw [e]; exact fun h => hij h.symm
    ·exact h2 p hp
  ·exact .inr ⟨h1, p, by simp [hp], h2⟩
theorem Q4x {f : Nat → Option Blk} : ∀ {l m : List (Nat × Blk)}, updL f (l ++ m) = updL (updL f l) m
 | [], _ => rfl
 | (j, x) :: l, m => by simp only [List.cons_append, updL]; exact Q4x
theorem Qgh {F : RowF} {E : Env} {args : List V} {us : List Value} {b ver : Nat} (h : Qc7 F args = some (b, ver)) (hus : VReps E args us) : ∃ u, us = u :: F.extra ∧ VRep E (.c (.row b ver)) u := by
 unfold Qc7 at h
 split at h
 ·rename_i b' ver' hfn
  cases h
  obtain ⟨u, us', rfl, hu, hn⟩ := hus
  have hn : us' = [] := hn
  subst hn
  exact ⟨u, by unfold RowF.extra; rw [hfn], hu⟩
 ·rename_i b' ver' g g' hfn
  cases hg : Nat.beq g g' with
  | false => rw [hg] at h; cases h
  | true =>
   rw [hg] at h
   cases h
   have hg := Nat.eq_of_beq_eq_true hg
   subst hg
   obtain ⟨u, us', rfl, hu, u2, us2, rfl, ⟨gs, hgs, hv⟩, hn⟩ := hus
   have hn : us2 = [] := hn
   subst hn
   have : gs = [] := by
    cases gs with
    | nil => rfl
    | cons _ _ => simp at hgs
   subst this
   exact ⟨u, by unfold RowF.extra; rw [hfn, hv]; rfl, hu⟩
 ·cases h
theorem Qet {F : RowF} {f : FuncId} (hF : RowOk P f F) {kk : K β} {args : List V} (hk : Qee F bl args kk = some r)
  (hop : ∀ (bl2 : Nat → Option Blk) (ok0 : OK0 P) (base : Nat) (pl : Nat → Option Pl) (w : World) (a : Act), RelB ok0 base pl bl2 w → (∀ x ∈ o.op.operands, VRep (Q4 ok0 base pl bl2 w) (ρ x) (a.eval x)) →
   ∃ us, VReps (Q4 ok0 base pl bl2 w) args us ∧ ((∃ fn, P.funcs[f]? = some fn ∧ (fn.name == "runtime.NumGoroutine") = false ∧ fn.body.isNone = false) → (execOp a.eval o).run P w = .ok (.enter f us.toArray) w)) : Sound P o ρ bl kk r := by
 unfold Qee at hk
 split at hk
 ·rename_i b ver hra
  split at hk
  ·rename_i t e ver' l hbl
   cases hc : (Nat.beq ver ver' && Nat.beq t F.t) with
   | false => rw [hc] at hk; cases hk
   | true =>
    simp only [hc, cond_true] at hk
    obtain ⟨h1, h2⟩ := andB hc
    have h1 := Nat.eq_of_beq_eq_true h1
    have h2 := Nat.eq_of_beq_eq_true h2
    subst h1 h2
    split at hk
    ·rename_i he
     subst he
     obtain ⟨hmax, hk⟩ := Qe hk
     have main : ∀ (bl2 : Nat → Option Blk), bl2 b = bl b → ∀ (ok0 : OK0 P) (base : Nat) (pl : Nat → Option Pl) (w : World) (a : Act), RelB ok0 base pl bl2 w → (∀ x ∈ o.op.operands, VRep (Q4 ok0 base pl bl2 w) (ρ x) (a.eval x)) →
       ∃ sv, pl b = some (.row sv []) ∧ (execOp a.eval o).run P w = .ok (.enter f (sv :: F.extra).toArray) w ∧ Calls P f (sv :: F.extra).toArray w fun e w' => ∃ sv', e = .returned (bif F.cut then sv' else .tuple #[]) ∧ w.grownBy w' sv.ownBlock ∧ (F.cut = false → sv' = sv) ∧
        (sv'.ownBlock = sv.ownBlock ∨ ∀ g, sv'.ownBlock = some g → w.heap.size ≤ g) ∧ ∃ xs', DList (fun x u => DRep w (fun _ => True) F.e x u) (F.run l) xs' ∧ w'.ownsRow base F.t F.e.size sv' (F.run l).length xs' := by
      intro bl2 hb2 ok0 base pl w a hr hxs
      obtain ⟨us, hus, hrun⟩ := hop bl2 ok0 base pl w a hr hxs
      have hrun := hrun hF.fn
      obtain ⟨u, rfl, _, sv, svs, hsv, hcur⟩ := Qgh hra hus
      have hbl2 : bl2 b = some (.row F.t F.e ver l) := hb2.trans hbl
      have hu := (hcur F.t F.e ver l hbl2).2 rfl
      subst hu
      obtain ⟨p, hp, hB⟩ := hr.blks b _ hbl2
      have : p = .row u svs := by have h2 : pl b = some (.row u svs) := hsv; rw [hp] at h2; injection h2
      subst this
      obtain ⟨h0, xs, hd, hown⟩ := hB
      subst h0
      exact ⟨u, hsv, hrun, hF.ok w base u l xs hmax hr.baseLe (hr.glob.row fun g hg => ⟨b, _, _, hbl2, rfl, hp, Or.inl hg⟩) (hd.mono fun x us hx => hx.flat hF.flat) hown⟩
     cases hcut : F.cut with
     | false =>
      rw [hcut] at hk
      simp only [cond_false] at hk
      refine ⟨_, _, _, hk, fun bl2 hb2 => ?_⟩
      have hbl2 : bl2 b = some (.row F.t F.e ver l) := (hb2 b (by simp)).trans hbl
      intro ok0 base pl w a hr hxs K Q hK
      obtain ⟨sv, hsv, hrun, hcall⟩ := main bl2 (hb2 b (by simp)) ok0 base pl w a hr hxs
      unfold Oper.wp
      rw [hrun]
      simp only [Oper.upon]
      refine hcall.mono fun e w' ⟨sv', he, hgb, hsv', hob, xs', hd', hown'⟩ => ?_
      have hsv' := hsv' hcut
      subst hsv'
      rw [hcut] at he
      simp only [cond_false] at he
      subst he
      simp only
      have hver : ver ≤ ver ∧ (ver = ver → sv' = sv' ∧ (F.run l).length = l.length) := ⟨Nat.le_refl _, fun _ => ⟨rfl, hF.len hcut l⟩⟩
      have hs := Step.grown (l' := F.run l) hr hbl2 hsv hgb hob hver
      refine hK (.tuple #[]) (upd pl b (.row sv' [])) w' (RelB.grown hr hbl2 hsv hgb hob hver ⟨rfl, xs', hd'.mono fun x u hu => hu.flat hF.flat, hown'⟩) hs ⟨[], rfl, rfl⟩
     | true =>
      rw [hcut] at hk
      simp only [cond_true] at hk
      refine ⟨_, _, _, hk, fun bl2 hb2 => ?_⟩
      have hbl2 : bl2 b = some (.row F.t F.e ver l) := (hb2 b (by simp)).trans hbl
      intro ok0 base pl w a hr hxs K Q hK
      obtain ⟨sv, hsv, hrun, hcall⟩ := main bl2 (hb2 b (by simp)) ok0 base pl w a hr hxs
      unfold Oper.wp
      rw [hrun]
      simp only [Oper.upon]
      refine hcall.mono fun e w' ⟨sv', he, hgb, hsv', hob, xs', hd', hown'⟩ => ?_
      rw [hcut] at he
      simp only [cond_true] at he
      subst he
      simp only
      have hver : ver ≤ ver + 1 ∧ (ver = ver + 1 → sv' = sv ∧ (F.run l).length = l.length) := ⟨Nat.le_succ _, fun h => by omega⟩
      have hs := Step.grown (l' := F.run l) hr hbl2 hsv hgb hob hver
      have hR := RelB.grown hr hbl2 hsv hgb hob hver ⟨rfl, xs', hd'.mono fun x u hu => hu.flat hF.flat, hown'⟩
      refine hK sv' (upd pl b (.row sv' [])) w' hR hs ⟨?_, sv', [], by simp [Q4, upd], fun t e ver2 l2 hb => ?_⟩
      ·rcases hown'.2 with ⟨h, _⟩ | ⟨g, cap, cur, h, _⟩ <;> rw [h] <;> rfl
      ·have hb : upd bl2 b (.row F.t F.e (ver + 1) (F.run l)) b = some (.row t e ver2 l2) := hb
       simp only [upd] at hb
       simp at hb
       exact ⟨by omega, fun _ => rfl⟩
    ·cases hk
  ·cases hk
 ·cases hk
theorem Q46 {w : World} {ok : Nat → Prop} {k : IntKind} : ∀ {l : List Int} {xs : List Value}, DList (fun (x : Int) u => DRep w ok (.int k) x u) l xs ↔ xs = l.map (Value.int k)
 | [], xs => by simp [DList]
 | x :: l, xs => by
  simp only [DList, List.map_cons]
  constructor
  ·rintro ⟨u, v, rfl, hu, hv⟩
   rw [Q46.1 hv]
   simp only [DRep] at hu
   subst hu
   rfl
  ·rintro rfl
   exact ⟨[.int k x], _, rfl, by simp [DRep], Q46.2 rfl⟩
theorem Q6z {w : World} {ok : Nat → Prop} : ∀ {l : List (List UInt8)} {xs : List Value}, DList (fun (x : List UInt8) u => DRep w ok .str x u) l xs ↔ xs = l.map fun s => Value.string ⟨s.toArray⟩
 | [], xs => by simp [DList]
 | x :: l, xs => by
  simp only [DList, List.map_cons]
  constructor
  ·rintro ⟨u, v, rfl, hu, hv⟩
   rw [Q6z.1 hv]
   simp only [DRep] at hu
   subst hu
   rfl
  ·rintro rfl
   exact ⟨[.string ⟨x.toArray⟩], _, rfl, by simp [DRep], Q6z.2 rfl⟩
theorem Q3y {F : BldF} {bl : Nat → Option Blk} {i : Nat} {q : Option (Nat × Nat)} {l : List Int} (h : Qaz F bl i = some (q, l)) :
  ∃ c1 c2, bl i = some (.cells F.t [c1, c2]) ∧ Q73 c1 i = true ∧ ((q = none ∧ l = [] ∧ c2 = .nils) ∨ ∃ j ver, q = some (j, ver) ∧ c2 = .row j ver ∧ bl j = some (.row F.te (.int .u8) ver l)) := by
 unfold Qaz at h
 split at h
 ·rename_i t p q' hbl
  cases hc : (Nat.beq t F.t && Q73 p i) with
  | false => rw [hc] at h; cases h
  | true =>
   simp only [hc, cond_true] at h
   obtain ⟨h1, h2⟩ := andB hc
   have h1 := Nat.eq_of_beq_eq_true h1
   subst h1
   split at h
   ·simp only [Option.some.injEq, Prod.mk.injEq] at h
    obtain ⟨rfl, rfl⟩ := h
    exact ⟨p, _, hbl, h2, .inl ⟨rfl, rfl, rfl⟩⟩
   ·rename_i j ver
    split at h
    ·rename_i te ver' l' hbj
     cases hc2 : (Nat.beq te F.te && Nat.beq ver ver') with
     | false => rw [hc2] at h; cases h
     | true =>
      simp only [hc2, cond_true, Option.some.injEq, Prod.mk.injEq] at h
      obtain ⟨rfl, rfl⟩ := h
      obtain ⟨h3, h4⟩ := andB hc2
      have h3 := Nat.eq_of_beq_eq_true h3
      have h4 := Nat.eq_of_beq_eq_true h4
      subst h3 h4
      exact ⟨p, _, hbl, h2, .inr ⟨j, ver, rfl, rfl, hbj⟩⟩
    ·cases h
   ·cases h
 ·cases h
theorem Q5n {F : BldF} {ok0 : OK0 P} {base : Nat} {pl : Nat → Option Pl} {bl : Nat → Option Blk} {w : World} (hr : RelB ok0 base pl bl w) {i : Nat} {c1 c2 : C} (hbl : bl i = some (.cells F.t [c1, c2])) (hs : Q73 c1 i = true) {u : Value}
  (hu : VRep (Q4 ok0 base pl bl w) (.c (.ptr i 0)) u) : ∃ g p v, u = .pointer (some ⟨g, 0, none⟩) ∧ pl i = some (.cells g) ∧ w.heap[g]? = some (.cells #[p, v] F.t (0, 0)) ∧ (p = .pointer none ∨ p = .pointer (some ⟨g, 0, none⟩)) ∧
   CRep (Q4 ok0 base pl bl w) c2 v := by
 obtain ⟨g, hpi, rfl⟩ := hu
 have hpi : pl i = some (.cells g) := hpi
 obtain ⟨q, hq, hB⟩ := hr.blks i _ hbl
 rw [hpi] at hq
 injection hq with hq
 subst hq
 obtain ⟨vs, hh, v1, vs1, rfl, hv1, v2, vs2, rfl, hv2, hn⟩ := hB
 have hn : vs2 = [] := hn
 subst hn
 refine ⟨g, v1, v2, rfl, hpi, hh, ?_, hv2⟩
 cases c1 <;> simp only [Q73] at hs <;> try (cases hs; done)
 ·exact .inl hv1
 ·rename_i b
  have := Nat.eq_of_beq_eq_true hs
  subst this
  rcases hv1 with h | ⟨g', hg', h⟩
  ·exact .inl h
  ·have hg' : pl b = some (.cells g') := hg'
   rw [hpi] at hg'
   injection hg' with hg'
   injection hg' with hg'
   subst hg'
   exact .inr h
theorem Qce {F : BldF} {ok0 : OK0 P} {base : Nat} {pl : Nat → Option Pl} {bl : Nat → Option Blk} {w : World} (hr : RelB ok0 base pl bl w) {i j ver g : Nat} {B : Blk} (hbi : bl i = some B) (hli : B.live = true) (hpi : pl i = some (.cells g)) {l : List Int}
  (hbj : bl j = some (.row F.te (.int .u8) ver l)) {v : Value} (hv : CRep (Q4 ok0 base pl bl w) (.row j ver) v) (hij : i ≠ j) : pl j = some (.row v []) ∧ w.ownsRow base F.te 1 v l.length (l.map (Value.int .u8)) ∧ v.ownBlock ≠ some g := by
 obtain ⟨_, sv, svs, hsv, hcur⟩ := hv
 have hv := (hcur F.te (.int .u8) ver l hbj).2 rfl
 subst hv
 have hsv : pl j = some (.row v svs) := hsv
 obtain ⟨q, hq, hB⟩ := hr.blks j _ hbj
 rw [hsv] at hq
 injection hq with hq
 subst hq
 obtain ⟨rfl, xs, hd, hown⟩ := hB
 rw [Q46.1 hd] at hown
 refine ⟨hsv, hown, fun h => ?_⟩
 exact hr.sep i j _ _ _ _ g hij hbi hbj hli rfl hpi hsv rfl (.inl h)
theorem Step.still {pl : Nat → Option Pl} {bl : Nat → Option Blk} {w w' : World} (hg : w.grownBy w' none) : Step pl bl w pl bl w' :=
 ⟨hg.os, hg.tape, hg.output, hg.size, fun g hlt ho => ⟨hg.block g hlt (by simp), ho⟩, fun _ _ h => h, fun _ sv svs h => ⟨sv, svs, h, KeepR.refl _ _ _⟩⟩
theorem RelB.still {ok0 : OK0 P} {base : Nat} {pl : Nat → Option Pl} {bl : Nat → Option Blk} {w w' : World} (hr : RelB ok0 base pl bl w) (hg : w.grownBy w' none) : RelB ok0 base pl bl w' := by
 have hs : Step pl bl w pl bl w' := Step.still hg
 refine ⟨Nat.le_trans hr.baseLe hs.size, fun i B hB => ?_, hr.sep, hr.fresh, hr.glob.out hs.size hs.out⟩
 obtain ⟨p, hp, hR⟩ := hr.blks i B hB
 refine ⟨p, hp, ?_⟩
 cases hl : B.live with
 | false => cases B <;> first | exact trivial | simp [Blk.live] at hl
 | true => exact BRep.mono hs.ext hR fun g hq => hg.block g (Own.lt hr ⟨i, B, p, hB, hl, hp, hq⟩) (by simp)
theorem Qbb {α : Type} {f : Nat → Option α} {i j : Nat} (hij : i ≠ j) (x y z : α) : upd (upd (upd f i x) j y) i z = upd (upd f j y) i z := by
 funext k
 simp only [upd]
 by_cases h1 : k = i
 ·simp [h1]
 ·by_cases h2 : k = j
  ·simp [h1, h2]
  ·simp [h1, h2]
theorem Q89 (s : List UInt8) : (Q1y s).length = s.length := by simp [Q1y]
theorem Qcw {E : Env} (s : List UInt8) : VRep E (wrote s) (.tuple #[.int .i64 (s.length : Int), .nilIface]) :=
 ⟨[.int .i64 (s.length : Int), .nilIface], rfl, _, _, rfl, ⟨[.int .i64 (s.length : Int)], ⟨_, _, rfl, rfl, rfl⟩, rfl⟩, _, _, rfl, ⟨[.nilIface], ⟨_, _, rfl, rfl, rfl⟩, rfl⟩, rfl⟩
theorem Qal {w : World} {base : Nat} {t : TypeId} {size : Nat} {v : Value} {n : Nat} {xs : List Value} (h : w.ownsRow base t size v n xs) : v.oneCell' = true := by
 rcases h.2 with ⟨h, _⟩ | ⟨g, cap, cur, h, _⟩ <;> rw [h] <;> rfl
theorem Qeu {F : BldF} {f : FuncId} (hF : BldOk P f F) {kk : K β} {nx : Nat} {args : List V} (hk : Qef F bl nx args kk = some r)
  (hop : ∀ (bl2 : Nat → Option Blk) (ok0 : OK0 P) (base : Nat) (pl : Nat → Option Pl) (w : World) (a : Act), RelB ok0 base pl bl2 w → (∀ x ∈ o.op.operands, VRep (Q4 ok0 base pl bl2 w) (ρ x) (a.eval x)) →
   ∃ us, VReps (Q4 ok0 base pl bl2 w) args us ∧ ((∃ fn, P.funcs[f]? = some fn ∧ (fn.name == "runtime.NumGoroutine") = false ∧ fn.body.isNone = false) → (execOp a.eval o).run P w = .ok (.enter f us.toArray) w)) : Sound P o ρ bl kk r := by
 unfold Qef at hk
 split at hk
 ·
  rename_i i s hn
  split at hk
  ·rename_i l0 hb
   obtain ⟨hfree, hk⟩ := Qe hk
   obtain ⟨hlen, hk⟩ := Qe hk
   have hlen := of_decide_eq_true hlen
   obtain ⟨c1, c2, hbl, hself, hq⟩ := Q3y hb
   obtain ⟨rfl, rfl⟩ : l0 = [] ∧ c2 = .nils := by
    rcases hq with ⟨_, h1, h2⟩ | ⟨j, ver, hq, _⟩
    ·exact ⟨h1, h2⟩
    ·cases hq
   refine ⟨_, _, _, hk, fun bl2 hb2 => ?_⟩
   have hbl2 : bl2 i = some (.cells F.t [c1, .nils]) := (hb2 i (by simp)).trans hbl
   have hnx : bl2 nx = none := by
    rw [hb2 nx (by simp)]
    unfold Qiu at hfree
    split at hfree
    ·assumption
    ·cases hfree
   have hne : i ≠ nx := by rintro rfl; rw [hbl2] at hnx; cases hnx
   intro ok0 base pl w a hr hxs K Q hK
   obtain ⟨us, hus, hrun⟩ := hop bl2 ok0 base pl w a hr hxs
   have hrun := hrun hF.fn
   obtain ⟨u, us1, rfl, hu, u2, us2, rfl, hs2, hnil⟩ := hus
   have hnil : us2 = [] := hnil
   have hs2 : u2 = .string ⟨s.toArray⟩ := hs2
   subst hnil hs2
   obtain ⟨g, p, v, rfl, hpi, hheap, hp, hv⟩ := Q5n hr hbl2 hself hu
   have hv : v = .slice none 0 0 := hv
   subst hv
   have hpost := hF.ok (by rw [hn]; decide) w base g p (.slice none 0 0) [] hr.baseLe hheap hp (World.ownsRow_nil _ _ _ _) (by simp [Value.ownBlock])
   rw [hn] at hpost
   have hcall := hpost s (by simpa using hlen)
   unfold Oper.wp
   rw [hrun]
   simp only [Oper.upon]
   refine hcall.mono fun e w' ⟨he, w1, w2, v', hg1, hh1, hg2, hv', hown2, hg3, hh3⟩ => ?_
   subst he
   simp only
   have hown3 : w2.ownsRow base F.te (Ty.size (.int .u8)) v' (Q1y s).length ((Q1y s).map (Value.int .u8)) := by
    have h := hown2
    simp only [List.length_nil, Nat.zero_add, List.nil_append] at h
    rw [Q89]
    exact h
   have hvn : ∀ g, v'.ownBlock = some g → w1.heap.size ≤ g := fun g hg => by
    rcases hv' with h | h
    ·rw [h] at hg; cases hg
    ·exact h g hg
   have s1 := Step.wrote (cs' := [.bself i, .nils]) hr hbl2 hpi hg1
   have r1 := RelB.wrote (cs' := [.bself i, .nils]) hr hbl2 hpi hg1 ⟨_, hh1, _, _, rfl, .inr ⟨g, by simp [Q4, upd], rfl⟩, _, _, rfl, rfl, rfl⟩
   have hnx1 : upd bl2 i (.cells F.t [.bself i, .nils]) nx = none := by simp [upd, Ne.symm hne, hnx]
   have hg2 : w1.grownBy w2 none := hg2
   have hpn : ∀ g, (Pl.row v' []).has g → w1.heap.size ≤ g := fun g hg => hvn g (Pl.has_row hg)
   have s2 := Step.new (B := .row F.te (.int .u8) 0 (Q1y s)) r1 hnx1 hg2 hpn
   have r2 := RelB.new (B := .row F.te (.int .u8) 0 (Q1y s)) r1 hnx1 hg2 hpn ⟨rfl, _, Q46.2 rfl, hown3⟩
   have hi2 : upd (upd bl2 i (.cells F.t [.bself i, .nils])) nx (.row F.te (.int .u8) 0 (Q1y s)) i = some (.cells F.t [.bself i, .nils]) := by simp [upd, hne]
   have hp2 : upd (upd pl i (.cells g)) nx (.row v' []) i = some (.cells g) := by simp [upd, hne]
   have s3 := Step.wrote (cs' := [.bself i, .row nx 0]) r2 hi2 hp2 hg3
   have r3 := RelB.wrote (cs' := [.bself i, .row nx 0]) r2 hi2 hp2 hg3 ⟨_, hh3, _, _, rfl, .inr ⟨g, by simp [Q4, upd], rfl⟩, _, _, rfl, ⟨Qal hown2, v', [], by simp [Q4, upd, Ne.symm hne], fun t e ver' l' h => by
    simp [Q4, upd, Ne.symm hne] at h
    exact ⟨Nat.zero_le _, fun _ => rfl⟩⟩, rfl⟩
   have s4 := (s1.trans s2).trans s3
   simp only [Qbb hne] at r3 s4
   exact hK _ _ _ r3 s4 (Qcw s)
  ·rename_i j ver l hb
   obtain ⟨hlen, hk⟩ := Qe hk
   have hlen := of_decide_eq_true hlen
   obtain ⟨c1, c2, hbl, hself, hq⟩ := Q3y hb
   rcases hq with ⟨hq, _⟩ | ⟨j', ver', hq, rfl, hbj⟩
   ·cases hq
   simp only [Option.some.injEq, Prod.mk.injEq] at hq
   obtain ⟨rfl, rfl⟩ := hq
   refine ⟨_, _, _, hk, fun bl2 hb2 => ?_⟩
   have hbl2 : bl2 i = some (.cells F.t [c1, .row j ver]) := (hb2 i (by simp)).trans hbl
   have hbj2 : bl2 j = some (.row F.te (.int .u8) ver l) := (hb2 j (by simp)).trans hbj
   have hne : i ≠ j := by rintro rfl; rw [hbl2] at hbj2; cases hbj2
   intro ok0 base pl w a hr hxs K Q hK
   obtain ⟨us, hus, hrun⟩ := hop bl2 ok0 base pl w a hr hxs
   have hrun := hrun hF.fn
   obtain ⟨u, us1, rfl, hu, u2, us2, rfl, hs2, hnil⟩ := hus
   have hnil : us2 = [] := hnil
   have hs2 : u2 = .string ⟨s.toArray⟩ := hs2
   subst hnil hs2
   obtain ⟨g, p, v, rfl, hpi, hheap, hp, hv⟩ := Q5n hr hbl2 hself hu
   obtain ⟨hpj, hown, hneb⟩ := Qce (F := F) hr hbl2 rfl hpi hbj2 hv hne
   have hpost := hF.ok (by rw [hn]; decide) w base g p v l hr.baseLe hheap hp hown hneb
   rw [hn] at hpost
   have hcall := hpost s hlen
   unfold Oper.wp
   rw [hrun]
   simp only [Oper.upon]
   refine hcall.mono fun e w' ⟨he, w1, w2, v', hg1, hh1, hg2, hv', hown2, hg3, hh3⟩ => ?_
   subst he
   simp only
   have hown3 : w2.ownsRow base F.te (Ty.size (.int .u8)) v' (l ++ Q1y s).length ((l ++ Q1y s).map (Value.int .u8)) := by
    rw [List.length_append, Q89]
    exact hown2
   have hpj1 : upd pl i (.cells g) j = some (.row v []) := by simp [upd, Ne.symm hne, hpj]
   have hbj1 : upd bl2 i (.cells F.t [.bself i, .row j ver]) j = some (.row F.te (.int .u8) ver l) := by simp [upd, Ne.symm hne, hbj2]
   have s1 := Step.wrote (cs' := [.bself i, .row j ver]) hr hbl2 hpi hg1
   have r1 := RelB.wrote (cs' := [.bself i, .row j ver]) hr hbl2 hpi hg1 ⟨_, hh1, _, _, rfl, .inr ⟨g, by simp [Q4, upd], rfl⟩, _, _, rfl, ⟨Qal hown, v, [], by simp [Q4, hpj1], fun t e ver' l' h => by
    have h : upd bl2 i (.cells F.t [.bself i, .row j ver]) j = some (.row t e ver' l') := h
    rw [hbj1] at h
    injection h with h
    injection h with h1 h2 h3 h4
    exact ⟨Nat.le_of_eq h3, fun _ => rfl⟩⟩, rfl⟩
   have hver : ver ≤ ver + 1 ∧ (ver = ver + 1 → v' = v ∧ (l ++ Q1y s).length = l.length) := ⟨Nat.le_succ _, fun h => by omega⟩
   have s2 := Step.grown (e := .int .u8) (l' := l ++ Q1y s) r1 hbj1 hpj1 hg2 hv' hver
   have r2 := RelB.grown (e := .int .u8) (l' := l ++ Q1y s) r1 hbj1 hpj1 hg2 hv' hver ⟨rfl, _, Q46.2 rfl, hown3⟩
   have hi2 : upd (upd bl2 i (.cells F.t [.bself i, .row j ver])) j (.row F.te (.int .u8) (ver + 1) (l ++ Q1y s)) i = some (.cells F.t [.bself i, .row j ver]) := by simp [upd, hne]
   have hp2 : upd (upd pl i (.cells g)) j (.row v' []) i = some (.cells g) := by simp [upd, hne]
   have s3 := Step.wrote (cs' := [.bself i, .row j (ver + 1)]) r2 hi2 hp2 hg3
   have r3 := RelB.wrote (cs' := [.bself i, .row j (ver + 1)]) r2 hi2 hp2 hg3 ⟨_, hh3, _, _, rfl, .inr ⟨g, by simp [Q4, upd], rfl⟩, _, _, rfl, ⟨Qal hown2, v', [], by simp [Q4, upd, Ne.symm hne], fun t e ver' l' h => by
    simp [Q4, upd, Ne.symm hne] at h
    exact ⟨by omega, fun _ => rfl⟩⟩, rfl⟩
   have s4 := (s1.trans s2).trans s3
   simp only [Qbb hne] at r3 s4
   exact hK _ _ _ r3 s4 (Qcw s)
  ·cases hk
 ·
  rename_i i hn
  split at hk
  ·rename_i l0 hb
   obtain ⟨c1, c2, hbl, hself, hq⟩ := Q3y hb
   obtain ⟨rfl, rfl⟩ : l0 = [] ∧ c2 = .nils := by
    rcases hq with ⟨_, h1, h2⟩ | ⟨j, ver, hq, _⟩
    ·exact ⟨h1, h2⟩
    ·cases hq
   refine ⟨_, _, _, hk, fun bl2 hb2 => ?_⟩
   have hbl2 : bl2 i = some (.cells F.t [c1, .nils]) := (hb2 i (by simp)).trans hbl
   intro ok0 base pl w a hr hxs K Q hK
   obtain ⟨us, hus, hrun⟩ := hop bl2 ok0 base pl w a hr hxs
   have hrun := hrun hF.fn
   obtain ⟨u, us1, rfl, hu, hnil⟩ := hus
   have hnil : us1 = [] := hnil
   subst hnil
   obtain ⟨g, p, v, rfl, hpi, hheap, hp, hv⟩ := Q5n hr hbl2 hself hu
   have hv : v = .slice none 0 0 := hv
   subst hv
   have hpost := hF.ok (by rw [hn]; decide) w base g p (.slice none 0 0) [] hr.baseLe hheap hp (World.ownsRow_nil _ _ _ _) (by simp [Value.ownBlock])
   rw [hn] at hpost
   have hcall := hpost rfl
   unfold Oper.wp
   rw [hrun]
   simp only [Oper.upon]
   refine hcall.mono fun e w' ⟨he, hg⟩ => ?_
   subst he
   simp only
   exact hK _ _ _ (hr.still hg) (Step.still hg) rfl
  ·rename_i j ver l hb
   obtain ⟨hby, hk⟩ := Qe hk
   obtain ⟨c1, c2, hbl, hself, hq⟩ := Q3y hb
   rcases hq with ⟨hq, _⟩ | ⟨j', ver', hq, rfl, hbj⟩
   ·cases hq
   simp only [Option.some.injEq, Prod.mk.injEq] at hq
   obtain ⟨rfl, rfl⟩ := hq
   refine ⟨_, _, _, hk, fun bl2 hb2 => ?_⟩
   have hbl2 : bl2 i = some (.cells F.t [c1, .row j ver]) := (hb2 i (by simp)).trans hbl
   have hbj2 : bl2 j = some (.row F.te (.int .u8) ver l) := (hb2 j (by simp)).trans hbj
   have hne : i ≠ j := by rintro rfl; rw [hbl2] at hbj2; cases hbj2
   intro ok0 base pl w a hr hxs K Q hK
   obtain ⟨us, hus, hrun⟩ := hop bl2 ok0 base pl w a hr hxs
   have hrun := hrun hF.fn
   obtain ⟨u, us1, rfl, hu, hnil⟩ := hus
   have hnil : us1 = [] := hnil
   subst hnil
   obtain ⟨g, p, v, rfl, hpi, hheap, hp, hv⟩ := Q5n hr hbl2 hself hu
   obtain ⟨hpj, hown, hneb⟩ := Qce (F := F) hr hbl2 rfl hpi hbj2 hv hne
   have hpost := hF.ok (by rw [hn]; decide) w base g p v l hr.baseLe hheap hp hown hneb
   rw [hn] at hpost
   have hcall := hpost hby
   unfold Oper.wp
   rw [hrun]
   simp only [Oper.upon]
   refine hcall.mono fun e w' ⟨he, hg⟩ => ?_
   subst he
   simp only
   have hkeep : KeepR (some (.row F.te (.int .u8) ver l)) (some .dead) v [] v [] := ⟨fun _ _ _ _ h => (by cases h), fun _ _ _ _ _ _ _ h => (by cases h)⟩
   have hs := Step.grownP (B' := .dead) hr hbj2 rfl hpj hg (fun g h => .inl h) (fun g h => .inl h) hkeep
   exact hK _ _ _ (RelB.grownP (B' := .dead) hr hbj2 rfl hpj hg (fun g h => .inl h) (fun g h => .inl h) hkeep trivial) hs rfl
  ·cases hk
 ·
  rename_i i hn
  split at hk
  ·rename_i l0 hb
   obtain ⟨c1, c2, hbl, hself, hq⟩ := Q3y hb
   obtain ⟨rfl, rfl⟩ : l0 = [] ∧ c2 = .nils := by
    rcases hq with ⟨_, h1, h2⟩ | ⟨j, ver, hq, _⟩
    ·exact ⟨h1, h2⟩
    ·cases hq
   refine ⟨_, _, _, hk, fun bl2 hb2 => ?_⟩
   have hbl2 : bl2 i = some (.cells F.t [c1, .nils]) := (hb2 i (by simp)).trans hbl
   intro ok0 base pl w a hr hxs K Q hK
   obtain ⟨us, hus, hrun⟩ := hop bl2 ok0 base pl w a hr hxs
   have hrun := hrun hF.fn
   obtain ⟨u, us1, rfl, hu, hnil⟩ := hus
   have hnil : us1 = [] := hnil
   subst hnil
   obtain ⟨g, p, v, rfl, hpi, hheap, hp, hv⟩ := Q5n hr hbl2 hself hu
   have hv : v = .slice none 0 0 := hv
   subst hv
   have hpost := hF.ok (by rw [hn]; decide) w base g p (.slice none 0 0) [] hr.baseLe hheap hp (World.ownsRow_nil _ _ _ _) (by simp [Value.ownBlock])
   rw [hn] at hpost
   have hcall := hpost
   unfold Oper.wp
   rw [hrun]
   simp only [Oper.upon]
   refine hcall.mono fun e w' ⟨he, hg⟩ => ?_
   subst he
   simp only
   exact hK _ _ _ (hr.still hg) (Step.still hg) rfl
  ·rename_i j ver l hb
   obtain ⟨c1, c2, hbl, hself, hq⟩ := Q3y hb
   rcases hq with ⟨hq, _⟩ | ⟨j', ver', hq, rfl, hbj⟩
   ·cases hq
   simp only [Option.some.injEq, Prod.mk.injEq] at hq
   obtain ⟨rfl, rfl⟩ := hq
   refine ⟨_, _, _, hk, fun bl2 hb2 => ?_⟩
   have hbl2 : bl2 i = some (.cells F.t [c1, .row j ver]) := (hb2 i (by simp)).trans hbl
   have hbj2 : bl2 j = some (.row F.te (.int .u8) ver l) := (hb2 j (by simp)).trans hbj
   have hne : i ≠ j := by rintro rfl; rw [hbl2] at hbj2; cases hbj2
   intro ok0 base pl w a hr hxs K Q hK
   obtain ⟨us, hus, hrun⟩ := hop bl2 ok0 base pl w a hr hxs
   have hrun := hrun hF.fn
   obtain ⟨u, us1, rfl, hu, hnil⟩ := hus
   have hnil : us1 = [] := hnil
   subst hnil
   obtain ⟨g, p, v, rfl, hpi, hheap, hp, hv⟩ := Q5n hr hbl2 hself hu
   obtain ⟨hpj, hown, hneb⟩ := Qce (F := F) hr hbl2 rfl hpi hbj2 hv hne
   have hpost := hF.ok (by rw [hn]; decide) w base g p v l hr.baseLe hheap hp hown hneb
   rw [hn] at hpost
   have hcall := hpost
   unfold Oper.wp
   rw [hrun]
   simp only [Oper.upon]
   refine hcall.mono fun e w' ⟨he, hg⟩ => ?_
   subst he
   simp only
   exact hK _ _ _ (hr.still hg) (Step.still hg) rfl
  ·cases hk
 ·
  rename_i s hn
  refine ⟨_, _, _, hk, fun bl2 hb2 => ?_⟩
  intro ok0 base pl w a hr hxs K Q hK
  obtain ⟨us, hus, hrun⟩ := hop bl2 ok0 base pl w a hr hxs
  have hrun := hrun hF.fn
  obtain ⟨u, us1, rfl, hu, u2, us2, rfl, hs2, hnil⟩ := hus
  have hnil : us2 = [] := hnil
  have hs2 : u2 = .string ⟨s.toArray⟩ := hs2
  have hu : u = .slice none 0 0 := hu
  subst hnil hs2 hu
  have hcall := hF.join hn w base (.slice none 0 0) [] s (World.ownsRow_nil _ _ _ _) (by simp) (by rw [Lib.join_nil]; simp)
  unfold Oper.wp
  rw [hrun]
  simp only [Oper.upon]
  refine hcall.mono fun e w' ⟨he, hg⟩ => ?_
  subst he
  simp only
  exact hK _ _ _ (hr.still hg) (Step.still hg) rfl
 ·
  rename_i j ver s hn
  split at hk
  ·rename_i t ver' l hbj
   cases hc : (Nat.beq t F.t && Nat.beq ver ver') with
   | false => rw [hc] at hk; cases hk
   | true =>
    simp only [hc, cond_true] at hk
    obtain ⟨h1, h2⟩ := andB hc
    have h1 := Nat.eq_of_beq_eq_true h1
    have h2 := Nat.eq_of_beq_eq_true h2
    subst h1 h2
    obtain ⟨hlen, hk⟩ := Qe hk
    obtain ⟨d1, d2⟩ := andB hlen
    have d1 := of_decide_eq_true d1
    have d2 := of_decide_eq_true d2
    refine ⟨_, _, _, hk, fun bl2 hb2 => ?_⟩
    have hbj2 : bl2 j = some (.row F.t .str ver l) := (hb2 j (by simp)).trans hbj
    intro ok0 base pl w a hr hxs K Q hK
    obtain ⟨us, hus, hrun⟩ := hop bl2 ok0 base pl w a hr hxs
    have hrun := hrun hF.fn
    obtain ⟨u, us1, rfl, hu, u2, us2, rfl, hs2, hnil⟩ := hus
    have hnil : us2 = [] := hnil
    have hs2 : u2 = .string ⟨s.toArray⟩ := hs2
    subst hnil hs2
    obtain ⟨_, sv, svs, hsv, hcur⟩ := hu
    have hv := (hcur F.t .str ver l hbj2).2 rfl
    subst hv
    have hsv : pl j = some (.row u svs) := hsv
    obtain ⟨q, hq, hB⟩ := hr.blks j _ hbj2
    rw [hsv] at hq
    injection hq with hq
    subst hq
    obtain ⟨rfl, xs, hd, hown⟩ := hB
    rw [Q6z.1 hd] at hown
    have hcall := hF.join hn w base u l s hown d1 d2
    unfold Oper.wp
    rw [hrun]
    simp only [Oper.upon]
    refine hcall.mono fun e w' ⟨he, hg⟩ => ?_
    subst he
    simp only
    exact hK _ _ _ (hr.still hg) (Step.still hg) rfl
  ·cases hk
 ·cases hk
theorem Q5d {bl : Nat → Option Blk} {i : Nat} {B : Blk} (h : Q4t bl i = some B) : bl i = some B := by
 unfold Q4t at h
 split at h
 ·cases h
 ·exact h
theorem Qj5 {bl : Nat → Option Blk} {i : Nat} {t et : TypeId} {e : Ty} {ver iver : Nat} {hole : Option Nat} {l : List (List e.den)} : Q4t bl i ≠ some (.mat t et e ver iver hole l) := by
 intro h
 have h2 := Q5d h
 unfold Q4t at h
 rw [h2] at h
 cases h
theorem Q8x {bl : Nat → Option Blk} : ∀ {is : List Nat}, Q24 (Q4t bl) is = Q24 bl is
 | [] => rfl
 | i :: is => by
  simp only [Q24, Q8x (is := is)]
  unfold Q4t
  cases h : bl i with
  | none => rfl
  | some B => cases B <;> rfl
theorem Qa9 {S : Spec} {ids : List Nat} : ∀ {as : List Nat}, Q8j S ids as = true → (∀ b ∈ as, (ST.flat S.res && BT.flat S.outs) = true) ∧ ∀ b ∈ as, b ∉ ids
 | [], _ => ⟨fun _ h => by simp at h, fun _ h => by simp at h⟩
 | b :: r, h => by
  obtain ⟨h1, h2⟩ := andB (show ((ST.flat S.res && BT.flat S.outs) && (!memB b ids && Q8j S ids r)) = true from h)
  obtain ⟨h2, h3⟩ := andB h2
  obtain ⟨q1, q2⟩ := Qa9 h3
  have h2' : b ∉ ids := fun hm => by
   rw [Q3p.2 hm] at h2
   cases h2
  refine ⟨fun c hc => ?_, fun c hc => ?_⟩
  ·rcases List.mem_cons.1 hc with rfl | hc
   ·exact h1
   ·exact q1 c hc
  ·rcases List.mem_cons.1 hc with rfl | hc
   ·exact h2'
   ·exact q2 c hc
theorem CReps.cut2 {E : Env} : ∀ {n : Nat} {cs : List C} {vs : List Value}, CReps E cs vs → CReps E (cs.take n) (vs.take n) ∧ CReps E (cs.drop n) (vs.drop n)
 | 0, _, _, h => ⟨by simp [CReps], by simpa using h⟩
 | _ + 1, [], _, h => by simp only [CReps] at h; subst h; simp [CReps]
 | n + 1, _ :: _, _, ⟨v, vs', e, h, ht⟩ => by
  subst e
  obtain ⟨h1, h2⟩ := CReps.cut2 (n := n) ht
  exact ⟨⟨v, _, by simp, h, h1⟩, by simpa using h2⟩
theorem CReps.app {E : Env} : ∀ {cs ds : List C} {vs us : List Value}, CReps E cs vs → CReps E ds us → CReps E (cs ++ ds) (vs ++ us)
 | [], _, _, _, h, k => by simp only [CReps] at h; subst h; simpa using k
 | _ :: _, _, _, _, ⟨v, vs', e, h, ht⟩, k => ⟨v, vs' ++ _, by rw [e]; rfl, h, CReps.app ht k⟩
theorem Q8y {E : Env} : ∀ (l : List CT) {cs : List C} {vs : List Value}, CReps E cs vs → CReps E (Q6f l cs) vs
 | [], _, _, h => by simpa [Q6f] using h
 | t :: l, cs, vs, h => by
  have key : (∃ τ, t = .data τ) ∨ (∀ τ, t ≠ .data τ) := by cases t <;> simp
  rcases key with ⟨τ, rfl⟩ | hn
  ·simp only [Q6f]
   obtain ⟨h1, h2⟩ := CReps.cut2 (n := τ.size) h
   have := CReps.app h1 (Q8y l h2)
   rwa [List.take_append_drop] at this
  ·cases cs with
   | nil => cases t <;> first | exact absurd rfl (hn _) | simpa [Q6f] using h
   | cons c cs =>
    obtain ⟨v, vs', e, h1, h2⟩ := h
    have ih := Q8y l h2
    cases t with
    | data τ => exact absurd rfl (hn τ)
    | junk => exact ⟨v, vs', e, CRep.oneCell h1, ih⟩
    | _ => exact ⟨v, vs', e, h1, ih⟩
theorem Qbc {E : Env} : ∀ {ts : List (Bool × List CT)} {vs : List V} {us : List Value}, VReps E vs us → VReps E (Q8k ts vs) us
 | [], _, _, h => by simpa [Q8k] using h
 | _ :: _, [], _, h => by simpa [Q8k] using h
 | t :: ts, v :: vs, _, ⟨u, us', e, h1, h2⟩ => by
  refine ⟨u, us', e, ?_, Qbc h2⟩
  cases v with
  | agg cs =>
   obtain ⟨ws, h3, h4⟩ := h1
   exact ⟨ws, Q8y _ h3, h4⟩
  | _ => exact h1
theorem Ql0 {ok0 : OK0 P} {base : Nat} {pl : Nat → Option Pl} {bl bl2 : Nat → Option Blk} {w : World} (hr : RelB ok0 base pl bl2 w) {S : Spec} {args args' : List V} {as : List Nat} {us : List Value} (has2 : ∀ i ∈ as, bl2 i = bl i) (has : Q42 args = as) (hargs' : Q74 S bl args = args')
  (hus : VReps (Q4 ok0 base pl bl2 w) args us) : ∃ E : Env, E.w = w ∧ E.bl = bl2 ∧ E.pl = pl ∧ (∀ g, E.ok g → ((ok0 g ∨ base ≤ g) ∧ ¬ Own pl bl2 g) ∨ ∃ b ∈ as, ∃ t cs, bl2 b = some (.cells t cs) ∧ pl b = some (.cells g)) ∧ Q1m E ∧ VReps E args' us := by
 let E0 := Q4 ok0 base pl bl2 w
 let E : Env := { E0 with ok := fun g => E0.ok g ∨ ∃ b ∈ as, ∃ t cs, bl2 b = some (.cells t cs) ∧ pl b = some (.cells g) }
 have hx : Ext E0 E := ⟨Nat.le_refl _, fun g h _ => ⟨.inl h, rfl⟩, fun _ _ h => h, fun _ sv svs h => ⟨sv, svs, h, KeepR.refl _ _ _⟩⟩
 refine ⟨E, rfl, rfl, rfl, fun g h => h, fun i B hB => ?_, ?_⟩
 ·obtain ⟨p, hp, hB2⟩ := hr.blks i B hB
  exact ⟨p, hp, BRep.mono hx hB2 fun _ _ => rfl⟩
 ·subst hargs'
  refine Qbc ?_
  have hmem : ∀ b ∈ Q42 args, b ∈ as := fun b hb => by rw [← has]; exact hb
  clear has
  induction args generalizing us with
  | nil => exact hus
  | cons v vs ih =>
   obtain ⟨u, us', e, hv, ht⟩ := hus
   refine ⟨u, us', e, ?_, ih ht fun b hb => hmem b (by cases v <;> simp [Q42, hb])⟩
   by_cases hl : ∃ b o e n, v = .arr b o e n
   ·obtain ⟨b, o, ty, n, rfl⟩ := hl
    have hb : b ∈ as := hmem b (by simp [Q42])
    obtain ⟨g, hg, hv⟩ := hv
    show VRep E (Q9g bl (.arr b o ty n)) u
    simp only [Q9g]
    ·split
     ·rename_i t cs hbl
      split
      ·rename_i ds hds
       split
       ·rename_i l hl
        cases hc : (Nat.ble n 4096 && Nat.blt 0 ty.size) with
        | false => exact trivial
        | true =>
         obtain ⟨hn, _⟩ := andB hc
         have hn : n ≤ 4096 := Nat.le_of_ble_eq_true hn
         have hb2 : bl2 b = some (.cells t cs) := (has2 b hb).trans hbl
         obtain ⟨p, hp, hB⟩ := hr.blks b _ hb2
         have hpg : p = .cells g := by
          have h2 : pl b = some (.cells g) := hg
          rw [hp] at h2
          injection h2
         subst hpg
         obtain ⟨vals, hh, hcs⟩ := hB
         obtain ⟨s1, _, _⟩ := Q5m hcs hds
         obtain ⟨hd, hlen⟩ := Q6h hr.blksOk (Rows.none _ _) s1 hl
         show DRep w E.ok (.slice ty) l [u]
         simp only [DRep]
         refine ⟨some ⟨g, o, none⟩, n, _, by rw [hv, hlen], by omega, Nat.le_trans hn (by decide), hd.mono fun x us hu => hu.mono fun g h _ => ⟨.inl h, rfl⟩, fun j v hj => ⟨_, rfl, .inr ⟨b, hb, t, cs, hb2, hp⟩, Q58 hh hj⟩⟩
       ·exact trivial
      ·exact trivial
     ·exact trivial
   ·have : Q9g bl v = v := by
     unfold Q9g
     split
     ·rename_i b o e n
      exact absurd ⟨b, o, e, n, rfl⟩ hl
     ·rfl
    show VRep E (Q9g bl v) u
    rw [this]
    exact VRep.mono hx hv
theorem Qi1 {X : Ctx} (hΓ : ΓOk P X.Γ) {kk : K β} {nx : Nat} {f : FuncId} {args : List V} (hk : Q9h X bl nx f args kk = some r)
  (hop : ∀ (bl2 : Nat → Option Blk) (ok0 : OK0 P) (base : Nat) (pl : Nat → Option Pl) (w : World) (a : Act), RelB ok0 base pl bl2 w → (∀ x ∈ o.op.operands, VRep (Q4 ok0 base pl bl2 w) (ρ x) (a.eval x)) →
   ∃ us, VReps (Q4 ok0 base pl bl2 w) args us ∧ ((∃ fn, P.funcs[f]? = some fn ∧ (fn.name == "runtime.NumGoroutine") = false ∧ fn.body.isNone = false) → (execOp a.eval o).run P w = .ok (.enter f us.toArray) w)) : Sound P o ρ bl kk r := by
 unfold Q9h at hk
 split at hk
 ·cases hk
 ·rename_i F hF
  exact Qet (hΓ.rows f F hF) hk hop
 ·rename_i F hF
  exact Qeu (hΓ.bld f F hF) hk hop
 rename_i S hS
 have hspec := hΓ.spec f S hS
 split at hk
 ·cases hk
 rename_i ids hids
 have hlen := Q88 hids
 split at hk
 ·rename_i x y hx hy
  generalize hargs' : Q74 S bl args = args' at hk hx hids
  generalize has : Q42 args = as at hk
  generalize hrds : Qj args' ++ Q24 bl ids = rds at hk
  generalize hnew : Q7 nx (S.outs.length - S.ins.length) = new at hk
  generalize hkills : Q5l S bl rds = kills at hk
  cases hc : (Qed S bl ids new && Q8j S ids as) with
  | false => rw [hc] at hk; cases hk
  | true =>
   simp only [hc, cond_true] at hk
   obtain ⟨hc, hlend⟩ := andB hc
   unfold Qed at hc
   have hlend := Qa9 hlend
   obtain ⟨c1, hc⟩ := andB hc
   obtain ⟨c3, hc⟩ := andB hc
   obtain ⟨c4, hc⟩ := andB hc
   obtain ⟨c5, c6⟩ := andB hc
   have c1 := Q7u c1
   have c4 := Nat.le_of_ble_eq_true c4
   have c3 := Q8u c3
   obtain ⟨z, hz, hcall⟩ := hspec.ok (x, y) _ r hk
   refine ⟨_, _, _, hz, fun bl2 hb2 => ?_⟩
   have hids2 : ∀ i ∈ ids, bl2 i = bl i := fun i hi => hb2 i (by simp [hi])
   have hrds2 : ∀ i ∈ rds, bl2 i = bl i := fun i hi => hb2 i (by simp [hi])
   have has2 : ∀ i ∈ as, bl2 i = bl i := fun i hi => hb2 i (by simp [hi])
   have hnew2 : ∀ i ∈ new, bl2 i = none := fun i hi => (hb2 i (by simp [hi])).trans (c3 i hi)
   intro ok0 base pl w a hr hxs K Q hK
   have hkl : ∀ p ∈ kills, p.2 = Blk.dead ∧ p.1 ∈ rds ∧ ∃ t e ver l, bl2 p.1 = some (.row t e ver l) := fun p hp => by
    rw [← hkills] at hp
    obtain ⟨h1, h2, t, e, ver, l, h3⟩ := Qgf hp
    exact ⟨h1, h2, t, e, ver, l, by rw [hrds2 _ h2]; exact h3⟩
   rw [Q4x] at hK
   let blk : Nat → Option Blk := updL bl2 kills
   have hblk : ∀ i, blk i = bl2 i ∨ (blk i = some .dead ∧ i ∈ rds ∧ ∃ t e ver l, bl2 i = some (.row t e ver l)) := fun i => by
    rcases Q54 (l := kills) (f := bl2) i (fun p hp => (hkl p hp).1) with ⟨h1, _⟩ | ⟨h1, p, hp, h2⟩
    ·exact .inl h1
    ·have := hkl p hp
     rw [h2] at this
     exact .inr ⟨h1, this.2⟩
   have hblkL : ∀ i B, blk i = some B → B.live = true → bl2 i = some B := fun i B hB hl => by
    rcases hblk i with h | ⟨h, _⟩
    ·rw [← h]; exact hB
    ·rw [h] at hB
     injection hB with hB
     subst hB
     cases hl
   obtain ⟨us, hus, hrun⟩ := hop bl2 ok0 base pl w a hr hxs
   have hrun := hrun hspec.fn
   obtain ⟨E, hEw, hEbl, hEpl, hEok, hblks, hus⟩ := Ql0 hr has2 has hargs' hus
   have hcells : ∀ i ∈ ids, ∃ t cs, bl2 i = some (.cells t cs) := fun i hi => by
    obtain ⟨t, cs, h⟩ := Q6y hy i hi
    exact ⟨t, cs, by rw [hids2 i hi]; exact Q5d h⟩
   let ok0c : OK0 P := ⟨fun g => E.ok g ∨ ∃ b ∈ rds, ∃ t e ver l sv, bl2 b = some (.row t e ver l) ∧ pl b = some (.row sv []) ∧ sv.ownBlock = some g⟩
   let plc : Nat → Option Pl := fun b => (ids[b]?).bind pl
   let blc : Nat → Option Blk := fnBl (mkB (Q7 0 S.ins.length) S.ins y)
   let Ec : Env := Q4 ok0c w.heap.size plc blc w
   have hownc : ∀ g, Own plc blc g → ∃ i ∈ ids, pl i = some (.cells g) := by
    rintro g ⟨j, B, p, hB, hl, hp, hg⟩
    cases hj : ids[j]? with
    | none => simp [plc, hj] at hp
    | some i =>
     have hp' : pl i = some p := by simpa [plc, hj] using hp
     have hi := List.mem_of_getElem? hj
     obtain ⟨t, cs, hbl⟩ := hcells i hi
     obtain ⟨q, hq, hR⟩ := hr.blks i _ hbl
     rw [hp'] at hq
     injection hq with hq
     subst hq
     cases p with
     | row _ _ => exact hR.elim
     | cells g' =>
      have hg : g' = g := hg
      subst hg
      exact ⟨i, hi, hp'⟩
   have hownc2 : ∀ g, Own plc blc g → Own pl bl2 g := fun g h => by
    obtain ⟨i, hi, hp⟩ := hownc g h
    obtain ⟨t, cs, hbl⟩ := hcells i hi
    exact ⟨i, _, _, hbl, rfl, hp, rfl⟩
   have hokc : ∀ g, E.ok g → Ec.ok g := fun g h => ⟨.inl (.inl h), fun ho => by
    rcases hEok g h with h | ⟨b, hb, t, cs, hbl, hp⟩
    ·exact h.2 (hownc2 g ho)
    ·obtain ⟨i, hi, hpi⟩ := hownc g ho
     obtain ⟨t', cs', hbli⟩ := hcells i hi
     have hne : i ≠ b := by rintro rfl; exact (hlend.2 i hb) hi
     exact hr.sep i b _ _ _ _ g hne hbli hbl rfl rfl hpi hp rfl rfl⟩
   have hrows : ∀ ids0 : List Nat, (∀ b ∈ ids0, b ∈ rds) → Rows E (Q4t bl) Ec.ok ids0 := fun ids0 h0 => ⟨hokc, fun b hb t e ver l hbl => by
    have hbl2 : bl2 b = some (.row t e ver l) := by rw [hrds2 b (h0 b hb)]; exact Q5d hbl
    refine ⟨by rw [hEbl]; exact hbl2, fun sv g hsv hg => ?_⟩
    rw [hEpl] at hsv
    refine ⟨.inl (.inr ⟨b, h0 b hb, t, e, ver, l, sv, hbl2, hsv, hg⟩), fun ho => ?_⟩
    obtain ⟨i, hi, hp⟩ := hownc g ho
    obtain ⟨t', cs, hbli⟩ := hcells i hi
    have hne : i ≠ b := by rintro rfl; rw [hbl2] at hbli; cases hbli
    exact hr.sep i b _ _ _ _ g hne hbli hbl2 rfl rfl hp hsv rfl (.inl hg), fun b hb t et e ver iver hole l hbl => absurd hbl Qj5⟩
   have hren : Ren E Ec ids (Q7 0 S.ins.length) := by
    have key : ∀ b i, ids[b]? = some i → Ec.pl ((Q7 0 S.ins.length).getD b 0) = pl i := by
     intro b i hi
     have hlt : b < S.ins.length := by rw [← hlen]; exact (List.getElem?_eq_some_iff.1 hi).1
     rw [Q4w hlt]
     simp [Ec, Q4, plc, hi]
    refine ⟨fun b i g hi h => ?_, fun b i sv svs t e ver l hi _ h => ?_, fun b i sv svs t et e ver iver hole l hi _ h => ?_, fun b i hi h => ?_⟩
    ·rw [key b i hi, ← hEpl]; exact h
    ·rw [key b i hi, ← hEpl]; exact h
    ·rw [key b i hi, ← hEpl]; exact h
    ·obtain ⟨t, cs, hbl⟩ := hcells i (List.mem_of_getElem? hi)
     rw [hEbl, hbl] at h
     cases h
   have hagree : ∀ i ∈ ids, Q4t bl i = E.bl i := fun i hi => by
    obtain ⟨t, cs, h⟩ := Q6y hy i hi
    rw [hEbl, hids2 i hi, h, Q5d h]
   have hargs := Q8w hblks (show Ec.w = E.w from hEw.symm) hren hagree (hrows _ fun b hb => by rw [← hrds]; exact List.mem_append_left _ hb) hus hx
   obtain ⟨hlB, hinB⟩ := Qcv hblks (show Ec.w = E.w from hEw.symm) hren hagree (hrows _ fun b hb => by rw [← hrds]; exact List.mem_append_right _ (by rw [Q8x] at hb; exact hb)) (fun i hi => hi) hy
   have hrelc : RelB ok0c w.heap.size plc blc w := by
    refine ⟨Nat.le_refl _, fun i B hB => ?_, fun i j B C p q g hij hB hC hlB' hlC hp hq hpg => ?_, fun i hi => ?_, hr.glob.mono hownc2⟩
    ·have hlt : i < ids.length := by
      have := (List.getElem?_eq_some_iff.1 (show (mkB (Q7 0 S.ins.length) S.ins y)[i]? = some B from hB)).1
      rw [Q17] at this
      omega
     obtain ⟨g, B', h1, h2, h3, _⟩ := hinB i ids[i] (List.getElem?_eq_getElem hlt)
     have hBB : B = B' := by
      have h4 : (mkB (Q7 0 S.ins.length) S.ins y)[i]? = some B := hB
      rw [h2] at h4
      injection h4 with h4
      exact h4.symm
     rw [hEpl] at h1
     exact ⟨.cells g, by simp [plc, List.getElem?_eq_getElem hlt, h1], by rw [hBB]; exact h3⟩
    ·cases hi : ids[i]? with
     | none => simp [plc, hi] at hp
     | some i' =>
      cases hj : ids[j]? with
      | none => simp [plc, hj] at hq
      | some j' =>
       have hp' : pl i' = some p := by simpa [plc, hi] using hp
       have hq' : pl j' = some q := by simpa [plc, hj] using hq
       have hne : i' ≠ j' := by
        rintro rfl
        have h1 := Q3q c1 hi
        have h2 := Q3q c1 hj
        rw [h1] at h2
        injection h2 with h2
        exact hij h2
       obtain ⟨t1, cs1, hb1⟩ := hcells i' (List.mem_of_getElem? hi)
       obtain ⟨t2, cs2, hb2'⟩ := hcells j' (List.mem_of_getElem? hj)
       exact hr.sep i' j' _ _ p q g hne hb1 hb2' rfl rfl hp' hq' hpg
    ·have hge : ids.length ≤ i := by
      have h1 : (mkB (Q7 0 S.ins.length) S.ins y)[i]? = none := hi
      rw [List.getElem?_eq_none_iff, Q17] at h1
      omega
     simp [plc, List.getElem?_eq_none hge]
   unfold Oper.wp
   rw [hrun]
   simp only [Oper.upon]
   refine (hcall ok0c plc w us hrelc hargs).mono fun e w' hpost => ?_
   obtain ⟨vals, pl', rfl, hR, hS, hT⟩ := hpost
   simp only
   generalize hids' : ids ++ new = ids' at *
   have hlen' : ids'.length = S.outs.length := by
    rw [← hids', List.length_append, ← hnew, Q59, hlen]
    omega
   have hnod' : ids'.Nodup := by
    rw [← hids']
    refine List.nodup_append.2 ⟨c1, by rw [← hnew]; exact Q61, fun x hx y hy hxy => ?_⟩
    subst hxy
    obtain ⟨t, cs, h⟩ := hcells x hx
    rw [hnew2 x hy] at h
    cases h
   let blo : Nat → Option Blk := fnBl (mkB (Q7 0 S.outs.length) S.outs z.2)
   let Eo : Env := Q4 ok0c w.heap.size pl' blo w'
   let pl2 : Nat → Option Pl := fun i => match place ids' i with | some b => pl' b | none => pl i
   have hbl' : ∀ i, updL (updL bl2 kills) (ids'.zip (mkB ids' S.outs z.2)) i = match place ids' i with | some b => (mkB ids' S.outs z.2)[b]? | none => blk i :=
    fun i => Qkz i hnod' (by rw [Q17]; exact hlen')
   generalize hbl2' : updL (updL bl2 kills) (ids'.zip (mkB ids' S.outs z.2)) = bl3 at *
   have hpl2n : ∀ i, place ids' i = none → pl2 i = pl i := fun i h => by simp only [pl2, h]
   have hpl2s : ∀ i b, place ids' i = some b → pl2 i = pl' b := fun i b h => by simp only [pl2, h]
   have hbl3n : ∀ i, place ids' i = none → bl3 i = blk i := fun i h => by rw [hbl', h]
   have hbl3s : ∀ i b, place ids' i = some b → bl3 i = (mkB ids' S.outs z.2)[b]? := fun i b h => by rw [hbl', h]
   have hplb : ∀ i b, place ids' i = some b → b < S.outs.length := fun i b h => by rw [← hlen']; exact (List.getElem?_eq_some_iff.1 (Q2o h)).1
   have hblo : ∀ b, b < S.outs.length → ∃ B, blo b = some B ∧ B.live = true := fun b hb => by
    have hb' : b < (mkB (Q7 0 S.outs.length) S.outs z.2).length := by rw [Q17]; exact hb
    exact ⟨_, List.getElem?_eq_getElem hb', Q62 (List.getElem?_eq_getElem hb')⟩
   have hown2 : ∀ g, Own pl2 bl3 g → (Own pl bl2 g ∧ ∃ i B p, place ids' i = none ∧ bl2 i = some B ∧ B.live = true ∧ pl i = some p ∧ p.has g) ∨ Own pl' blo g := by
    rintro g ⟨i, B, p, hB, hl, hp, hg⟩
    cases hpi : place ids' i with
    | none =>
     rw [hbl3n i hpi] at hB
     rw [hpl2n i hpi] at hp
     have hB := hblkL i B hB hl
     exact .inl ⟨⟨i, B, p, hB, hl, hp, hg⟩, i, B, p, hpi, hB, hl, hp, hg⟩
    | some b =>
     rw [hpl2s i b hpi] at hp
     obtain ⟨B', hB', hl'⟩ := hblo b (hplb i b hpi)
     exact .inr ⟨b, B', p, hB', hl', hp, hg⟩
   have hkept : ∀ i B p g, place ids' i = none → bl2 i = some B → B.live = true → pl i = some p → p.has g → w'.heap[g]? = w.heap[g]? ∧ ¬ Own pl' blo g := by
    intro i B p g hpi hB hl hp hg
    have hlt : g < w.heap.size := Own.lt hr ⟨i, B, p, hB, hl, hp, hg⟩
    refine hS.out g hlt fun ho => ?_
    obtain ⟨j, hj, hpj⟩ := hownc g ho
    obtain ⟨t, cs, hbj⟩ := hcells j hj
    have hne : i ≠ j := by
     rintro rfl
     obtain ⟨b, hb⟩ := List.getElem?_of_mem (show i ∈ ids' by rw [← hids']; exact List.mem_append_left _ hj)
     rw [Q3q hnod' hb] at hpi
     cases hpi
    exact hr.sep i j _ _ _ _ g hne hB hbj hl rfl hp hpj hg rfl
   have hstep : Step pl bl2 w pl2 bl3 w' := by
    refine ⟨hS.os, hS.tape, hS.output, hS.size, fun g hlt ho => ?_, fun b g hb => ?_, fun b sv svs hb => ?_⟩
    ·obtain ⟨h1, h2⟩ := hS.out g hlt fun h => ho (hownc2 g h)
     refine ⟨h1, fun h => ?_⟩
     rcases hown2 g h with h | h
     ·exact ho h.1
     ·exact h2 h
    ·cases hpi : place ids' b with
     | none => rw [hpl2n b hpi]; exact hb
     | some j =>
      rw [hpl2s b j hpi]
      have hj := Q2o hpi
      rw [← hids'] at hj
      by_cases hjl : j < ids.length
      ·rw [List.getElem?_append_left hjl] at hj
       exact hS.cells j g (by omega) (by simp only [plc, hj, Option.bind_some]; exact hb)
      ·rw [List.getElem?_append_right (by omega)] at hj
       have := hr.fresh b (hnew2 b (List.mem_of_getElem? hj))
       rw [this] at hb
       cases hb
    ·have hpi : place ids' b = none := by
      cases hpi : place ids' b with
      | none => rfl
      | some j =>
       have hj := List.mem_of_getElem? (Q2o hpi)
       rw [← hids'] at hj
       rcases List.mem_append.1 hj with hj | hj
       ·obtain ⟨t, cs, h⟩ := hcells b hj
        obtain ⟨q, hq, hR⟩ := hr.blks b _ h
        rw [hb] at hq
        injection hq with hq
        subst hq
        exact hR.elim
       ·have := hr.fresh b (hnew2 b hj)
        rw [this] at hb
        cases hb
     exact ⟨sv, svs, by rw [hpl2n b hpi]; exact hb, KeepR.of_live (fun C h hC => by rw [hbl3n b hpi] at h; exact hblkL b _ h (by cases C <;> first | rfl | exact absurd rfl hC)) _ _⟩
   have hdat : ∀ (τ : Ty) (x : τ.den) (us : List Value), ((ST.flat S.res && BT.flat S.outs) = false ∨ τ.flat = true) → DRep Eo.w Eo.ok τ x us → DRep (Q4 ok0 base pl2 bl3 w').w (Q4 ok0 base pl2 bl3 w').ok τ x us := by
    intro τ x us hor hd
    rcases hor with hemp | hflat
    ·refine hd.mono fun g hg _ => ⟨?_, rfl⟩
     obtain ⟨h1, h2⟩ := hg
     rcases h1 with (h1 | ⟨b, hb, t, e, ver, l, sv, hbl2b, hplb', hsvg⟩) | h1
     ·have h1 : (ok0 g ∨ base ≤ g) ∧ ¬ Own pl bl2 g := by
       rcases hEok g h1 with h1 | ⟨b, hb, _⟩
       ·exact h1
       ·rw [(hlend.1 b hb)] at hemp
        cases hemp
      refine ⟨h1.1, fun ho => ?_⟩
      rcases hown2 g ho with h | h
      ·exact h1.2 h.1
      ·exact h2 h
     ·
      refine ⟨.inr ?_, fun ho => ?_⟩
      ·obtain ⟨p, hp, hB⟩ := hr.blks b _ hbl2b
       rw [hplb'] at hp
       injection hp with hp
       subst hp
       obtain ⟨_, xs, _, hrow⟩ := hB
       rcases hrow.2 with ⟨h3, _⟩ | ⟨g', cap, cur, h3, h4, _⟩
       ·rw [h3] at hsvg; simp [Value.ownBlock] at hsvg
       ·rw [h3] at hsvg
        simp only [Value.ownBlock, Option.some.injEq] at hsvg
        subst hsvg
        exact h4
      ·rcases hown2 g ho with ⟨_, i, B, p, hpi, hBi, hl, hpi', hpg⟩ | h
       ·by_cases hib : i = b
        ·subst hib
         have hmem : (i, Blk.dead) ∈ kills := by
          rw [← hkills]
          exact Qgg hemp hb (by rw [← hrds2 i hb]; exact hbl2b)
         obtain ⟨j, B', p', hB', hl', hp', hg'⟩ := ho
         cases hpj : place ids' j with
         | none =>
          rw [hbl3n j hpj] at hB'
          rw [hpl2n j hpj] at hp'
          have hB2 := hblkL j B' hB' hl'
          by_cases hji : j = i
          ·subst hji
           rcases Q54 (l := kills) (f := bl2) j (fun p hp => (hkl p hp).1) with ⟨_, h5⟩ | ⟨h5, _⟩
           ·exact h5 _ hmem rfl
           ·rw [show blk j = some .dead from h5] at hB'
            injection hB' with hB'
            subst hB'
            cases hl'
          ·exact hr.sep j i B' _ p' (.row sv []) g hji hB2 hbl2b hl' rfl hp' hplb' hg' (.inl hsvg)
         | some q =>
          rw [hpl2s j q hpj] at hp'
          obtain ⟨Bq, hBq, hlq⟩ := hblo q (hplb j q hpj)
          exact h2 ⟨q, Bq, p', hBq, hlq, hp', hg'⟩
        ·exact hr.sep i b B _ p (.row sv []) g hib hBi hbl2b hl rfl hpi' hplb' hpg (.inl hsvg)
       ·exact h2 h
     ·refine ⟨.inr (Nat.le_trans hr.baseLe h1), fun ho => ?_⟩
      rcases hown2 g ho with h | h
      ·have := Own.lt hr h.1; omega
      ·exact h2 h
    ·exact hd.flat hflat
   have hren2 : Ren2 S.outs.length Eo (Q4 ok0 base pl2 bl3 w') (Q7 0 S.outs.length) ids' := by
    have key : ∀ b, b < S.outs.length → pl2 (ids'.getD b 0) = pl' b ∧ bl3 (ids'.getD b 0) = (mkB ids' S.outs z.2)[b]? := by
     intro b hb
     have hb' : b < ids'.length := by omega
     have hget : ids'[b]? = some ids'[b] := List.getElem?_eq_getElem hb'
     have hgd : ids'.getD b 0 = ids'[b] := by simp [List.getD, hget]
     have hpb := Q3q hnod' hget
     rw [hgd]
     exact ⟨hpl2s _ b hpb, hbl3s _ b hpb⟩
    refine ⟨fun b g hb h => ?_, fun b sv svs hb h => ?_⟩
    ·rw [Q4w hb] at h
     show pl2 _ = _
     rw [(key b hb).1]
     exact h
    ·rw [Q4w hb] at h ⊢
     refine ⟨?_, fun t e ver l h2 => ?_, fun t et e ver iver hole l h2 => ?_⟩
     ·show pl2 _ = _
      rw [(key b hb).1]
      exact h
     ·have h3 : bl3 (ids'.getD b 0) = some (.row t e ver l) := h2
      rw [(key b hb).2] at h3
      exact Q7d h3
     ·have h3 : bl3 (ids'.getD b 0) = some (.mat t et e ver iver hole l) := h2
      rw [(key b hb).2] at h3
      exact Q7e h3
   have hfl : (ST.flat S.res && BT.flat S.outs) = false ∨ (ST.flat S.res = true ∧ BT.flat S.outs = true) := by
    cases hf : (ST.flat S.res && BT.flat S.outs) with
    | false => exact .inl rfl
    | true => exact .inr (andB hf)
   refine hK (Q3e vals) pl2 w' ?_ hstep ?_
   ·refine ⟨Nat.le_trans hr.baseLe hS.size, fun i B hB => ?_, fun i j B C p q g hij hB hC hlB' hlC hp hq hpg => ?_, fun i hi => ?_, hr.glob.out hstep.size hstep.out⟩
    ·cases hpi : place ids' i with
     | none =>
      rw [hbl3n i hpi] at hB
      cases hl : B.live with
      | false =>
       have hex : ∃ B0, bl2 i = some B0 := by
        rcases hblk i with h | ⟨_, _, t, e, ver, l, h⟩
        ·exact ⟨B, by rw [← h]; exact hB⟩
        ·exact ⟨_, h⟩
       obtain ⟨B0, hB0⟩ := hex
       obtain ⟨p, hp, _⟩ := hr.blks i B0 hB0
       refine ⟨p, by rw [hpl2n i hpi]; exact hp, ?_⟩
       cases B <;> first | exact trivial | simp [Blk.live] at hl
      | true =>
       have hB := hblkL i B hB hl
       obtain ⟨p, hp, hBR⟩ := hr.blks i B hB
       refine ⟨p, by rw [hpl2n i hpi]; exact hp, ?_⟩
       exact BRep.mono hstep.ext hBR fun g hg => (hkept i B p g hpi hB hl hp hg).1
     | some b =>
      obtain ⟨Bo, hBo, hlo⟩ := hblo b (hplb i b hpi)
      obtain ⟨p, hp, hBR⟩ := hR.blks b Bo hBo
      obtain ⟨B', h1, h2, _, _, _⟩ := Q7c hren2 (hr.baseLe) hdat rfl c6 (hfl.imp id (·.2)) hBo hBR
      rw [hbl3s i b hpi, h1] at hB
      injection hB with hB
      subst hB
      exact ⟨p, by rw [hpl2s i b hpi]; exact hp, h2⟩
    ·cases hpi : place ids' i with
     | none =>
      rw [hbl3n i hpi] at hB
      have hB := hblkL i B hB hlB'
      rw [hpl2n i hpi] at hp
      cases hpj : place ids' j with
      | none =>
       rw [hbl3n j hpj] at hC
       have hC := hblkL j C hC hlC
       rw [hpl2n j hpj] at hq
       exact hr.sep i j B C p q g hij hB hC hlB' hlC hp hq hpg
      | some b =>
       rw [hpl2s j b hpj] at hq
       intro hqg
       obtain ⟨Bo, hBo, hlo⟩ := hblo b (hplb j b hpj)
       exact (hkept i B p g hpi hB hlB' hp hpg).2 ⟨b, Bo, q, hBo, hlo, hq, hqg⟩
     | some b =>
      rw [hpl2s i b hpi] at hp
      obtain ⟨Bo, hBo, hlo⟩ := hblo b (hplb i b hpi)
      cases hpj : place ids' j with
      | none =>
       rw [hbl3n j hpj] at hC
       have hC := hblkL j C hC hlC
       rw [hpl2n j hpj] at hq
       intro hqg
       exact (hkept j C q g hpj hC hlC hq hqg).2 ⟨b, Bo, p, hBo, hlo, hp, hpg⟩
      | some b' =>
       rw [hpl2s j b' hpj] at hq
       obtain ⟨Bo', hBo', hlo'⟩ := hblo b' (hplb j b' hpj)
       have hbb : b ≠ b' := by
        rintro rfl
        have h1 := Q2o hpi
        have h2 := Q2o hpj
        rw [h1] at h2
        injection h2 with h2
        exact hij h2
       exact hR.sep b b' _ _ p q g hbb hBo hBo' hlo hlo' hp hq hpg
    ·cases hpi : place ids' i with
     | none =>
      rw [hbl3n i hpi] at hi
      rw [hpl2n i hpi]
      rcases hblk i with h | ⟨h, _⟩
      ·exact hr.fresh i (by rw [← h]; exact hi)
      ·rw [h] at hi; cases hi
     | some b =>
      rw [hbl3s i b hpi] at hi
      have := hplb i b hpi
      rw [List.getElem?_eq_none_iff, Q17] at hi
      omega
   ·exact TReps.res (Qh1 hren2 hdat c5 (hfl.imp id (·.1)) hT)
 ·cases hk
end
end Go.Lift
namespace Go.Lift
open Go.RowKit Go.MapKept
section
variable {P : Program} {o : Oper} {ρ : Operand → V} {bl : Nat → Option Blk} {β : Type} {r : β}
theorem Qgi {t : TypeId} {ti : TI} {i : TypeInfo} {d : TypeDesc} {z : Value} (f : TFacts P t ti i d z) {k : Ty} (hk : Q1u ti k = true) (hw : keyW k = false) {w : World} {ok : Nat → Prop} {x : k.den} {u : Value} (hd : DRep w ok k x [u]) : IsKey d u := by
 cases k with
 | bool =>
  simp only [Q1u, f.isBool] at hk
  simp only [DRep, List.cons.injEq, and_true] at hd
  subst hd
  cases d <;> simp [Q9l] at hk
  trivial
 | int k =>
  have hk := of_decide_eq_true hk
  rw [f.kind] at hk
  simp only [DRep, List.cons.injEq, and_true] at hd
  subst hd
  cases d <;> simp [Q9k] at hk
  subst hk
  rfl
 | str =>
  simp only [Q1u, f.isStr] at hk
  simp only [DRep, List.cons.injEq, and_true] at hd
  subst hd
  cases d <;> simp [Qb3] at hk
  trivial
 | unit => simp [Q1u] at hk
 | err => simp [Q1u] at hk
 | prod a b => simp [keyW] at hw
 | slice e => simp [Q1u] at hk
theorem Qi2 {ti : TI} {a b : Ty} (hk : Q1u ti (.prod a b) = true) : ∃ i j, a = .int i ∧ b = .int j ∧ ti.eqs = some [.i, .i] ∧ ti.len = some 2 := by
 cases a <;> cases b <;> first | (simp [Q1u] at hk; done) | skip
 refine ⟨_, _, rfl, rfl, ?_⟩
 simp only [Q1u] at hk
 split at hk
 ·rename_i h1 h2; exact ⟨h1, h2⟩
 ·cases hk
theorem Qcx {E : Env} {k : Ty} {v : V} {key : k.den} {u : Value} (h : Q35 k v = some key) (hv : VRep E v u) : KRep E.w E.ok k key u := by
 cases k with
 | bool =>
  cases v <;> first | (cases h; done) | skip
  rename_i c
  cases c <;> first | (cases h; done) | skip
  simp only [Q35] at h
  injection h with h
  subst h
  have : u = .bool _ := hv
  subst this; exact ⟨_, rfl, rfl⟩
 | int k =>
  cases v <;> first | (cases h; done) | skip
  rename_i c
  cases c <;> first | (cases h; done) | skip
  simp only [Q35] at h
  split at h
  ·rename_i hk
   subst hk
   injection h with h
   subst h
   have : u = .int _ _ := hv
   subst this; exact ⟨_, rfl, rfl⟩
  ·cases h
 | str =>
  cases v <;> first | (cases h; done) | skip
  rename_i c
  cases c <;> first | (cases h; done) | skip
  simp only [Q35] at h
  injection h with h
  subst h
  have : u = .string _ := hv
  subst this; exact ⟨_, rfl, rfl⟩
 | unit => simp [Q35] at h
 | err => simp [Q35] at h
 | prod a b =>
  cases a <;> first | (simp [Q35] at h; done) | skip
  cases b <;> first | (simp [Q35] at h; done) | skip
  cases v <;> first | (simp [Q35] at h; done) | skip
  rename_i cs
  match cs, h, hv with
  | [.int j n, .int j2 n2], h, hv =>
   simp only [Q35] at h
   split at h
   ·rename_i hk
    obtain ⟨rfl, rfl⟩ := hk
    injection h with h
    subst h
    obtain ⟨vs, ⟨v1, r1, e1, c1, ⟨v2, r2, e2, c2, e3⟩⟩, hu⟩ := hv
    have c1 : v1 = .int _ _ := c1
    have c2 : v2 = .int _ _ := c2
    have e3 : r2 = [] := e3
    subst e3 e2 e1 c1 c2
    exact ⟨_, ⟨[_], [_], rfl, rfl, rfl⟩, by simpa [keyW] using hu⟩
   ·cases h
 | slice e => simp [Q35] at h
theorem Qj6 {ti : TI} {k : Ty} (hk : Q1u ti k = true) (hw : keyW k = false) {w : World} {ok : Nat → Prop} {a b : k.den} {x y : Value} (ha : DRep w ok k a [x]) (hb : DRep w ok k b [y]) : (Q2g k a b = true ↔ y = x) := by
 cases k with
 | bool =>
  simp only [DRep, List.cons.injEq, and_true] at ha hb
  subst ha hb
  simp only [Q2g, beq_iff_eq, Value.bool.injEq]
  exact eq_comm
 | int k =>
  simp only [DRep, List.cons.injEq, and_true] at ha hb
  subst ha hb
  simp only [Q2g, decide_eq_true_eq, Value.int.injEq, true_and]
  exact eq_comm
 | str =>
  simp only [DRep, List.cons.injEq, and_true] at ha hb
  subst ha hb
  simp only [Q2g, decide_eq_true_eq, Value.string.injEq, ByteArray.mk.injEq]
  constructor
  ·intro h; rw [h]
  ·intro h; simpa using congrArg Array.toList h.symm
 | unit => simp [Q1u] at hk
 | err => simp [Q1u] at hk
 | prod a b => simp [keyW] at hw
 | slice e => simp [Q1u] at hk
theorem KRep.one {w : World} {ok : Nat → Prop} {k : Ty} {x : k.den} {u : Value} (hw : keyW k = false) (h : KRep w ok k x u) : DRep w ok k x [u] := by
 obtain ⟨us, h1, h2⟩ := h
 rw [hw] at h2
 have h2 : us = [u] := by simpa using h2
 rw [← h2]; exact h1
theorem KRep.two {w : World} {ok : Nat → Prop} {i j : IntKind} {x : Int × Int} {u : Value} (h : KRep w ok (.prod (.int i) (.int j)) x u) : u = .agg #[.int i x.1, .int j x.2] := by
 obtain ⟨us, ⟨v1, v2, e0, e1, e2⟩, h2⟩ := h
 have e1 : v1 = [_] := e1
 have e2 : v2 = [_] := e2
 subst e1 e2 e0
 simpa [keyW] using h2
theorem Qj7 {w : World} {e : TypeId} {q : IntKind} (h : P.underlying e = some (.int q)) (em : Bool) (k : IntKind) (x : Int) (n : Nat) : (Instr.checkKey em (n + 1) e (.int k x)).run P w = .ok () w := by
 unfold Instr.checkKey
 simp [run_underlying h, Result.andThen]
theorem Qi3 {em : Bool} {w : World} {kt e : TypeId} {ka kb : IntKind} {a b : Int} (hund : P.underlying kt = some (.array 2 e)) (hs : (sizeOf e).run P w = .ok 1 w) (p0 : (part e #[.int ka a, .int kb b] 0).run P w = .ok (.int ka a) w)
  (p1 : (part e #[.int ka a, .int kb b] 1).run P w = .ok (.int kb b) w) (hc : ∀ k x n, (Instr.checkKey em (n + 1) e (.int k x)).run P w = .ok () w) (n : Nat) : (Instr.checkKey em (n + 2) kt (.agg #[.int ka a, .int kb b])).run P w = .ok () w := by
 rw [Instr.checkKey]
 simp [run_underlying hund, Result.andThen, List.range', hs, p0, p1, hc]
structure Finds (P : Program) (w : World) (ok : Nat → Prop) (kt : TypeId) (k : Ty) (key : k.den) (u : Value) (Fd : List MapEntry → Nat → Option (Nat × Value) → Prop) : Prop where
 rep : KRep w ok k key u
 nil : ∀ i, Fd [] i none
 cons : ∀ (x : k.den) (e : MapEntry) (es : List MapEntry) (i : Nat), KRep w ok k x e.key → (Q2g k x key = true ∧ e.key = u ∧ Fd (e :: es) i (some (i, e.val))) ∨ (Q2g k x key = false ∧ ∀ r, Fd es (i + 1) r → Fd (e :: es) i r)
 run : ∀ es r, Fd es 0 r → (Instr.findKey kt u es).run P w = .ok r w
 check : ∀ em, (Instr.checkKey em 10000 kt u).run P w = .ok () w
 stays : (Instr.keyThatStays u u).run P w = .ok u w
theorem Qcy {kt : TypeId} {ti : TI} {i : TypeInfo} {d : TypeDesc} {z : Value} (f : TFacts P kt ti i d z) {k : Ty} (hk : Q1u ti k = true) {w : World} {ok : Nat → Prop} {key : k.den} {u : Value} (hd : KRep w ok k key u) :
  ∃ Fd, Finds P w ok kt k key u Fd := by
 cases hw : keyW k with
 | false =>
  have hik := fun (y : k.den) (u : Value) (h : KRep w ok k y u) => Qgi f hk hw (h.one hw)
  refine ⟨fun es i r => Instr.findNow d u es i = some r, hd, fun _ => rfl, fun x e es i hx => ?_, fun es r h => run_findKey f.under h, fun em => run_checkKey f.under (hik key _ hd) em _, run_keyThatStays (hik key _ hd)⟩
  obtain ⟨q, hq, hiff⟩ := sameNow_of_keys (hik key u hd) (hik x e.key hx)
  have hke := Qj6 hk hw (hx.one hw) (hd.one hw)
  cases q with
  | true =>
   have hue : u = e.key := hiff.1 rfl
   exact .inl ⟨hke.2 hue, hue.symm, by simp [Instr.findNow, hq]⟩
  | false =>
   have hue : u ≠ e.key := fun h => by have := hiff.2 h; cases this
   refine .inr ⟨?_, fun r h => by simp [Instr.findNow, hq, h]⟩
   cases hh : Q2g k x key with
   | false => rfl
   | true => exact absurd (hke.1 hh) hue
 | true =>
  cases k with
  | prod a b =>
   obtain ⟨ka, kb, rfl, rfl, he, hl⟩ := Qi2 hk
   have hu := hd.two
   have heqs := f.eqs.symm.trans he
   have hdu : ∃ e, P.underlying kt = some (.array 2 e) ∧ Q4v P e = some .i ∧ P.cellsOf e = 1 := by
    have hal := f.alen.symm.trans hl
    have hund := f.under
    cases d <;> simp [lenD] at hal
    subst hal
    rename_i e
    refine ⟨e, hund, ?_⟩
    unfold Qb2 at heqs
    rw [hund] at heqs
    simp only at heqs
    split at heqs
    ·rename_i kk hkk
     cases hc : (Nat.beq (P.cellsOf e) 1 && !P.eqGuardType P.depth kt) with
     | false => rw [hc] at heqs; cases heqs
     | true =>
      rw [hc] at heqs
      simp only [cond_true, Option.some.injEq, List.replicate, List.cons.injEq, and_true] at heqs
      obtain ⟨hc1, _⟩ := andB hc
      exact ⟨by rw [hkk, heqs.1], Nat.eq_of_beq_eq_true hc1⟩
    ·cases heqs
   obtain ⟨e, hund, hbas, hone⟩ := hdu
   have hunde : ∃ q, P.underlying e = some (.int q) := by
    unfold Q4v at hbas
    split at hbas
    all_goals first | (cases hbas; done) | skip
    rename_i q hq
    exact ⟨q, hq⟩
   obtain ⟨q, hunde⟩ := hunde
   have hinf : ∃ i, P.info? e = some i := by
    cases hi : P.info? e with
    | some i => exact ⟨i, rfl⟩
    | none => simp [Program.cellsOf, hi] at hone
   obtain ⟨ie, hinf⟩ := hinf
   have hpe : P.plainKey e = true := by simp [Program.plainKey, hunde]
   refine ⟨fun es i r => (Instr.findAsking kt u es i).run P w = .ok r w, hd, fun _ => by simp [Instr.findAsking], fun x en es i hx => ?_, fun es r h => ?_, fun em => ?_, ?_⟩
   ·have hx2 := hx.two
    have hE : CReps (⟨w, ok, 0, fun _ => none, fun _ => none⟩ : Env) [.int ka key.1, .int kb key.2] [.int ka key.1, .int kb key.2] := ⟨_, _, rfl, rfl, _, _, rfl, rfl, rfl⟩
    have hF : CReps (⟨w, ok, 0, fun _ => none, fun _ => none⟩ : Env) [.int ka x.1, .int kb x.2] [.int ka x.1, .int kb x.2] := ⟨_, _, rfl, rfl, _, _, rfl, rfl, rfl⟩
    have hr := (Qcs heqs hE hF (q := decide (key.1 = x.1) && (decide (key.2 = x.2) && true)) (by simp [Qd]) w).1
    have hr : (Op.equal kt u en.key).run P w = .ok (decide (key.1 = x.1) && (decide (key.2 = x.2) && true)) w := by rw [hu, hx2]; exact hr
    by_cases h1 : key.1 = x.1 ∧ key.2 = x.2
    ·refine .inl ⟨by simp [Q2g, h1.1, h1.2], by rw [hu, hx2, h1.1, h1.2], ?_⟩
     simp [Instr.findAsking, hr, h1.1, h1.2, Result.andThen]
    ·have hq : (decide (key.1 = x.1) && (decide (key.2 = x.2) && true)) = false := by
      by_cases h2 : key.1 = x.1
      ·have h3 : ¬ key.2 = x.2 := fun h => h1 ⟨h2, h⟩
       simp [h3]
      ·simp [h2]
     rw [hq] at hr
     refine .inr ⟨?_, fun r h => by simp [Instr.findAsking, hr, Result.andThen, h]⟩
     by_cases h2 : x.1 = key.1
     ·have h3 : ¬ x.2 = key.2 := fun h => h1 ⟨h2.symm, h.symm⟩
      simp [Q2g, h3]
     ·simp [Q2g, h2]
   ·rw [run_findKey_eq w (by rw [hund])]
    exact h
   ·rw [hu]
    have p0 := run_part_plain w hpe (xs := #[.int ka key.1, .int kb key.2]) (off := 0) rfl
    have p1 := run_part_plain w hpe (xs := #[.int ka key.1, .int kb key.2]) (off := 1) rfl
    have hc := fun k n m => Qj7 (P := P) (w := w) hunde em k n m
    have hs := _root_.Go.run_sizeOf w hinf
    rw [hone] at hs
    exact Qi3 hund hs p0 p1 hc 9998
   ·rw [hu]
    simp [Instr.keyThatStays, Instr.sameBits]
  | bool => simp [keyW] at hw
  | int k => simp [keyW] at hw
  | str => simp [keyW] at hw
  | unit => simp [keyW] at hw
  | err => simp [keyW] at hw
  | slice e => simp [keyW] at hw
theorem Qam {kt : TypeId} {w : World} {ok : Nat → Prop} {k v : Ty} {vg : Bool} {key : k.den} {u : Value} {Fd : List MapEntry → Nat → Option (Nat × Value) → Prop} (H : Finds P w ok kt k key u Fd) :
  ∀ {l : List (k.den × v.den)} {es : List MapEntry} (i : Nat), MRep w ok k v vg l es →
   (Fd es i none ∧ mHas k l key = false ∧ (∀ z, mGet k l key z = z) ∧
    ∀ (y : v.den) (us : List Value) (val : Value) (n : Nat), DRep w ok v y us → (if vg then val = .agg us.toArray else us = [val]) → MRep w ok k v vg (mPut k l key y) (es ++ [{ key := u, val := val, born := n }])) ∨
   ∃ j e y us, Fd es i (some (i + j, e.val)) ∧ es[j]? = some e ∧ e.key = u ∧ mHas k l key = true ∧ (∀ z, mGet k l key z = y) ∧ DRep w ok v y us ∧ (if vg then e.val = .agg us.toArray else us = [e.val]) ∧
    ∀ (y' : v.den) (us' : List Value) (val : Value) (f : MapEntry → MapEntry), DRep w ok v y' us' → (if vg then val = .agg us'.toArray else us' = [val]) → (∀ e, (f e).key = u ∧ (f e).val = val) → MRep w ok k v vg (mPut k l key y') (es.modify j f)
 | [], es, i, h => by
  simp only [MRep] at h
  subst h
  refine .inl ⟨H.nil i, rfl, fun _ => rfl, fun y us val n h1 h2 => ?_⟩
  exact ⟨_, [], rfl, H.rep, ⟨us, h1, h2⟩, rfl⟩
 | x :: l, es, i, ⟨e, rest, h0, h1, ⟨us, h2, h3⟩, h4⟩ => by
  subst h0
  rcases H.cons x.1 e rest i h1 with ⟨hkt, hue, hhit⟩ | ⟨hkt, hmiss⟩
  ·refine .inr ⟨0, e, x.2, us, hhit, rfl, hue, by simp [mHas, hkt], fun z => by simp [mGet, hkt], h2, h3, fun y' us' val f g1 g2 g3 => ?_⟩
   have hp : mPut k (x :: l) key y' = (key, y') :: l := by simp [mPut, hkt]
   rw [hp]
   refine ⟨f e, rest, by simp, by rw [(g3 e).1]; exact H.rep, ⟨us', g1, by rw [(g3 e).2]; exact g2⟩, h4⟩
  ·rcases Qam H (i + 1) h4 with ⟨g1, g2, g3, g4⟩ | ⟨j, e', y, us2, g1, g2, g3, g4, g5, g6, g7, g8⟩
   ·refine .inl ⟨hmiss _ g1, by simp [mHas, hkt, g2], fun z => by simp [mGet, hkt, g3], fun y us' val n k1 k2 => ?_⟩
    have hp : mPut k (x :: l) key y = x :: mPut k l key y := by simp [mPut, hkt]
    rw [hp]
    exact ⟨e, rest ++ _, rfl, h1, ⟨us, h2, h3⟩, g4 y us' val n k1 k2⟩
   ·refine .inr ⟨j + 1, e', y, us2, by have := hmiss _ g1; rwa [show i + (j + 1) = i + 1 + j by omega], by simpa using g2, g3, by simp [mHas, hkt, g4], fun z => by simp [mGet, hkt, g5], g6, g7, fun y' us' val f k1 k2 k3 => ?_⟩
    have hp : mPut k (x :: l) key y' = x :: mPut k l key y' := by simp [mPut, hkt]
    rw [hp]
    exact ⟨e, rest.modify j f, by simp, h1, ⟨us, h2, h3⟩, g8 y' us' val f k1 k2 k3⟩
theorem Qev {t : TypeId} {ti : TI} {i : TypeInfo} {d : TypeDesc} {z : Value} (f : TFacts P t ti i d z) {kt vt : TypeId} (h : ti.mp = some (kt, vt)) : d = .map kt vt := by
 rw [f.mp] at h
 cases d <;> simp [mpD] at h
 rw [h.1, h.2]
theorem Qds {T : TypeId → Option TI} {kk : K β} {nx : Nat} {t : TypeId} (ho : o.op = .makeMap t none) (hk : Q7n T bl nx t kk = some r) : Sound P o ρ bl kk r := by
 unfold Q7n at hk
 split at hk
 ·cases hk
 split at hk
 ·cases hk
 split at hk
 ·rename_i tk tv htk htv
  split at hk
  ·rename_i k v hk1 hv1 hn
   cases hq : Q1u tk k with
   | false => rw [hq] at hk; cases hk
   | true =>
    simp only [hq, cond_true] at hk
    refine ⟨_, _, _, hk, fun bl2 hb => ?_⟩
    have hn2 : bl2 nx = none := (hb nx (by simp)).trans hn
    intro ok0 base pl w a hr hx K Q hK
    have h1 : (execOp a.eval o).run P w = .ok (.value (.map (some w.heap.size))) (w.alloc (.map #[] 0)) := by
     simp [execOp, ho, Instr.makeMap]
    have hg : w.grownBy (w.alloc (.map #[] 0)) none := World.grownBy_alloc w _ none
    have hp : ∀ g, (Pl.cells w.heap.size).has g → w.heap.size ≤ g := fun g hgg => Nat.le_of_eq hgg
    have hs : Step pl bl2 w (upd pl nx (.cells w.heap.size)) (upd bl2 nx (.map t k v tv.agg [])) (w.alloc (.map #[] 0)) := Step.new hr hn2 hg hp
    refine Qn h1 (hK _ (upd pl nx (.cells w.heap.size)) _ ?_ hs ?_)
    ·exact RelB.new hr hn2 hg hp ⟨#[], 0, heap_alloc_new w _, rfl⟩
    ·exact ⟨w.heap.size, by simp [Q4, upd], rfl⟩
  ·cases hk
 ·cases hk
theorem Qh2 {E : Env} {v : Ty} {vg : Bool} {y : v.den} {us : List Value} {val : Value} (hd : DRep E.w E.ok v y us) (hv : if vg then val = .agg us.toArray else us = [val]) : VRep E (V.mk vg (cells v y)) val :=
 VRep.mk ⟨us, Q1a hd, hv⟩
theorem Qew {T : TypeId → Option TI} (hT : TOk P T) {kk : K β} {t : TypeId} {x ix : Operand} {commaOk : Bool} (ho : o.op = .lookup t x ix commaOk) (hk : Q8d T bl t (ρ x) (ρ ix) commaOk kk = some r) : Sound P o ρ bl kk r := by
 unfold Q8d at hk
 split at hk
 ·cases hk
 rename_i ti ht
 obtain ⟨i, d, z, f⟩ := hT.facts ht
 split at hk
 ·cases hk
 rename_i kt vt hmp
 have hd := Qev f hmp
 subst hd
 split at hk
 ·rename_i tk tv htk htv
  obtain ⟨ik, dk, zk, fk⟩ := hT.facts htk
  obtain ⟨iv, dv, zv, fv⟩ := hT.facts htv
  split at hk
  ·rename_i b hx
   split at hk
   ·rename_i t0 k v vg l hb
    cases hq : (Q1u tk k && (vg || Nat.beq v.size 1) && (vg == tv.agg)) with
    | false => rw [hq] at hk; cases hk
    | true =>
     simp only [hq, cond_true] at hk
     obtain ⟨hq, hq3⟩ := andB hq
     obtain ⟨hq1, hq2⟩ := andB hq
     have hq3 : vg = tv.agg := by simpa using hq3
     split at hk
     ·rename_i key zz hkey hzz
      refine Sound.pure hk fun bl2 hb2 ok0 base pl w a hr hxs => ?_
      have hb' : bl2 b = some (.map t0 k v vg l) := (hb2 b (by simp)).trans hb
      have h1 := hxs x (by simp [ho, Op.operands])
      have h2 := hxs ix (by simp [ho, Op.operands])
      rw [hx] at h1
      obtain ⟨g, hg, hav⟩ := h1
      have hkr := Qcx hkey h2
      obtain ⟨p, hp, hB⟩ := hr.blks b _ hb'
      have : p = .cells g := by have h3 : pl b = some (.cells g) := hg; rw [hp] at h3; injection h3
      subst this
      obtain ⟨es, clock, hh, hm⟩ := hB
      have hh : w.heap[g]? = some (.map es clock) := hh
      obtain ⟨Fd, HF⟩ := Qcy fk hq1 (w := w) (ok := (Q4 ok0 base pl bl2 w).ok) hkr
      have hzv : (zeroValue vt).run P w = .ok zv w := by simp [zeroValue, typeInfo, fv.info, fv.zero]
      rcases Qam HF 0 hm with ⟨g1, g2, g3, g4⟩ | ⟨j, e, y, us, g1, g2, g3, g4, g5, g6, g7, g8⟩
      ·
       have hz : ∃ us, DRep (Q4 ok0 base pl bl2 w).w (Q4 ok0 base pl bl2 w).ok v zz us ∧ if vg then zv = .agg us.toArray else us = [zv] := by
        have hzc : CReps (Q4 ok0 base pl bl2 w) tv.zero zv.cells.toList := by rw [fv.zeroC]; exact Q27 fv.one
        have hdz := Q3v hr.blksOk (Rows.none _ _) hzc hzz
        refine ⟨_, hdz, ?_⟩
        rw [hq3, fv.agg]
        have := Q6i fv w
        cases hag : Q37 P vt with
        | true =>
         simp only [if_true]
         have hz1 := fv.zagg.trans hag
         cases zv <;> simp [Q8m] at hz1
         rfl
        | false =>
         simp only [Bool.false_eq_true, if_false]
         rw [hq3, fv.agg, hag] at hq2
         have hsz := Nat.eq_of_beq_eq_true (by simpa using hq2 : Nat.beq v.size 1 = true)
         have hl := DRep.length hdz
         rw [hsz] at hl
         cases zv with
         | agg cs => exact absurd (fv.zagg.trans hag) (by simp [Q8m])
         | _ => rfl
       obtain ⟨us, hz1, hz2⟩ := hz
       have hrun : (execOp a.eval o).run P w = .ok (.value (if commaOk then .tuple #[zv, .bool false] else zv)) w := by
        simp [execOp, ho, Instr.lookup, run_underlying f.under, hav, MapKept.run_getObj_map hh, HF.check, HF.run _ _ g1, hzv, Result.andThen]
       refine ⟨_, hrun, ?_⟩
       rw [g2, g3]
       cases commaOk with
       | true => exact ⟨[zv, .bool false], rfl, zv, [.bool false], rfl, ⟨us, Q1a hz1, hz2⟩, .bool false, [], rfl, ⟨[.bool false], ⟨_, _, rfl, rfl, rfl⟩, by simp⟩, rfl⟩
       | false => exact Qh2 hz1 hz2
      ·have hrun : (execOp a.eval o).run P w = .ok (.value (if commaOk then .tuple #[e.val, .bool true] else e.val)) w := by
        simp [execOp, ho, Instr.lookup, run_underlying f.under, hav, MapKept.run_getObj_map hh, HF.check, HF.run _ _ g1, Result.andThen]
       refine ⟨_, hrun, ?_⟩
       rw [g4, g5]
       cases commaOk with
       | true => exact ⟨[e.val, .bool true], rfl, e.val, [.bool true], rfl, ⟨us, Q1a g6, g7⟩, .bool true, [], rfl, ⟨[.bool true], ⟨_, _, rfl, rfl, rfl⟩, by simp⟩, rfl⟩
       | false => exact Qh2 g6 g7
     ·cases hk
   ·cases hk
  ·cases hk
 ·cases hk
theorem Q3r {w : World} {g : Nat} {o : Obj} : w.grownBy { w with heap := w.heap.setIfInBounds g o } (some g) :=
 ⟨rfl, rfl, rfl, by simp, fun k hk hne => by
  have : k ≠ g := fun h => hne (by rw [h])
  simp [Ne.symm this]⟩
theorem Qex {T : TypeId → Option TI} (hT : TOk P T) {kk : K β} {t : TypeId} {x ix y : Operand} (ho : o.op = .mapUpdate t x ix y) (hk : Q8f T bl t (ρ x) (ρ ix) (ρ y) kk = some r) : Sound P o ρ bl kk r := by
 unfold Q8f at hk
 split at hk
 ·cases hk
 rename_i ti ht
 obtain ⟨i, d, z, f⟩ := hT.facts ht
 split at hk
 ·cases hk
 rename_i kt vt hmp
 have hd := Qev f hmp
 subst hd
 split at hk
 ·cases hk
 rename_i tk htk
 obtain ⟨ik, dk, zk, fk⟩ := hT.facts htk
 split at hk
 ·rename_i b cs hx hcs
  split at hk
  ·rename_i t0 k v vg l hb
   cases hq : (Q1u tk k && decide (Q8e (ρ y) = some vg)) with
   | false => rw [hq] at hk; cases hk
   | true =>
    simp only [hq, cond_true] at hk
    obtain ⟨hq1, hq2⟩ := andB hq
    have hq2 := of_decide_eq_true hq2
    split at hk
    ·rename_i key zz hkey hzz
     refine ⟨_, _, _, hk, fun bl2 hb2 => ?_⟩
     intro ok0 base pl w a hr hxs K Q hK
     have hb' : bl2 b = some (.map t0 k v vg l) := (hb2 b (by simp)).trans hb
     have h1 := hxs x (by simp [ho, Op.operands])
     have h2 := hxs ix (by simp [ho, Op.operands])
     have h3 := hxs y (by simp [ho, Op.operands])
     rw [hx] at h1
     obtain ⟨g, hg, hav⟩ := h1
     have hkr := Qcx hkey h2
     obtain ⟨p, hp, hB⟩ := hr.blks b _ hb'
     have hpg : pl b = some (.cells g) := hg
     have : p = .cells g := by rw [hp] at hpg; injection hpg
     subst this
     obtain ⟨es, clock, hh, hm⟩ := hB
     have hh : w.heap[g]? = some (.map es clock) := hh
     obtain ⟨Fd, HF⟩ := Qcy fk hq1 (w := w) (ok := (Q4 ok0 base pl bl2 w).ok) hkr
     have hyc := VRep.cells_of hcs h3
     have hdz := Q3v hr.blksOk (Rows.none _ _) hyc hzz
     have hform : if vg then a.eval y = .agg (a.eval y).cells.toList.toArray else (a.eval y).cells.toList = [a.eval y] := by
      cases hyv : ρ y with
      | c q =>
       rw [hyv] at hq2 h3
       simp only [Q8e, Option.some.injEq] at hq2
       subst hq2
       have h4 := CRep.oneCell (show CRep _ q (a.eval y) from h3)
       simp only [Bool.false_eq_true, if_false]
       cases hv : a.eval y with
       | agg cs => rw [hv] at h4; simp [Value.oneCell'] at h4
       | _ => rfl
      | agg q =>
       rw [hyv] at hq2 h3
       simp only [Q8e, Option.some.injEq] at hq2
       subst hq2
       obtain ⟨vs, _, hv⟩ := h3
       simp only [if_true] at hv
       rw [hv]
       rfl
      | _ => rw [hyv] at hq2; simp [Q8e] at hq2
     have hstep : ∀ (l' : List (k.den × v.den)) (o' : Obj), Step pl bl2 w (upd pl b (.cells g)) (upd bl2 b (.map t0 k v vg l')) { w with heap := w.heap.setIfInBounds g o' } :=
      fun l' o' => Step.wroteB hr hb' rfl hpg Q3r
     rcases Qam HF 0 hm with ⟨g1, g2, g3, g4⟩ | ⟨j, e, y', us, g1, g2, g3, g4, g5, g6, g7, g8⟩
     ·have hrun : (execOp a.eval o).run P w = .ok .skip { w with heap := w.heap.setIfInBounds g (.map (es.push { key := a.eval ix, val := a.eval y, born := clock }) (clock + 1)) } := by
       simp [execOp, ho, Instr.mapUpdate, run_underlying f.under, hav, MapKept.run_getObj_map hh, HF.check, HF.run _ _ g1, MapKept.run_setObj_map _ hh, Result.andThen]
      refine Q36 hrun (hK undef (upd pl b (.cells g)) _ (RelB.wroteB hr hb' rfl hpg Q3r ?_) (hstep _ _) trivial)
      refine ⟨_, _, (heap_set hh).1, ?_⟩
      rw [Array.toList_push]
      have hx2 := (hstep (mPut k l key zz) (.map (es.push { key := a.eval ix, val := a.eval y, born := clock }) (clock + 1))).ext (ok0 := ok0) (base := base)
      exact (g4 zz _ (a.eval y) clock hdz hform).mono (fun _ _ h => h.mono hx2.heap) (fun _ _ h => h.mono hx2.heap)
     ·have hj : es[j]? = some e := by simpa using g2
      have hrun : (execOp a.eval o).run P w = .ok .skip { w with heap := w.heap.setIfInBounds g (.map (es.modify j fun e => { e with key := a.eval ix, val := a.eval y }) clock) } := by
       simp [execOp, ho, Instr.mapUpdate, run_underlying f.under, hav, MapKept.run_getObj_map hh, HF.check, HF.run _ _ g1, hj, g3, HF.stays, MapKept.run_setObj_map _ hh, Result.andThen]
      refine Q36 hrun (hK undef (upd pl b (.cells g)) _ (RelB.wroteB hr hb' rfl hpg Q3r ?_) (hstep _ _) trivial)
      refine ⟨_, _, (heap_set hh).1, ?_⟩
      rw [Array.toList_modify]
      have hx2 := (hstep (mPut k l key zz) (.map (es.modify j fun e => { e with key := a.eval ix, val := a.eval y }) clock)).ext (ok0 := ok0) (base := base)
      exact (g8 zz _ (a.eval y) _ hdz hform (fun _ => ⟨rfl, rfl⟩)).mono (fun _ _ h => h.mono hx2.heap) (fun _ _ h => h.mono hx2.heap)
    ·cases hk
  ·cases hk
 ·cases hk
end
end Go.Lift
namespace Go.Lift
open Go.RowKit
theorem Q9m : ∀ (l : List (Nat × Blk)) (bl : Nat → Option Blk), Q9i bl l = updL bl l
 | [], _ => rfl
 | (j, x) :: r, bl => by
  funext i
  simp only [Q9i, updL]
  rw [Q9m r]
  congr 1
  funext k
  simp only [upd]
  by_cases h : k = j
  ·subst h; simp
  ·simp [Q3c h, h]
theorem Q47 {bl : Nat → Option Blk} : ∀ {rds : List Nat} {p : Nat × Blk}, p ∈ Qi bl rds → p.2 = .dead ∧ p.1 ∈ rds ∧ ∃ t e ver l, bl p.1 = some (.row t e ver l)
 | [], p, h => by simp [Qi] at h
 | b :: r, p, h => by
  simp only [Qi] at h
  split at h
  ·rename_i t e ver l hb
   rcases List.mem_cons.1 h with rfl | h
   ·exact ⟨rfl, by simp, t, e, ver, l, hb⟩
   ·obtain ⟨h1, h2, h3⟩ := Q47 h
    exact ⟨h1, List.mem_cons_of_mem _ h2, h3⟩
  ·obtain ⟨h1, h2, h3⟩ := Q47 h
   exact ⟨h1, List.mem_cons_of_mem _ h2, h3⟩
theorem Q8z {bl : Nat → Option Blk} : ∀ {rds : List Nat} {b : Nat} {t : TypeId} {e : Ty} {ver : Nat} {l : List e.den}, b ∈ rds → bl b = some (.row t e ver l) → (b, Blk.dead) ∈ Qi bl rds
 | [], b, _, _, _, _, h, _ => by simp at h
 | c :: r, b, t, e, ver, l, h, hb => by
  simp only [Qi]
  rcases List.mem_cons.1 h with rfl | h
  ·rw [hb]; exact List.mem_cons_self
  ·have := Q8z (rds := r) h hb
   split
   ·exact List.mem_cons_of_mem _ this
   ·exact this
theorem Qu : ∀ {wr : List (Nat × Blk)} {bl : Nat → Option Blk} {b : Nat}, b ∉ wids wr → updL bl wr b = bl b
 | [], _, _, _ => rfl
 | (i, x) :: r, bl, b, h => by
  simp only [wids, List.mem_cons, not_or] at h
  rw [updL, Qu h.2]
  simp [upd, h.1]
theorem Q63 : ∀ {wr : List (Nat × Blk)} {bl bl' : Nat → Option Blk} {b : Nat}, b ∈ wids wr → updL bl wr b = updL bl' wr b
 | [], _, _, _, h => by simp [wids] at h
 | (i, x) :: r, bl, bl', b, h => by
  simp only [updL]
  by_cases hr : b ∈ wids r
  ·exact Q63 hr
  ·rw [Qu hr, Qu hr]
   have hbi : b = i := by
    simp only [wids, List.mem_cons] at h
    exact h.resolve_right hr
   simp [upd, hbi]
section
variable {P : Program} {o : Oper} {ρ : Operand → V} {bl : Nat → Option Blk} {β : Type} {r : β}
theorem Qj8 {ok0 : OK0 P} {base : Nat} {pl : Nat → Option Pl} {bl2 : Nat → Option Blk} {w : World} (hr : RelB ok0 base pl bl2 w) (rds : List Nat) (hag : ∀ b ∈ rds, bl2 b = bl b) :
  RelB ok0 base pl (updL bl2 (Qi bl rds)) w ∧ Step pl bl2 w pl (updL bl2 (Qi bl rds)) w ∧
   ∀ (v : V) (u : Value), (∀ b ∈ Qj [v], b ∈ rds) → VRep (Q4 ok0 base pl bl2 w) v u → VRep (Q4 ok0 base pl (updL bl2 (Qi bl rds)) w) (frzV bl v) u := by
 have hkl : ∀ p ∈ Qi bl rds, p.2 = Blk.dead ∧ p.1 ∈ rds ∧ ∃ t e ver l, bl2 p.1 = some (.row t e ver l) := fun p hp => by
  obtain ⟨h1, h2, t, e, ver, l, h3⟩ := Q47 hp
  exact ⟨h1, h2, t, e, ver, l, by rw [hag _ h2]; exact h3⟩
 generalize hkills : Qi bl rds = kills at *
 have hblk : ∀ i, updL bl2 kills i = bl2 i ∨ (updL bl2 kills i = some .dead ∧ ∃ t e ver l, bl2 i = some (.row t e ver l)) := fun i => by
  rcases Q54 (l := kills) (f := bl2) i (fun p hp => (hkl p hp).1) with ⟨h1, _⟩ | ⟨h1, p, hp, h2⟩
  ·exact .inl h1
  ·have := hkl p hp
   rw [h2] at this
   exact .inr ⟨h1, this.2.2⟩
 have hblkL : ∀ i B, updL bl2 kills i = some B → B.live = true → bl2 i = some B := fun i B hB hl => by
  rcases hblk i with h | ⟨h, _⟩
  ·rw [← h]; exact hB
  ·rw [h] at hB
   injection hB with hB
   subst hB
   cases hl
 have hown : ∀ g, Own pl (updL bl2 kills) g → Own pl bl2 g := fun g ⟨i, B, p, hB, hl, hp, hg⟩ => ⟨i, B, p, hblkL i B hB hl, hl, hp, hg⟩
 have hs : Step pl bl2 w pl (updL bl2 kills) w := ⟨rfl, rfl, rfl, Nat.le_refl _, fun g _ ho => ⟨rfl, fun h => ho (hown g h)⟩, fun _ _ h => h,
  fun b sv svs hb => ⟨sv, svs, hb, KeepR.of_live (fun C h hC => hblkL b _ h (by cases C <;> first | rfl | exact absurd rfl hC)) _ _⟩⟩
 refine ⟨⟨hr.baseLe, fun i B hB => ?_, fun i j B C p q g hij hB hC hlB hlC hp hq hg => ?_, fun i hi => ?_, hr.glob.mono hown⟩, hs, fun v u hrows hv => ?_⟩
 ·cases hl : B.live with
  | false =>
   have hex : ∃ B0, bl2 i = some B0 := by
    rcases hblk i with h | ⟨_, t, e, ver, l, h⟩
    ·exact ⟨B, by rw [← h]; exact hB⟩
    ·exact ⟨_, h⟩
   obtain ⟨B0, hB0⟩ := hex
   obtain ⟨p, hp, _⟩ := hr.blks i B0 hB0
   refine ⟨p, hp, ?_⟩
   cases B <;> first | exact trivial | simp [Blk.live] at hl
  | true =>
   obtain ⟨p, hp, hR⟩ := hr.blks i B (hblkL i B hB hl)
   exact ⟨p, hp, BRep.mono hs.ext hR fun _ _ => rfl⟩
 ·exact hr.sep i j B C p q g hij (hblkL i B hB hlB) (hblkL j C hC hlC) hlB hlC hp hq hg
 ·rcases hblk i with h | ⟨h, _⟩
  ·exact hr.fresh i (by rw [← h]; exact hi)
  ·rw [h] at hi; cases hi
 ·
  generalize hE : Q4 ok0 base pl bl2 w = E at hv
  generalize hE' : Q4 ok0 base pl (updL bl2 kills) w = E'
  have hx : Ext E E' := by rw [← hE, ← hE']; exact hs.ext
  have hblks : Q1m E := by rw [← hE]; exact hr.blksOk
  have hEbl : E.bl = bl2 := by rw [← hE]; rfl
  have hEpl : E.pl = pl := by rw [← hE]; rfl
  have hEw : E.w = w := by rw [← hE]; rfl
  have hEw' : E'.w = w := by rw [← hE']; rfl
  have hEok : E.ok = fun g => (ok0 g ∨ base ≤ g) ∧ ¬ Own pl bl2 g := by rw [← hE]; rfl
  have hEok' : E'.ok = fun g => (ok0 g ∨ base ≤ g) ∧ ¬ Own pl (updL bl2 kills) g := by rw [← hE']; rfl
  have hok : ∀ g, E.ok g → E'.ok g := fun g hg => by
   rw [hEok] at hg
   rw [hEok']
   exact ⟨hg.1, fun h => hg.2 (hown g h)⟩
  have hgo : ∀ (b : Nat) (t : TypeId) (e : Ty) (ver : Nat) (l : List e.den) (t' : TypeId) (n : Nat) (sv : Value) (xs : List Value), b ∈ rds → bl b = some (.row t e ver l) → E.pl b = some (.row sv []) → E.w.ownsRow E.base t' n sv l.length xs → ∀ g, sv.ownBlock = some g → E'.ok g := by
   intro b t e ver l t' n sv xs hin hb h2 h5 g hg
   have hb2 : bl2 b = some (.row t e ver l) := by rw [hag b hin]; exact hb
   rw [hEok']
   refine ⟨.inr ?_, fun ho => ?_⟩
   ·have hbase : base = E.base := by rw [← hE]; rfl
    rcases h5.2 with ⟨q1, _⟩ | ⟨g', cap, cur, q1, q2, _⟩
    ·rw [q1] at hg; simp [Value.ownBlock] at hg
    ·rw [q1] at hg
     simp only [Value.ownBlock, Option.some.injEq] at hg
     subst hg
     rw [hbase]
     exact q2
   ·obtain ⟨j, B, p, hB, hl, hp, hpg⟩ := ho
    have hB2 := hblkL j B hB hl
    rw [hEpl] at h2
    by_cases hjb : j = b
    ·subst hjb
     have hmem : (j, Blk.dead) ∈ kills := by rw [← hkills]; exact Q8z hin hb
     rcases Q54 (l := kills) (f := bl2) j (fun p hp => (hkl p hp).1) with ⟨_, q⟩ | ⟨q, _⟩
     ·exact q _ hmem rfl
     ·rw [q] at hB
      injection hB with hB
      subst hB
      cases hl
    ·exact hr.sep j b B _ p (.row sv []) g hjb hB2 hb2 hl rfl hp h2 hpg (.inl hg)
  have hone : ∀ (c : C) (u : Value), (∀ b ∈ Qg [c], b ∈ rds) → CRep E c u → CRep E' (frzC bl c) u := by
   intro c u hcr hc
   cases c with
   | sub b ver i j =>
    simp only [frzC]
    split
    ·rename_i t e ver' l hb
     cases hver : Nat.beq ver ver' with
     | false => exact CRep.mono hx hc
     | true =>
      simp only [cond_true]
      have hver' := Nat.eq_of_beq_eq_true hver
      subst hver'
      have hin : b ∈ rds := hcr b (by simp [Qg])
      have hb2 : bl2 b = some (.row t e ver l) := by rw [hag b hin]; exact hb
      have hrow : Q30 bl2 b ver e = some l := by simp [Q30, hb2]
      obtain ⟨t', sv, xs, _, h1, h2, h4, h5⟩ := Q6g (blp := bl2) hblks (fun t e ver l h => by rw [hEbl]; exact h) hrow
      obtain ⟨_, sv2, svs2, hpl2, hcur⟩ := hc
      rw [h2] at hpl2
      injection hpl2 with hpl2
      injection hpl2 with hpl2 _
      subst hpl2
      obtain ⟨A, c, ys, q1, q2, q3, q4, q5⟩ := Q6u ((hcur _ _ _ _ h1).2 rfl) h4 h5
      show DRep E'.w E'.ok (.slice e) ((l.take j).drop i) [u]
      rw [hEw', ← hEw]
      simp only [DRep]
      refine ⟨A, c, ys, by rw [q1], q2, q3, q4.mono fun x u hu => hu.mono (fun g h1 _ => ⟨hok g h1, rfl⟩), fun k v hk => ?_⟩
      obtain ⟨ad, r1, r2, r3⟩ := q5 k v hk
      exact ⟨ad, r1, hgo b t e ver l _ _ sv xs hin hb h2 h5 _ r2, r3⟩
    ·exact CRep.mono hx hc
   | row b ver =>
    simp only [frzC]
    split
    ·rename_i t e ver' l hb
     cases hver : Nat.beq ver ver' with
     | false => exact CRep.mono hx hc
     | true =>
      simp only [cond_true]
      have hver' := Nat.eq_of_beq_eq_true hver
      subst hver'
      have hin : b ∈ rds := hcr b (by simp [Qg])
      have hb2 : bl2 b = some (.row t e ver l) := by rw [hag b hin]; exact hb
      have hrow : Q30 bl2 b ver e = some l := by simp [Q30, hb2]
      obtain ⟨t', sv, xs, h1, h2, h3, h4, h5⟩ := Q8n (blp := bl2) hblks (fun t e ver l h => by rw [hEbl]; exact h) hrow hc
      subst h3
      have := Q6v (okp := E'.ok) hok (hgo b t e ver l _ _ u xs hin hb h2 h5) h4 h5
      show DRep E'.w E'.ok (.slice e) l [u]
      rw [hEw', ← hEw]
      exact this
    ·exact CRep.mono hx hc
   | _ => exact CRep.mono hx hc
  have hall : ∀ (cs : List C) (us : List Value), (∀ b ∈ Qg cs, b ∈ rds) → CReps E cs us → CReps E' (cs.map (frzC bl)) us := by
   intro cs
   induction cs with
   | nil => intro us _ h; exact h
   | cons c cs ih =>
    rintro us hc ⟨u, us', e, h1, h2⟩
    refine ⟨u, us', e, hone c u (fun b hb => hc b ?_) h1, ih us' (fun b hb => hc b (Q45 hb)) h2⟩
    have : Qg (c :: cs) = Qg [c] ++ Qg cs := Q2x [c] cs
    rw [this]
    exact List.mem_append_left _ hb
  cases v with
  | c x => exact hone x u (fun b hb => hrows b (by simpa [Qj, V.cells] using hb)) hv
  | agg cs =>
   obtain ⟨vs, h1, h2⟩ := hv
   exact ⟨vs, hall cs vs (fun b hb => hrows b (by simpa [Qj, V.cells] using hb)) h1, h2⟩
  | _ => exact VRep.mono hx hv
theorem Qj9 {rds : List Nat} {ρ' : Operand → V} {kk : K β} (hρ : ∀ x ∈ o.op.operands, ρ' x = ρ x ∨ (ρ' x = frzV bl (ρ x) ∧ ∀ b ∈ Qj [ρ x], b ∈ rds))
  (h : Sound P o ρ' (updL bl (Qi bl rds)) (fun v rd wr => kk v (rds ++ rd) (Qi bl rds ++ wr)) r) : Sound P o ρ bl kk r := by
 obtain ⟨v, rd, wr, hk, h⟩ := h
 refine ⟨v, rds ++ rd, Qi bl rds ++ wr, hk, fun bl2 hb2 => ?_⟩
 have hag : ∀ b ∈ rds, bl2 b = bl b := fun b hb => hb2 b (List.mem_append_left _ hb)
 have hrd : ∀ b ∈ rd, updL bl2 (Qi bl rds) b = updL bl (Qi bl rds) b := fun b hb => by
  by_cases hm : b ∈ wids (Qi bl rds)
  ·exact Q63 hm
  ·rw [Qu hm, Qu hm]
   exact hb2 b (List.mem_append_right _ hb)
 intro ok0 base pl w a hr hx K Q hK
 obtain ⟨h1, h2, h3⟩ := Qj8 (bl := bl) hr rds hag
 refine h _ hrd ok0 base pl w a h1 (fun x hxo => ?_) K Q fun val pl' w' k1 k2 k3 => ?_
 ·rcases hρ x hxo with e | ⟨e, hsub⟩
  ·rw [e]; exact VRep.mono h2.ext (hx x hxo)
  ·rw [e]; exact h3 _ _ hsub (hx x hxo)
 ·rw [Q4x] at hK
  exact hK val pl' w' k1 (h2.trans k2) k3
theorem Qaa : ∀ {vs : List V} {v : V}, v ∈ vs → ∀ b ∈ Qj [v], b ∈ Qj vs
 | [], _, h => by simp at h
 | u :: us, v, h => by
  intro b hb
  have hrow : ∀ (u : V) (us : List V), Qj (u :: us) = Qj [u] ++ Qj us := by
   intro u us
   simp only [Qj]
   split <;> simp
  rw [hrow]
  rcases List.mem_cons.1 h with rfl | h
  ·exact List.mem_append_left _ hb
  ·exact List.mem_append_right _ (Qaa h b hb)
theorem Q22 {xs : List Operand} {kk : K β} {run : (Nat → Option Blk) → K β → Option β} (hops : ∀ x ∈ o.op.operands, x ∈ xs) (hk : Q43 bl (Qj (xs.map ρ)) run kk = some r)
  (h : ∀ (bl' : Nat → Option Blk) (kk' : K β), run bl' kk' = some r → Sound P o (fun x => frzV bl (ρ x)) bl' kk' r) : Sound P o ρ bl kk r := by
 unfold Q43 at hk
 rw [Q9m] at hk
 exact Qj9 (rds := Qj (xs.map ρ)) (ρ' := fun x => frzV bl (ρ x)) (fun x hx => .inr ⟨rfl, Qaa (List.mem_map.2 ⟨x, hops x hx, rfl⟩)⟩) (h _ _ hk)
theorem Q90 {E E' : Env} {rds : List Nat} (hx : Ext E E') (h : ∀ (c : C) (u : Value), (∀ b ∈ Qg [c], b ∈ rds) → CRep E c u → CRep E' (frzC bl c) u) : ∀ (i : Nat) (ps : List Nat) {cs : List C} {vs : List Value}, (∀ b ∈ Qz i ps cs, b ∈ rds) → CReps E cs vs → CReps E' (Q4u bl i ps cs) vs
 | _, _, [], _, _, hc => hc
 | i, ps, c :: cs, _, hr, ⟨u, us, e, h1, h2⟩ => by
  cases hm : memB i ps with
  | true =>
   have hr' : ∀ b ∈ Qg [c] ++ Qz (i + 1) ps cs, b ∈ rds := by simpa [Qz, hm] using hr
   refine ⟨u, us, e, ?_, Q90 hx h (i + 1) ps (fun b hb => hr' b (List.mem_append_right _ hb)) h2⟩
   rw [hm]
   exact h c u (fun b hb => hr' b (List.mem_append_left _ hb)) h1
  | false =>
   have hr' : ∀ b ∈ Qz (i + 1) ps cs, b ∈ rds := by simpa [Qz, hm] using hr
   refine ⟨u, us, e, ?_, Q90 hx h (i + 1) ps hr' h2⟩
   rw [hm]
   exact CRep.mono hx h1
theorem Qey {b : Nat} {t0 : TypeId} {ps : List Nat} {cs : List C} {kk : K β} (hb : bl b = some (.cells t0 cs))
  (h : Sound P o ρ (updL (updL bl (Qi bl (Qz 0 ps cs))) [(b, .cells t0 (Q4u bl 0 ps cs))]) (fun v rd wr => kk v (Qz 0 ps cs ++ (b :: rd)) (Qi bl (Qz 0 ps cs) ++ ((b, .cells t0 (Q4u bl 0 ps cs)) :: wr))) r) : Sound P o ρ bl kk r := by
 obtain ⟨v, rd, wr, hk, h⟩ := h
 refine ⟨v, Qz 0 ps cs ++ (b :: rd), _, hk, fun bl2 hb2 => ?_⟩
 have hag : ∀ i ∈ Qz 0 ps cs, bl2 i = bl i := fun i hi => hb2 i (List.mem_append_left _ hi)
 have hbb : bl2 b = some (.cells t0 cs) := (hb2 b (by simp)).trans hb
 have hbk : b ∉ wids (Qi bl (Qz 0 ps cs)) := fun hm => by
  have : ∀ (l : List (Nat × Blk)), b ∈ wids l → ∃ x, (b, x) ∈ l := by
   intro l
   induction l with
   | nil => intro h; simp [wids] at h
   | cons p l ih =>
    intro h
    simp only [wids, List.mem_cons] at h
    rcases h with rfl | h
    ·exact ⟨p.2, by simp⟩
    ·obtain ⟨x, hx⟩ := ih h
     exact ⟨x, List.mem_cons_of_mem _ hx⟩
  obtain ⟨x, hx⟩ := this _ hm
  obtain ⟨_, _, t, e, ver, l, h3⟩ := Q47 hx
  rw [show bl b = _ from h3] at hb
  cases hb
 have hrd : ∀ i ∈ rd, updL (updL bl2 (Qi bl (Qz 0 ps cs))) [(b, Blk.cells t0 (Q4u bl 0 ps cs))] i = updL (updL bl (Qi bl (Qz 0 ps cs))) [(b, Blk.cells t0 (Q4u bl 0 ps cs))] i := fun i hi => by
  simp only [updL, upd]
  by_cases hib : i = b
  ·simp [hib]
  ·simp only [hib, if_false]
   by_cases hm : i ∈ wids (Qi bl (Qz 0 ps cs))
   ·exact Q63 hm
   ·rw [Qu hm, Qu hm]
    exact hb2 i (by simp [hi])
 intro ok0 base pl w a hr hx K Q hK
 obtain ⟨h1, h2, h3⟩ := Qj8 (bl := bl) hr (Qz 0 ps cs) hag
 obtain ⟨p, hp, hB⟩ := hr.blks b _ hbb
 cases p with
 | row _ _ => exact hB.elim
 | cells g =>
  obtain ⟨vs, hh, hcs⟩ := hB
  have hcs' := Q90 (bl := bl) h2.ext (rds := Qz 0 ps cs) (fun c u hc h => h3 (.c c) u (fun b hb => hc b (by simpa [Qj, V.cells] using hb)) h) 0 ps (fun _ h => h) hcs
  have hb1 : updL bl2 (Qi bl (Qz 0 ps cs)) b = some (.cells t0 cs) := (Qu hbk).trans hbb
  rw [Q4x] at hK
  generalize updL bl2 (Qi bl (Qz 0 ps cs)) = bl1 at *
  have hpl : upd pl b (.cells g) = pl := by
   funext j
   simp only [upd]
   split
   ·rename_i h; rw [h]; exact hp.symm
   ·rfl
  have hstep : Step pl bl1 w (upd pl b (.cells g)) (upd bl1 b (.cells t0 (Q4u bl 0 ps cs))) w := by
   rw [hpl]
   refine ⟨rfl, rfl, rfl, Nat.le_refl _, fun g' _ ho => ⟨rfl, ?_⟩, fun _ _ h => h, fun b' sv svs hb' => ⟨sv, svs, hb', ?_⟩⟩
   ·rintro ⟨j, C, q, hC, hl, hq, hqg⟩
    by_cases hj : j = b
    ·subst hj
     exact ho ⟨j, _, q, hb1, rfl, hq, hqg⟩
    ·simp only [upd, hj, if_false] at hC
     exact ho ⟨j, C, q, hC, hl, hq, hqg⟩
   ·have hne : b' ≠ b := by rintro rfl; rw [hp] at hb'; cases hb'
    exact KeepR.of_eq (fun C hC => by simpa [upd, hne] using hC) _ _
  have hput := h1.put hstep (BRep.mono hstep.ext (B := .cells t0 (Q4u bl 0 ps cs)) (p := .cells g) ⟨vs, hh, hcs'⟩ fun _ _ => rfl) fun j C q g' hj hC hl hq hqg => ⟨rfl, fun hpg => h1.sep j b C _ q _ g' hj hC hb1 hl rfl hq hp hqg hpg⟩
  rw [hpl] at hput hstep
  refine h _ hrd ok0 base pl w a hput (fun x hxo => VRep.mono (h2.trans hstep).ext (hx x hxo)) K Q fun val pl' w' k1 k2 k3 => ?_
  exact hK val pl' w' k1 ((h2.trans hstep).trans k2) k3
theorem Qdt {T : TypeId → Option TI} (hT : TOk P T) {kk : K β} {t : TypeId} {ps : List Nat} {x : Operand} (ho : o.op = .load t x) (hk : Q7p T bl t ps (ρ x) kk = some r) : Sound P o ρ bl kk r := by
 unfold Q7p at hk
 split at hk
 ·rename_i b of hx
  split at hk
  ·rename_i t0 cs hb
   rw [Q9m, Q9m] at hk
   rw [← hx] at hk
   exact Qey hb (Q7r hT ho hk)
  ·cases hk
 ·exact Q7r hT ho hk
theorem Qcf {T : TypeId → Option TI} (hT : TOk P T) {kk : K β} {t : TypeId} {x y : Operand} (ho : o.op = .index t x y) {ti : TI} (ht : T t = some ti) {cs : List C} (hx : ρ x = .agg cs) {k : IntKind} {i : Int} (hy : ival (ρ y) = some (k, i))
  (hk : Q6s T ti cs i kk = some r) : Sound P o ρ bl kk r := by
 obtain ⟨inf, d, z, f⟩ := hT.facts ht
 unfold Q6s at hk
 split at hk
 ·rename_i et n hel hal
  have := Q7s f hel hal
  subst this
  split at hk
  ·rename_i te hte
   obtain ⟨i', d', z', fe⟩ := hT.facts hte
   split at hk
   ·rename_i e hety
    split at hk
    ·rename_i l hl
     cases hs : (Nat.beq e.size te.size && (te.agg || Nat.beq te.size 1)) with
     | false => rw [hs] at hk; cases hk
     | true =>
      simp only [hs, cond_true] at hk
      obtain ⟨hs1, hs2⟩ := andB hs
      have hs1 := Nat.eq_of_beq_eq_true hs1
      obtain ⟨hc, hk⟩ := Qe hk
      obtain ⟨hc1, hc2⟩ := andB hc
      have hc1 := of_decide_eq_true hc1
      have hc2 := of_decide_eq_true hc2
      refine Sound.pure hk fun bl2 _ ok0 base pl w a hr hxs => ?_
      have hx1 := hxs x (by simp [ho, Op.operands])
      have hy1 := hxs y (by simp [ho, Op.operands])
      rw [hx] at hx1
      rw [Q29 hy] at hy1
      have hy2 : a.eval y = .int k i := hy1
      obtain ⟨vs, hvs, hav⟩ := hx1
      have hav : a.eval x = .agg vs.toArray := hav
      obtain ⟨hd, hll⟩ := Q6h hr.blksOk (Rows.none _ _) hvs hl
      obtain ⟨u, p, q, hpq, hp, hde⟩ := DList.get e.dflt hd (i := i.toNat) (by omega)
      have hul := hde.length
      have hvl : vs.length = n * e.size := by
       have := DList.length hd
       rw [this, hll]
      have hin : i < (n : Int) := by omega
      have hag := Q6i fe w
      cases hagg : te.agg with
      | true =>
       rw [hagg] at hag
       refine ⟨.agg u.toArray, ?_, VRep.mk ⟨u, Q1a hde, by simp⟩⟩
       have hext : List.take te.size (List.drop (i.toNat * te.size) vs) = u := by
        rw [hpq, ← hs1, ← hp, ← hul]
        simp
       simp [execOp, ho, hav, hy2, Instr.index, asIntOf, run_underlying f.under, hc1, hin, part, hag, run_sizeOf fe, hext]
      | false =>
       rw [hagg] at hag hs2
       have hone : te.size = 1 := Nat.eq_of_beq_eq_true (by simpa using hs2)
       have hu1 : u.length = 1 := by omega
       match u, hu1 with
       | [u0], _ =>
        refine ⟨u0, ?_, VRep.mk ⟨[u0], Q1a hde, by simp⟩⟩
        have hget : vs[i.toNat * te.size]? = some u0 := by
         rw [hpq, ← hs1, ← hp]
         simp
        simp [execOp, ho, hav, hy2, Instr.index, asIntOf, run_underlying f.under, hc1, hin, part, hag, run_sizeOf fe, hget]
    ·cases hk
   ·cases hk
  ·cases hk
 ·cases hk
end
end Go.Lift
namespace Go.Lift
open Go.RowKit
section
variable {P : Program} {o : Oper} {ρ : Operand → V} {bl : Nat → Option Blk} {β : Type} {r : β}
theorem Qcz {E : Env} {a : Act} : ∀ {xs : List Operand}, (∀ x ∈ xs, VRep E (ρ x) (a.eval x)) → VReps E (xs.map ρ) (xs.map a.eval)
 | [], _ => rfl
 | x :: xs, h => ⟨_, _, rfl, h x (by simp), Qcz fun y hy => h y (by simp [hy])⟩
theorem VReps.append {E : Env} : ∀ {vs us ws xs}, VReps E vs us → VReps E ws xs → VReps E (vs ++ ws) (us ++ xs)
 | [], us, _, _, h, k => by have h' : us = [] := h; subst h'; exact k
 | _ :: _, _, _, _, ⟨u, us', e, h1, h2⟩, k => ⟨u, us' ++ _, by rw [e]; rfl, h1, VReps.append h2 k⟩
theorem Qez {E : Env} : ∀ {caps gs : List Nat}, caps.map E.pl = gs.map (fun g => some (.cells g)) → VReps E (caps.map fun b => .c (.ptr b 0)) (gs.map fun g => .pointer (some ⟨g, 0, none⟩))
 | [], gs, h => by cases gs with | nil => rfl | cons g gs => simp at h
 | b :: bs, gs, h => by
  cases gs with
  | nil => simp at h
  | cons g gs =>
   simp only [List.map_cons, List.cons.injEq] at h
   exact ⟨_, _, rfl, ⟨g, h.1, rfl⟩, Qez h.2⟩
theorem Qf0 {X : Ctx} (hΓ : ΓOk P X.Γ) {kk : K β} {nx : Nat} {c : Call} (ho : o.op = .call c) {x : Operand} (hc : c.callee = .value x) {f : FuncId} {caps : List Nat} (hx : ρ x = .c (.fn f caps))
  (hk : Q9h X bl nx f (c.args.toList.map ρ ++ caps.map fun b => .c (.ptr b 0)) kk = some r) : Sound P o ρ bl kk r := by
 refine Qi1 hΓ hk fun bl2 ok0 base pl w a hr hxs => ?_
 have hv := hxs x (by simp [ho, Op.operands, Call.operands, hc])
 rw [hx] at hv
 obtain ⟨gs, hg, hv⟩ := hv
 refine ⟨c.args.toList.map a.eval ++ gs.map fun g => .pointer (some ⟨g, 0, none⟩), ?_, fun ⟨fn, h1, h2, h3⟩ => ?_⟩
 ·exact (Qcz fun y hy => hxs y (by simp only [ho, Op.operands, Call.operands, Array.mem_append]; exact .inr (by simpa using hy))).append (Qez hg)
 ·have he : c.args.map a.eval ++ (gs.map fun g => Value.pointer (some ⟨g, 0, none⟩)).toArray = (c.args.toList.map a.eval ++ gs.map fun g => Value.pointer (some ⟨g, 0, none⟩)).toArray := by
   apply Array.ext'
   simp
  simp only [execOp, ho, resolve, hc, hv, Deferred.ofValue, Sem.run_bind, Sem.run_pure, Result.andThen_ok, invoke, callFunc, run_program, h1, h2, h3, Array.empty_append, Bool.false_eq_true, if_false, he]
theorem Qgj {X : Ctx} (hT : TOk P X.T) (hΓ : ΓOk P X.Γ) {kk : K β} {nx : Nat} (hk : Qe4 X o ρ bl nx kk = some r) : Sound P o ρ bl kk r := by
 unfold Qe4 at hk
 split at hk
 ·rename_i x ho
  cases hS : (X.S && Qiv (ρ x)) with
  | false => rw [hS, cond_false] at hk; exact Q5b (.inl ho) hk
  | true =>
   rw [hS, cond_true] at hk
   exact Q22 (xs := [x]) (fun z hz => by simpa [ho, Op.operands] using hz) hk fun bl' kk' h => Q5b (ρ := fun x => frzV bl (ρ x)) (.inl ho) h
 ·rename_i x ho
  cases hD : (X.D && Qm6 bl (ρ x)) with
  | false => rw [hD, cond_false] at hk; exact Q5b (.inr ho) hk
  | true =>
   rw [hD, cond_true] at hk
   exact Q22 (xs := [x]) (fun z hz => by simpa [ho, Op.operands] using hz) hk fun bl' kk' h => Q5b (ρ := fun x => frzV bl (ρ x)) (.inr ho) h
 ·rename_i c a b ho
  split at hk
  ·rename_i g hc; exact Qhw ho hc hk
  ·cases hk
 ·rename_i t ho
  split at hk
  ·rename_i ti ht; exact Qg5 hT ho ht hk
  ·cases hk
 ·rename_i t x ho
  split at hk
  ·rename_i cs hc; exact Qiy ho hc hk
  ·cases hk
 ·rename_i t parts ho
  split at hk
  ·rename_i ti ht
   cases hagg : ti.agg with
   | false => rw [hagg] at hk; cases hk
   | true =>
    simp only [hagg, cond_true] at hk
    split at hk
    ·rename_i ps hps
     split at hk
     ·rename_i cs hcs; exact Qga hT ho ht hagg hps hcs hk
     ·cases hk
    ·cases hk
  ·cases hk
 ·rename_i t n parts ho
  cases hM : (X.M && Q72 X.T t) with
  | true => rw [hM, cond_true] at hk; exact Qcb hT ho hk
  | false =>
  rw [hM, cond_false] at hk
  refine Q22 (xs := parts.toList.map (·.2)) (fun x hx => by simpa [ho, Op.operands] using hx) (by rw [List.map_map]; exact hk) fun bl' kk' h => ?_
  exact Qaj (ρ := fun x => frzV bl (ρ x)) hT ho h
 ·rename_i t a ho
  split at hk
  ·exact Qdt hT ho hk
  ·exact Q7r hT ho hk
 ·rename_i t a x ho
  split at hk
  ·exact Q22 (xs := [a, x]) (fun y hy => by simpa [ho, Op.operands] using hy) hk fun bl' kk' h => Q6w (ρ := fun x => frzV bl (ρ x)) hT ho h
  ·cases hD : (X.D && Qgx (ρ x)) with
   | false => rw [hD, cond_false] at hk; exact Q6w hT ho hk
   | true => rw [hD, cond_true] at hk; exact Q22 (xs := [a, x]) (fun y hy => by simpa [ho, Op.operands] using hy) hk fun bl' kk' h => Q6w (ρ := fun x => frzV bl (ρ x)) hT ho h
 ·rename_i x ho
  split at hk
  ·rename_i b of hx; exact Q20 ho (.inl ⟨b, of, hx⟩) (by rw [hx]; exact hk)
  ·rename_i b ver i of hx; exact Q20 ho (.inr (.inl ⟨b, ver, i, of, hx⟩)) (by rw [hx]; exact hk)
  ·rename_i e y of hx; exact Q20 ho (.inr (.inr (.inl ⟨e, y, of, hx⟩))) (by rw [hx]; exact hk)
  ·rename_i b ver i hx; exact Q20 ho (.inr (.inr (.inr (.inr (.inl ⟨b, ver, i, hx⟩))))) (by rw [hx]; exact hk)
  ·rename_i b ver i j of hx; exact Q20 ho (.inr (.inr (.inr (.inr (.inr ⟨b, ver, i, j, of, hx⟩))))) (by rw [hx]; exact hk)
  ·rename_i f caps hx; exact Q20 ho (.inr (.inr (.inr (.inl ⟨f, caps, hx⟩)))) (by rw [hx]; exact hk)
  ·cases hk
 ·rename_i op t x y t' ho; exact Qem hT ho hk
 ·rename_i op t x ho
  split at hk
  ·rename_i b hx; exact Qj3 ho hx hk
  ·rename_i k n hx; exact Qj4 ho hx hk
  ·cases hk
 ·rename_i s t x ho
  split at hk
  ·rename_i si ti k0 n hs ht hx
   split at hk
   ·rename_i k hkd; exact Qdp hT ho hs ht hx hkd hk
   ·cases hk
  ·rename_i si ti l hs ht hx
   cases hstr : ti.isStr with
   | false => rw [hstr] at hk; cases hk
   | true => simp only [hstr, cond_true] at hk; exact Qdq hT ho hs ht hx hstr hk
  ·rename_i si ti hs ht _ _; exact Qgb hT ho hs ht hk
  ·cases hk
 ·rename_i f first caps ho
  split at hk
  ·rename_i hf
   split at hk
   ·rename_i bs hb; exact Qcd ho hf hb hk
   ·cases hk
  ·cases hk
 ·rename_i t n c ho
  cases hM : (X.M && Q72 X.T t) with
  | true => rw [hM, cond_true] at hk; exact Qdo hT ho hk
  | false => rw [hM, cond_false] at hk; exact Qhx hT ho hk
 ·rename_i t ho; exact Qds ho hk
 ·rename_i t x i commaOk ho; exact Qew hT ho hk
 ·rename_i t x i y ho
  exact Q22 (xs := [x, i, y]) (fun z hz => by simpa [ho, Op.operands] using hz) hk fun bl' kk' h => Qex (ρ := fun x => frzV bl (ρ x)) hT ho h
 ·rename_i t x hi ho
  cases hR : (X.R && Qav (ρ x)) with
  | true => rw [hR, cond_true] at hk; exact Qj2 hT ho hk
  | false => rw [hR, cond_false] at hk; exact Q6x (lo := none) hT ho hk
 ·rename_i t x lo hi _ ho
  cases hS : (X.S && Qav (ρ x)) with
  | false => rw [hS, cond_false] at hk; exact Q6x hT ho hk
  | true =>
   rw [hS, cond_true] at hk
   exact Q22 (xs := x :: (lo.toList ++ hi.toList)) (fun z hz => by cases lo <;> cases hi <;> simpa [ho, Op.operands] using hz) hk fun bl' kk' h => Q6x (ρ := fun x => frzV bl (ρ x)) hT ho h
 ·rename_i t x f ho; exact Qb4 hT ho hk
 ·rename_i t x f ho
  split at hk
  ·rename_i ti cs ht hx
   split at hk
   ·rename_i off n g hf
    cases h1 : (g || Nat.beq n 1) with
    | false => rw [h1] at hk; cases hk
    | true =>
     simp only [h1, cond_true] at hk
     split at hk
     ·rename_i rc hs; exact Qgd hT ho ht hx hf h1 hs hk
     ·cases hk
   ·cases hk
  ·cases hk
 ·rename_i t x i ho; exact Qb5 hT ho hk
 ·rename_i t x i ho
  split at hk
  ·rename_i ti s k j ht hx hi
   cases hstr : ti.isStr with
   | false => rw [hstr] at hk; cases hk
   | true =>
    simp only [hstr, cond_true] at hk
    obtain ⟨hc, hk⟩ := Qe hk
    obtain ⟨c1, c2⟩ := andB hc
    exact Qge hT ho ht hx hi hstr (of_decide_eq_true c1) (of_decide_eq_true c2) hk
  ·rename_i ti cs k j ht hx hi; exact Qcf hT ho ht hx hi hk
  ·cases hk
 ·rename_i x i ho
  split at hk
  ·rename_i ts hx
   split at hk
   ·rename_i t ht; exact Qdr ho hx ht hk
   ·cases hk
  ·cases hk
 ·rename_i c ho
  split at hk
  ·rename_i hc
   split at hk
   ·rename_i x t hx ht
    cases hargs : c.args.toList with
    | nil => rw [hargs] at hx; simp at hx
    | cons y ys =>
     rw [hargs] at hx
     cases ys with
     | cons _ _ => simp at hx
     | nil =>
      simp only [List.map_cons, List.map_nil, List.cons.injEq, and_true] at hx
      subst hx
      exact Qiz hT ho hc hargs ht hk
   ·cases hk
  ·rename_i hc
   split at hk
   ·rename_i v hm; exact Q8t (isMax := false) ho hc hm hk
   ·cases hk
  ·rename_i hc
   split at hk
   ·rename_i v hm; exact Q8t (isMax := true) ho hc hm hk
   ·cases hk
  ·rename_i hc
   split at hk
   ·rename_i x y t t' hx ht
    cases htt : Nat.beq t t' with
    | false =>
     simp only [htt, cond_false] at hk
     cases hargs : c.args.toList with
     | nil => rw [hargs] at hx; simp at hx
     | cons a as =>
      rw [hargs] at hx
      cases as with
      | nil => simp at hx
      | cons b bs =>
       cases bs with
       | cons _ _ => simp at hx
       | nil =>
        simp only [List.map_cons, List.map_nil, List.cons.injEq, and_true] at hx
        obtain ⟨h1, h2⟩ := hx
        subst h1 h2
        exact Qak hT ho hc hargs ht hk
    | true =>
     have := Nat.eq_of_beq_eq_true htt
     subst this
     simp only [htt, cond_true] at hk
     cases hargs : c.args.toList with
     | nil => rw [hargs] at hx; simp at hx
     | cons a as =>
      rw [hargs] at hx
      cases as with
      | nil => simp at hx
      | cons b bs =>
       cases bs with
       | cons _ _ => simp at hx
       | nil =>
        simp only [List.map_cons, List.map_nil, List.cons.injEq, and_true] at hx
        obtain ⟨h1, h2⟩ := hx
        subst h1 h2
        cases hM : (X.M && Q72 X.T t) with
        | true => rw [hM, cond_true] at hk; exact Qb6 hT ho hc hargs ht hk
        | false => rw [hM, cond_false] at hk; exact Qen hT ho hc hargs ht hk
   ·cases hk
  ·rename_i hc
   split at hk
   ·rename_i x t hx ht
    cases hargs : c.args.toList with
    | nil => rw [hargs] at hx; simp at hx
    | cons y ys =>
     rw [hargs] at hx
     cases ys with
     | cons _ _ => simp at hx
     | nil =>
      simp only [List.map_cons, List.map_nil, List.cons.injEq, and_true] at hx
      subst hx
      exact Qgc hT ho hc hargs ht hk
   ·cases hk
  ·rename_i hc
   split at hk
   ·rename_i x t hx ht
    cases hargs : c.args.toList with
    | nil => rw [hargs] at hx; simp at hx
    | cons y ys =>
     rw [hargs] at hx
     cases ys with
     | cons _ _ => simp at hx
     | nil =>
      simp only [List.map_cons, List.map_nil, List.cons.injEq, and_true] at hx
      subst hx
      exact Qj1 hT ho hc hargs ht hk
   ·cases hk
  ·rename_i hc
   split at hk
   ·rename_i x y t t' hx ht
    cases htt : Nat.beq t t' with
    | false => rw [htt] at hk; cases hk
    | true =>
     have := Nat.eq_of_beq_eq_true htt
     subst this
     simp only [htt, cond_true] at hk
     cases hargs : c.args.toList with
     | nil => rw [hargs] at hx; simp at hx
     | cons a as =>
      rw [hargs] at hx
      cases as with
      | nil => simp at hx
      | cons b bs =>
       cases bs with
       | cons _ _ => simp at hx
       | nil =>
        simp only [List.map_cons, List.map_nil, List.cons.injEq, and_true] at hx
        obtain ⟨h1, h2⟩ := hx
        subst h1 h2
        exact Qhz hT ho hc hargs ht hk
   ·cases hk
  ·cases hk
  ·split at hk
   ·rename_i f caps hcal
    unfold Qeg at hcal
    split at hcal
    ·rename_i x hc
     split at hcal
     ·rename_i f' bs hx
      simp only [Option.some.injEq, Prod.mk.injEq] at hcal
      obtain ⟨rfl, rfl⟩ := hcal
      exact Qf0 hΓ ho hc hx hk
     ·cases hcal
    ·cases hcal
   ·cases hk
 ·cases hk
end
end Go.Lift
namespace Go.Lift
open Go.RowKit
structure Rel {P : Program} (n : Nat) (ok0 : OK0 P) (base : Nat) (pl : Nat → Option Pl) (tm : Nat → Option V) (bl : Nat → Option Blk) (a : Act) (w : World) : Prop where
 defers : a.defers = []
 size : a.tmps.size = n
 tmps : ∀ t v, tm t = some v → VRep (Q4 ok0 base pl bl w) v (a.tmps.getD t undef)
 rel : RelB ok0 base pl bl w
def updD (tm : Nat → Option V) (dst : Option Nat) (v : V) : Nat → Option V :=
 match dst with
 | some d => upd tm d v
 | none => tm
theorem Q6k (tm : List (Nat × V)) (dst : Option Nat) (v : V) : look (putD tm dst v) = updD (look tm) dst v := by
 cases dst with
 | none => rfl
 | some d => funext j; simp only [putD, updD, Qaf, upd]
def Q9n (tm : Nat → Option V) : Operand → V
 | .tmp t =>
  match tm t with
  | some v => v
  | none => .junk
 | .const v => V.ofValue v
 | .global _ => .junk
 | .func f => .c (.fn f [])
theorem Qf1 (tm : List (Nat × V)) : Qb0 tm = Q9n (look tm) := by
 funext x
 cases x <;> rfl
theorem Qd0 {P : Program} {n : Nat} {ok0 : OK0 P} {base : Nat} {pl : Nat → Option Pl} {tm : Nat → Option V} {bl : Nat → Option Blk} {a : Act} {w : World} (h : Rel n ok0 base pl tm bl a w) (x : Operand) : VRep (Q4 ok0 base pl bl w) (Q9n tm x) (a.eval x) := by
 cases x with
 | tmp t =>
  simp only [Q9n, Act.eval]
  split
  ·rename_i v hv; exact h.tmps t v hv
  ·exact trivial
 | const v => exact V.ofValue_rep v
 | global g => exact trivial
 | func f => exact ⟨[], rfl, rfl⟩
section
variable {P : Program} {ops : Array Oper} {n : Nat}
def EOk (P : Program) (ops : Array Oper) (n : Nat) (e : LogE) (tmA : Nat → Option V) (blA : Nat → Option Blk) : Prop :=
 ∀ (tm : Nat → Option V) (bl : Nat → Option Blk), (∀ t ∈ e.tin, tm t = tmA t) → (∀ b ∈ e.rd, bl b = blA b) →
  ∀ (ok0 : OK0 P) (base : Nat) (pl : Nat → Option Pl) (a : Act) (w : World), Rel n ok0 base pl tm bl a w →
  ∀ (K : Act → World → Prop) (Q : Exit → Act → World → Prop),
   (∀ pl' a' w', Rel n ok0 base pl' (updD tm e.dst e.v) (updL bl e.wr) a' w' → Step pl bl w pl' (updL bl e.wr) w' → K a' w') → wpOp P ops Q e.i K a w
def Valid (P : Program) (ops : Array Oper) (n : Nat) : List LogE → (Nat → Option V) → (Nat → Option Blk) → Prop
 | [], _, _ => True
 | e :: es, tm, bl => EOk P ops n e tm bl ∧ Valid P ops n es (updD tm e.dst e.v) (updL bl e.wr)
def finT : List LogE → (Nat → Option V) → Nat → Option V
 | [], tm => tm
 | e :: es, tm => finT es (updD tm e.dst e.v)
def finB : List LogE → (Nat → Option Blk) → Nat → Option Blk
 | [], bl => bl
 | e :: es, bl => finB es (updL bl e.wr)
theorem EOk.agree {e : LogE} {tmA tmB : Nat → Option V} {blA blB : Nat → Option Blk} (h : EOk P ops n e tmA blA) (ht : ∀ t ∈ e.tin, tmB t = tmA t) (hb : ∀ b ∈ e.rd, blB b = blA b) : EOk P ops n e tmB blB :=
 fun tm bl h1 h2 => h tm bl (fun t hm => (h1 t hm).trans (ht t hm)) (fun b hm => (h2 b hm).trans (hb b hm))
theorem Qbd {tm : Nat → Option V} {dst : Option Nat} {v : V} {t : Nat} (h : dst ≠ some t) : updD tm dst v t = tm t := by
 cases dst with
 | none => rfl
 | some d =>
  have : t ≠ d := fun e => h (by rw [e])
  simp [updD, upd, this]
theorem Qan {a b : List Nat} : meet a b = false ↔ ∀ x ∈ a, x ∉ b := by
 induction a with
 | nil => simp [meet]
 | cons y r ih =>
  simp only [meet, Bool.or_eq_false_iff, ih, List.mem_cons, forall_eq_or_imp]
  constructor
  ·rintro ⟨h1, h2⟩
   exact ⟨fun hm => (by rw [Q3p.2 hm] at h1; cases h1), h2⟩
  ·rintro ⟨h1, h2⟩
   refine ⟨?_, h2⟩
   cases hm : memB y b with
   | false => rfl
   | true => exact absurd (Q3p.1 hm) h1
structure Apart (x y : LogE) : Prop where
 t1 : ∀ t ∈ y.tin, x.dst ≠ some t
 t2 : ∀ t ∈ x.tin, y.dst ≠ some t
 t3 : ∀ d, x.dst = some d → y.dst ≠ some d
 b1 : ∀ b ∈ y.rd, b ∉ wids x.wr
 b2 : ∀ b ∈ x.rd, b ∉ wids y.wr
 b3 : ∀ b ∈ wids x.wr, b ∉ wids y.wr
theorem Qcg {x y : LogE} (h : Q9j x y = false) : Apart x y := by
 unfold Q9j at h
 simp only [Bool.or_eq_false_iff] at h
 obtain ⟨⟨⟨h1, h2⟩, h3⟩, h4⟩ := h
 have h3 := Qan.1 h3
 have h4 := Qan.1 h4
 refine ⟨fun t ht hd => ?_, fun t ht hd => ?_, fun d hd hd' => ?_, fun b hb hw => ?_, fun b hb hw => h4 b hw hb, fun b hb hw => ?_⟩
 ·rw [hd] at h1
  simp only [Bool.or_eq_false_iff] at h1
  rw [Q3p.2 ht] at h1
  cases h1.1
 ·rw [hd] at h2
  simp only at h2
  rw [Q3p.2 ht] at h2
  cases h2
 ·rw [hd, hd'] at h1
  simp only [Bool.or_eq_false_iff] at h1
  rw [Q3n] at h1
  cases h1.2
 ·exact h3 b hw (List.mem_append_left _ hb)
 ·exact h3 b hb (List.mem_append_right _ hw)
theorem Ql1 {x y : LogE} (h : Apart x y) (tm : Nat → Option V) (bl : Nat → Option Blk) :
  updD (updD tm x.dst x.v) y.dst y.v = updD (updD tm y.dst y.v) x.dst x.v ∧ updL (updL bl x.wr) y.wr = updL (updL bl y.wr) x.wr := by
 constructor
 ·cases hx : x.dst with
  | none => rfl
  | some d =>
   cases hy : y.dst with
   | none => rfl
   | some d' =>
    have hne : d ≠ d' := fun e => h.t3 d hx (by rw [hy, e])
    funext j
    simp only [updD, upd]
    by_cases h1 : j = d'
    ·by_cases h2 : j = d
     ·exact absurd (h2.symm.trans h1) hne
     ·simp [h1, Ne.symm hne]
    ·by_cases h2 : j = d <;> simp [h1, h2, hne]
 ·funext b
  by_cases h1 : b ∈ wids y.wr
  ·have h2 : b ∉ wids x.wr := fun h2 => h.b3 b h2 h1
   rw [Q63 (bl' := bl) h1, Qu (bl := updL bl y.wr) h2]
  ·rw [Qu h1]
   by_cases h2 : b ∈ wids x.wr
   ·exact Q63 h2
   ·rw [Qu h2, Qu h2, Qu h1]
theorem Valid.bubble {e : LogE} {post : List LogE} : ∀ {pre : List LogE} {tm : Nat → Option V} {bl : Nat → Option Blk}, Valid P ops n (pre ++ e :: post) tm bl → (∀ x ∈ pre, Apart x e) →
  EOk P ops n e tm bl ∧ Valid P ops n (pre ++ post) (updD tm e.dst e.v) (updL bl e.wr) ∧ finT (pre ++ e :: post) tm = finT (pre ++ post) (updD tm e.dst e.v) ∧ finB (pre ++ e :: post) bl = finB (pre ++ post) (updL bl e.wr)
 | [], tm, bl, h, _ => ⟨h.1, h.2, rfl, rfl⟩
 | x :: pre, tm, bl, h, ha => by
  have hx := ha x (by simp)
  obtain ⟨h1, h2, h3, h4⟩ := Valid.bubble h.2 fun y hy => ha y (by simp [hy])
  obtain ⟨c1, c2⟩ := Ql1 hx tm bl
  refine ⟨h1.agree (fun t ht => (Qbd (hx.t1 t ht)).symm) (fun b hb => (Qu (hx.b1 b hb)).symm), ⟨?_, ?_⟩, ?_, ?_⟩
  ·exact EOk.agree h.1 (fun t ht => Qbd (hx.t2 t ht)) (fun b hb => Qu (hx.b2 b hb))
  ·show Valid P ops n (pre ++ post) (updD (updD tm e.dst e.v) x.dst x.v) (updL (updL bl e.wr) x.wr)
   rw [← c1, ← c2]
   exact h2
  ·show finT (pre ++ e :: post) (updD tm x.dst x.v) = finT (pre ++ post) (updD (updD tm e.dst e.v) x.dst x.v)
   rw [h3, c1]
  ·show finB (pre ++ e :: post) (updL bl x.wr) = finB (pre ++ post) (updL (updL bl e.wr) x.wr)
   rw [h4, c2]
theorem Qab {Q : Exit → Act → World → Prop} {ok0 : OK0 P} {base : Nat} : ∀ {es : List LogE} {pl : Nat → Option Pl} {tm : Nat → Option V} {bl : Nat → Option Blk} {a : Act} {w : World}, Valid P ops n es tm bl → Rel n ok0 base pl tm bl a w →
  (∀ pl' a' w', Rel n ok0 base pl' (finT es tm) (finB es bl) a' w' → Step pl bl w pl' (finB es bl) w' → Q .normal a' w') → wpOps P ops Q (es.map (·.i)) a w
 | [], pl, tm, bl, a, w, _, hr, hq => hq pl a w hr (Step.refl pl bl w)
 | e :: es, pl, tm, bl, a, w, hv, hr, hq => by
  rw [List.map_cons, wpOps_cons]
  refine hv.1 tm bl (fun _ _ => rfl) (fun _ _ => rfl) ok0 base pl a w hr _ Q fun pl' a' w' hr' hs' => ?_
  exact Qab hv.2 hr' fun pl2 a2 w2 hr2 hs2 => hq pl2 a2 w2 hr2 (hs'.trans hs2)
theorem Qbe {ms : List Nat} : ∀ {es : List Edge} {i : Nat}, Nat.testBit (Q2w ms es) i = true → ∃ e ∈ es, Region.binds .any e = true ∧ (e.on = i ∨ Nat.testBit (ms.getD e.on 0) i = true)
 | [], i, h => by simp [Q2w] at h
 | e :: r, i, h => by
  simp only [Q2w] at h
  have h' : Nat.testBit (Q2w ms r) i = true ∨ Nat.testBit (bif Region.binds .any e then Nat.lor (Nat.shiftLeft 1 e.on) (ms.getD e.on 0) else 0) i = true := by
   have h2 : Nat.testBit (Q2w ms r ||| (bif Region.binds .any e then Nat.lor (Nat.shiftLeft 1 e.on) (ms.getD e.on 0) else 0)) i = true := h
   rwa [Nat.testBit_or, Bool.or_eq_true] at h2
  rcases h' with h' | h'
  ·obtain ⟨e', he, hb⟩ := Qbe h'
   exact ⟨e', by simp [he], hb⟩
  ·cases hb : Region.binds .any e with
   | false => rw [hb] at h'; simp at h'
   | true =>
    simp only [hb, cond_true] at h'
    have h3 : Nat.testBit (1 <<< e.on ||| ms.getD e.on 0) i = true := h'
    rw [Nat.testBit_or, Bool.or_eq_true] at h3
    refine ⟨e, by simp, hb, ?_⟩
    rcases h3 with h3 | h3
    ·left
     rw [Nat.testBit_shiftLeft] at h3
     simp only [Bool.and_eq_true, decide_eq_true_eq, ge_iff_le] at h3
     obtain ⟨h4, h5⟩ := h3
     have h6 : i - e.on = 0 := by
      have := Nat.testBit_one_eq_true_iff_self_eq_zero.1 h5
      exact this
     omega
    ·exact .inr h3
theorem Qd1 : ∀ {l : List Oper} {acc : List Nat} {j : Nat}, (Q2n l acc)[acc.length + j]? = (l[j]?).map fun o => Q2w ((Q2n l acc).take (acc.length + j)) o.after.toList
 | [], acc, j => by simp [Q2n]
 | o :: r, acc, 0 => by
  have h1 : ∀ (l : List Oper) (a : List Nat), ∃ x, Q2n l a = a ++ x := by
   intro l
   induction l with
   | nil => intro a; exact ⟨[], by simp [Q2n]⟩
   | cons o l ih => intro a; obtain ⟨x, hx⟩ := ih (a ++ [Q2w a o.after.toList]); exact ⟨Q2w a o.after.toList :: x, by simp only [Q2n]; rw [hx]; simp⟩
  obtain ⟨x, hx⟩ := h1 r (acc ++ [Q2w acc o.after.toList])
  simp only [Q2n, hx]
  simp
 | o :: r, acc, j + 1 => by
  have ih := Qd1 (l := r) (acc := acc ++ [Q2w acc o.after.toList]) (j := j)
  simp only [Q2n]
  simp only [List.length_append, List.length_singleton] at ih
  have e : acc.length + (j + 1) = acc.length + 1 + j := by omega
  rw [e, ih]
  simp
theorem Q91 {listed : Array Bool} {i : Nat} : i ∈ Region.ready .any ops listed ↔ ∃ o, ops[i]? = some o ∧ listed.getD i true = false ∧ ∀ e ∈ o.after, Region.binds .any e = true → listed.getD e.on false = true := by
 unfold Region.ready
 rw [List.mem_filter, List.mem_range]
 constructor
 ·rintro ⟨h1, h2⟩
  simp only [Bool.and_eq_true, Bool.not_eq_true'] at h2
  have ho : ops[i]? = some ops[i] := Array.getElem?_eq_getElem h1
  rw [ho] at h2
  simp only [Option.map_some, Option.getD_some, Array.all_eq_true_iff_forall_mem] at h2
  refine ⟨_, ho, h2.1, fun e he hb => ?_⟩
  have := h2.2 e he
  simpa [hb] using this
 ·rintro ⟨o, ho, h1, h2⟩
  refine ⟨(Array.getElem?_eq_some_iff.1 ho).1, ?_⟩
  simp only [Bool.and_eq_true, Bool.not_eq_true']
  refine ⟨h1, ?_⟩
  rw [ho]
  simp only [Option.map_some, Option.getD_some, Array.all_eq_true_iff_forall_mem]
  intro e he
  cases hb : Region.binds .any e with
  | false => rfl
  | true => simpa using h2 e he hb
def Qja (ops : Array Oper) (listed : Array Bool) : Prop := ∀ (j : Nat) (o : Oper), ops[j]? = some o → listed.getD j false = true → ∀ e ∈ o.after, Region.binds .any e = true → listed.getD e.on false = true
theorem Qi4 {listed : Array Bool} (hc : Qja ops listed) (hback : ∀ (j : Nat) (o : Oper), ops[j]? = some o → ∀ e ∈ o.after, Region.binds .any e = true → e.on < j) :
  ∀ (j i : Nat) (o : Oper), ops[j]? = some o → Nat.testBit ((Q2n ops.toList []).getD j 0) i = true → (∀ e ∈ o.after, Region.binds .any e = true → listed.getD e.on false = true) → listed.getD i false = true := by
 intro j
 induction j using Nat.strongRecOn with
 | _ j ih =>
  intro i o ho hbit hl
  have hm := Qd1 (l := ops.toList) (acc := []) (j := j)
  simp only [List.length_nil, Nat.zero_add] at hm
  have ho' : ops.toList[j]? = some o := by simpa using ho
  rw [ho'] at hm
  simp only [Option.map_some] at hm
  rw [List.getD, hm] at hbit
  simp only [Option.getD_some] at hbit
  obtain ⟨e, he, hb, h⟩ := Qbe hbit
  have he' : e ∈ o.after := by simpa using he
  have hlt := hback j o ho e he' hb
  have hle := hl e he' hb
  rcases h with h | h
  ·rw [← h]; exact hle
  ·have hon : e.on < ops.size := Nat.lt_trans hlt (Array.getElem?_eq_some_iff.1 ho).1
   have ho2 : ops[e.on]? = some ops[e.on] := Array.getElem?_eq_getElem hon
   refine ih e.on hlt i _ ho2 ?_ (hc e.on _ ho2 hle)
   rw [List.getD, List.getElem?_take_of_lt hlt] at h
   exact h
theorem Qgk {Q : Exit → Act → World → Prop} {ok0 : OK0 P} {base : Nat} (hback : ∀ (j : Nat) (o : Oper), ops[j]? = some o → ∀ e ∈ o.after, Region.binds .any e = true → e.on < j) :
  ∀ (k : Nat) {es : List LogE} {listed : Array Bool} {pl : Nat → Option Pl} {tm : Nat → Option V} {bl : Nat → Option Blk} {a : Act} {w : World}, es.length = k → listed.size = ops.size → Qja ops listed →
  (∀ i, i < ops.size → (listed.getD i true = false ↔ ∃ e ∈ es, e.i = i)) → es.Pairwise (fun x y => x.i < y.i) → (∀ e ∈ es, e.i < ops.size) →
  es.Pairwise (fun x y => Q9j x y = false ∨ Nat.testBit ((Q2n ops.toList []).getD y.i 0) x.i = true) →
  Valid P ops n es tm bl → Rel n ok0 base pl tm bl a w →
  (∀ pl' a' w', Rel n ok0 base pl' (finT es tm) (finB es bl) a' w' → Step pl bl w pl' (finB es bl) w' → Q .normal a' w') → wpAny P .any ops Q k listed a w := by
 intro k
 induction k with
 | zero =>
  intro es listed pl tm bl a w hk hsz hc hl hs hlt hf hv hr hq
  have : es = [] := List.eq_nil_of_length_eq_zero hk
  subst this
  refine ⟨?_, hq pl a w hr (Step.refl pl bl w)⟩
  cases hrd : Region.ready .any ops listed with
  | nil => rfl
  | cons i r =>
   have hi : i ∈ Region.ready .any ops listed := by rw [hrd]; simp
   obtain ⟨o, ho, h1, _⟩ := Q91.1 hi
   obtain ⟨e, he, _⟩ := (hl i (Array.getElem?_eq_some_iff.1 ho).1).1 h1
   simp at he
 | succ k ih =>
  intro es listed pl tm bl a w hk hsz hc hl hs hlt hf hv hr hq
  refine ⟨fun hrd => ?_, fun i hi => ?_⟩
  ·
   exfalso
   cases es with
   | nil => simp at hk
   | cons e es =>
    have hei := hlt e (by simp)
    have ho : ops[e.i]? = some ops[e.i] := Array.getElem?_eq_getElem hei
    have : e.i ∈ Region.ready .any ops listed := by
     refine Q91.2 ⟨_, ho, (hl e.i hei).2 ⟨e, by simp, rfl⟩, fun d hd hb => ?_⟩
     have hdl := hback e.i _ ho d hd hb
     have hds : d.on < ops.size := by omega
     cases hg : listed.getD d.on true with
     | true =>
      have hdl' : d.on < listed.size := by omega
      simp only [Array.getD_eq_getD_getElem?, Array.getElem?_eq_getElem hdl', Option.getD_some] at hg ⊢
      exact hg
     | false =>
      obtain ⟨x, hx, hxi⟩ := (hl d.on hds).1 hg
      rcases List.mem_cons.1 hx with rfl | hx
      ·omega
      ·have := (List.pairwise_cons.1 hs).1 x hx
       omega
    rw [hrd] at this
    simp at this
  ·obtain ⟨o, ho, h1, h2⟩ := Q91.1 hi
   have hisz := (Array.getElem?_eq_some_iff.1 ho).1
   obtain ⟨e, he, hei⟩ := (hl i hisz).1 h1
   obtain ⟨pre, post, rfl⟩ := List.append_of_mem he
   have hpf := List.pairwise_append.1 hf
   have hps := List.pairwise_append.1 hs
   have hap : ∀ x ∈ pre, Apart x e := by
    intro x hx
    rcases hpf.2.2 x hx e (by simp) with h | h
    ·exact Qcg h
    ·exfalso
     rw [hei] at h
     have hxl := Qi4 hc hback i x.i o ho h h2
     have hxs := hlt x (by simp [hx])
     have hxu := (hl x.i hxs).2 ⟨x, by simp [hx], rfl⟩
     have hxs' : x.i < listed.size := by omega
     simp only [Array.getD_eq_getD_getElem?, Array.getElem?_eq_getElem hxs', Option.getD_some] at hxl hxu
     rw [hxl] at hxu
     cases hxu
   obtain ⟨b1, b2, b3, b4⟩ := Valid.bubble hv hap
   subst hei
   refine b1 tm bl (fun _ _ => rfl) (fun _ _ => rfl) ok0 base pl a w hr _ Q fun pl' a' w' hr' hs' => ?_
   refine ih (es := pre ++ post) (by simp at hk ⊢; omega) (by simpa using hsz) ?_ ?_ ?_ ?_ ?_ b2 hr' ?_
   ·
    intro j oj hoj hj d hd hb
    have hget : ∀ q, listed.getD q false = true → (listed.setIfInBounds e.i true).getD q false = true := by
     intro q hq
     simp only [Array.getD_eq_getD_getElem?, Array.getElem?_setIfInBounds]
     split
     ·split <;> simp_all
     ·simpa [Array.getD_eq_getD_getElem?] using hq
    refine hget _ ?_
    by_cases hje : j = e.i
    ·subst hje
     rw [ho] at hoj
     injection hoj with hoj
     subst hoj
     exact h2 d hd hb
    ·refine hc j oj hoj ?_ d hd hb
     simp only [Array.getD_eq_getD_getElem?, Array.getElem?_setIfInBounds] at hj ⊢
     rw [if_neg (fun h => hje h.symm)] at hj
     exact hj
   ·intro q hq
    have hqs : q < listed.size := by omega
    have hes : e.i < listed.size := by omega
    by_cases hqe : q = e.i
    ·subst hqe
     constructor
     ·intro h
      simp [Array.getD_eq_getD_getElem?, hes] at h
     ·rintro ⟨x, hx, hxi⟩
      exfalso
      rcases List.mem_append.1 hx with hx | hx
      ·have := hps.2.2 x hx e (by simp); omega
      ·have := (List.pairwise_cons.1 hps.2.1).1 x hx; omega
    ·have h3 : (listed.setIfInBounds e.i true).getD q true = listed.getD q true := by
      simp only [Array.getD_eq_getD_getElem?, Array.getElem?_setIfInBounds]
      rw [if_neg (fun h => hqe h.symm)]
     rw [h3, hl q hq]
     constructor
     ·rintro ⟨x, hx, hxi⟩
      refine ⟨x, ?_, hxi⟩
      rcases List.mem_append.1 hx with hx | hx
      ·exact List.mem_append_left _ hx
      ·rcases List.mem_cons.1 hx with rfl | hx
       ·exact absurd hxi.symm hqe
       ·exact List.mem_append_right _ hx
     ·rintro ⟨x, hx, hxi⟩
      refine ⟨x, ?_, hxi⟩
      rcases List.mem_append.1 hx with hx | hx
      ·exact List.mem_append_left _ hx
      ·exact List.mem_append_right _ (List.mem_cons_of_mem _ hx)
   ·exact List.pairwise_append.2 ⟨hps.1, (List.pairwise_cons.1 hps.2.1).2, fun x hx y hy => hps.2.2 x hx y (by simp [hy])⟩
   ·intro x hx
    refine hlt x ?_
    rcases List.mem_append.1 hx with hx | hx
    ·exact List.mem_append_left _ hx
    ·exact List.mem_append_right _ (List.mem_cons_of_mem _ hx)
   ·exact List.pairwise_append.2 ⟨hpf.1, (List.pairwise_cons.1 hpf.2.1).2, fun x hx y hy => hpf.2.2 x hx y (by simp [hy])⟩
   ·intro pl2 a2 w2 hr2 hs2
    rw [← b3, ← b4] at hr2
    rw [← b4] at hs2
    exact hq pl2 a2 w2 hr2 (hs'.trans hs2)
end
end Go.Lift
namespace Go.Lift
open Go.RowKit
section
variable {P : Program} {ops : Array Oper} {n : Nat} {β : Type} {r : β}
theorem Rel.put {ok0 : OK0 P} {base : Nat} {pl pl' : Nat → Option Pl} {tm : Nat → Option V} {bl bl' : Nat → Option Blk} {a : Act} {w w' : World} (h : Rel n ok0 base pl tm bl a w)
  {dst : Option Nat} (hd : Qb1 n dst = true) {v : V} {val : Value} (hr : RelB ok0 base pl' bl' w') (hs : Step pl bl w pl' bl' w') (hv : VRep (Q4 ok0 base pl' bl' w') v val) : Rel n ok0 base pl' (updD tm dst v) bl' (a.put dst val) w' := by
 have hold : ∀ t v, tm t = some v → VRep (Q4 ok0 base pl' bl' w') v (a.tmps.getD t undef) := fun t v ht => (h.tmps t v ht).mono hs.ext
 cases dst with
 | none => exact ⟨h.defers, h.size, hold, hr⟩
 | some d =>
  have hdn : d < n := Q1b hd
  refine ⟨h.defers, by simp [Act.put, h.size], fun t v' ht => ?_, hr⟩
  simp only [updD, upd] at ht
  simp only [Act.put, Array.getD_eq_getD_getElem?, Array.getElem?_setIfInBounds]
  by_cases e : t = d
  ·subst e
   simp only [if_true, Option.some.injEq] at ht
   subst ht
   have : t < a.tmps.size := by rw [h.size]; exact hdn
   simp [this, hv]
  ·rw [if_neg e] at ht
   rw [if_neg (fun h => e h.symm)]
   have := hold t v' ht
   rwa [Array.getD_eq_getD_getElem?] at this
theorem Qbf {t : Nat} : ∀ {l : List Operand}, Operand.tmp t ∈ l → t ∈ Q2v l
 | x :: l, h => by
  rcases List.mem_cons.1 h with h | h
  ·subst h; simp [Q2v]
  ·have := Qbf h
   cases x <;> simp_all [Q2v]
theorem Qgl {tm tm' : Nat → Option V} {l : List Operand} (h : ∀ t ∈ Q2v l, tm t = tm' t) {x : Operand} (hx : x ∈ l) : Q9n tm x = Q9n tm' x := by
 cases x with
 | tmp t => simp only [Q9n, h t (Qbf hx)]
 | _ => rfl
theorem Ql2 {i : Nat} {o : Oper} (ho : ops[i]? = some o) (hd : Qb1 n o.dst = true) {σ : St} {v : V} {rd : List Nat} {wr : List (Nat × Blk)} {tin : List Nat}
  (hg : o.guard = none ∧ tin = Q2v o.op.operands.toList ∨ ∃ t want, Q3o ops o = some (t, want) ∧ look σ.tm t = some (.c (.bool want)) ∧ tin = t :: Q2v o.op.operands.toList)
  (hs : ∀ bl2, (∀ b ∈ rd, bl2 b = look σ.bl b) → OpOk P o (Qb0 σ.tm) bl2 v wr) : EOk P ops n ⟨i, o.dst, v, tin, rd, wr⟩ (look σ.tm) (look σ.bl) := by
 intro tm bl ht hb ok0 base pl a w hr K Q hk
 have hin : ∀ t ∈ Q2v o.op.operands.toList, tm t = look σ.tm t := by
  intro t htm
  rcases hg with ⟨_, e⟩ | ⟨t', want, _, _, e⟩
  ·exact ht t (by rw [e]; exact htm)
  ·exact ht t (by rw [e]; exact List.mem_cons_of_mem _ htm)
 have hw : Region.wanted o (yielded ops a.tmps) = true := by
  unfold Region.wanted
  rcases hg with ⟨e, _⟩ | ⟨t', want, e1, e2, e3⟩
  ·rw [e]
  ·unfold Q3o at e1
   split at e1
   ·cases e1
   ·rename_i j want' hgd
    rw [hgd]
    cases hj : (ops[j]?).bind (·.dst) with
    | none => rw [hj] at e1; cases e1
    | some t2 =>
     rw [hj] at e1
     simp only [Option.map_some, Option.some.injEq, Prod.mk.injEq] at e1
     obtain ⟨e4, e5⟩ := e1
     subst e4 e5
     have h1 := ht t2 (by rw [e3]; simp)
     rw [e2] at h1
     have h2 := hr.tmps t2 _ h1
     simp only [VRep, CRep] at h2
     simp only [yielded, hj, Option.bind_some]
     rw [Array.getD_eq_getD_getElem?] at h2
     cases h3 : a.tmps[t2]? with
     | none => rw [h3] at h2; simp [undef] at h2
     | some u =>
      rw [h3] at h2
      simp only [Option.getD_some] at h2
      subst h2
      simp
 unfold wpOp
 rw [ho]
 simp only [hw, if_true]
 refine .inl (hs bl hb ok0 base pl w a hr.rel (fun x hx => ?_) K Q fun val pl' w' hr' hst hv => hk pl' _ w' (hr.put hd hr' hst hv) hst)
 have hx' : x ∈ o.op.operands.toList := by simpa using hx
 rw [Qf1, ← Qgl hin hx']
 exact Qd0 hr x
theorem Ql3 {i : Nat} {o : Oper} (ho : ops[i]? = some o) (hd : Qb1 n o.dst = true) {tmA : Nat → Option V} {blA : Nat → Option Blk} {t : Nat} {want : Bool} (hg : Q3o ops o = some (t, want)) {u : V}
  (ht : tmA t = some u) (hu : u = .tup [] ∨ u = .c (.bool (!want))) : EOk P ops n ⟨i, o.dst, .tup [], [t], [], []⟩ tmA blA := by
 intro tm bl htm hb ok0 base pl a w hr K Q hk
 have h1 := htm t (by simp)
 rw [ht] at h1
 have h2 := hr.tmps t _ h1
 have hw : Region.wanted o (yielded ops a.tmps) = false := by
  unfold Region.wanted
  unfold Q3o at hg
  split at hg
  ·cases hg
  ·rename_i j want' hgd
   rw [hgd]
   cases hj : (ops[j]?).bind (·.dst) with
   | none => rw [hj] at hg; cases hg
   | some t2 =>
    rw [hj] at hg
    simp only [Option.map_some, Option.some.injEq, Prod.mk.injEq] at hg
    obtain ⟨e4, e5⟩ := hg
    subst e4 e5
    simp only [yielded, hj, Option.bind_some]
    rw [Array.getD_eq_getD_getElem?] at h2
    cases h3 : a.tmps[t2]? with
    | none => rfl
    | some u' =>
     rw [h3] at h2
     simp only [Option.getD_some] at h2
     rcases hu with e | e
     ·subst e
      obtain ⟨vs, h4, h5⟩ := h2
      simp only [TReps] at h5
      subst h5 h4
      rfl
     ·subst e
      simp only [VRep, CRep] at h2
      subst h2
      cases want' <;> rfl
 unfold wpOp
 rw [ho]
 simp only [hw, Bool.false_eq_true, if_false]
 have hundef : VRep (Q4 ok0 base pl bl w) (.tup []) undef := ⟨[], rfl, rfl⟩
 exact hk pl _ w (hr.put hd hr.rel (Step.refl pl bl w) hundef) (Step.refl pl bl w)
theorem Q25 {tm : List (Nat × V)} {t : Nat} {v : V} (h : look tm t = some v) : look (put tm t v) = look tm := by
 funext j
 rw [Qaf]
 split
 ·rename_i e; rw [e, h]
 ·rfl
theorem Q64 {X : Ctx} (hT : TOk P X.T) (hΓ : ΓOk P X.Γ) {k : St → List LogE → Option β} : ∀ {l : List (Nat × Oper)} {σ : St} {log : List LogE}, (∀ p ∈ l, ops[p.1]? = some p.2) → Q44 X n ops l σ log k = some r →
  ∃ es σ', k σ' (es.reverse ++ log) = some r ∧ es.map (·.i) = l.map (·.1) ∧ Valid P ops n es (look σ.tm) (look σ.bl) ∧ look σ'.tm = finT es (look σ.tm) ∧ look σ'.bl = finB es (look σ.bl)
 | [], σ, log, _, h => ⟨[], σ, h, rfl, trivial, rfl, rfl⟩
 | (i, o) :: rest, σ, log, hl, h => by
  have ho : ops[i]? = some o := hl (i, o) (by simp)
  have hl' : ∀ p ∈ rest, ops[p.1]? = some p.2 := fun p hp => hl p (by simp [hp])
  simp only [Q44] at h
  cases hd : Qb1 n o.dst with
  | false => rw [hd] at h; cases h
  | true =>
   rw [hd] at h
   simp only [cond_true] at h
   have take : ∀ (σ1 : St) (tin : List Nat), look σ1.tm = look σ.tm → look σ1.bl = look σ.bl →
     (o.guard = none ∧ tin = Q2v o.op.operands.toList ∨ ∃ t want, Q3o ops o = some (t, want) ∧ look σ1.tm t = some (.c (.bool want)) ∧ tin = t :: Q2v o.op.operands.toList) →
     (Qe4 X o (Qb0 σ1.tm) (look σ1.bl) σ1.nx fun v rd wr => Q44 X n ops rest ⟨putD σ1.tm o.dst v, puts σ1.bl wr, Qeh σ1.nx wr⟩ (⟨i, o.dst, v, tin, rd, wr⟩ :: log) k) = some r →
     ∃ es σ', k σ' (es.reverse ++ log) = some r ∧ es.map (·.i) = ((i, o) :: rest).map (·.1) ∧ Valid P ops n es (look σ.tm) (look σ.bl) ∧ look σ'.tm = finT es (look σ.tm) ∧ look σ'.bl = finB es (look σ.bl) := by
    intro σ1 tin et eb hg h
    obtain ⟨v, rd, wr, hk, hs⟩ := Qgj hT hΓ h
    obtain ⟨es, σ', h1, h2, h3, h4, h5⟩ := Q64 hT hΓ hl' hk
    refine ⟨⟨i, o.dst, v, tin, rd, wr⟩ :: es, σ', by simpa using h1, by simp [h2], ⟨?_, ?_⟩, ?_, ?_⟩
    ·rw [← et, ← eb]
     exact Ql2 ho hd hg hs
    ·simp only [Q6k, Q8l, et, eb] at h3
     exact h3
    ·rw [h4]; simp only [Q6k, et, finT]
    ·rw [h5]; simp only [Q8l, eb, finB]
   have skip : ∀ (σ1 : St) (t : Nat) (want : Bool) (u : V), look σ1.tm = look σ.tm → look σ1.bl = look σ.bl → Q3o ops o = some (t, want) → look σ.tm t = some u → (u = .tup [] ∨ u = .c (.bool (!want))) →
     (Q44 X n ops rest ⟨putD σ1.tm o.dst (.tup []), σ1.bl, σ1.nx⟩ (⟨i, o.dst, .tup [], [t], [], []⟩ :: log) k) = some r →
     ∃ es σ', k σ' (es.reverse ++ log) = some r ∧ es.map (·.i) = ((i, o) :: rest).map (·.1) ∧ Valid P ops n es (look σ.tm) (look σ.bl) ∧ look σ'.tm = finT es (look σ.tm) ∧ look σ'.bl = finB es (look σ.bl) := by
    intro σ1 t want u et eb hg ht hu h
    obtain ⟨es, σ', h1, h2, h3, h4, h5⟩ := Q64 hT hΓ hl' h
    refine ⟨⟨i, o.dst, .tup [], [t], [], []⟩ :: es, σ', by simpa using h1, by simp [h2], ⟨Ql3 ho hd hg ht hu, ?_⟩, ?_, ?_⟩
    ·simp only [Q6k, et, eb] at h3
     exact h3
    ·rw [h4]; simp only [Q6k, et, finT]
    ·rw [h5]; simp only [eb, finB, updL]
   split at h
   ·rename_i hgd
    exact take σ _ rfl rfl (.inl ⟨hgd, rfl⟩) h
   ·split at h
    ·cases h
    ·rename_i t want hg
     split at h
     ·rename_i ht
      exact skip σ t want _ rfl rfl hg ht (.inl rfl) h
     ·rename_i g ht
      cases want <;> cases g <;> simp only [cond_true, cond_false, Bool.not_true, Bool.not_false] at h
      ·exact take ⟨put σ.tm t (.c (.bool false)), σ.bl, σ.nx⟩ _ (Q25 ht) rfl (.inr ⟨t, false, hg, by rw [Q25 ht, ht], rfl⟩) h
      ·exact skip ⟨put σ.tm t (.c (.bool true)), σ.bl, σ.nx⟩ t false _ (Q25 ht) rfl hg ht (.inr rfl) h
      ·exact skip ⟨put σ.tm t (.c (.bool false)), σ.bl, σ.nx⟩ t true _ (Q25 ht) rfl hg ht (.inr rfl) h
      ·exact take ⟨put σ.tm t (.c (.bool true)), σ.bl, σ.nx⟩ _ (Q25 ht) rfl (.inr ⟨t, true, hg, by rw [Q25 ht, ht], rfl⟩) h
     ·cases h
end
end Go.Lift
