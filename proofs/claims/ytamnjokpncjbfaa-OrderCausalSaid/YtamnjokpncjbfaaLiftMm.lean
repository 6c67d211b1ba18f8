/- The lifter, part Mm: maps. -/
import Derived.Test.YtamnjokpncjbfaaLiftM
import Derived.MapKept
namespace Go.Lift
open Go.RowKit Go.MapKept

section
variable {P : Program} {o : Oper} {ρ : Operand → V} {bl : Nat → Option Blk} {β : Type} {r : β}

theorem keyTI_isKey {t : TypeId} {ti : TI} {i : TypeInfo} {d : TypeDesc} {z : Value} (f : TFacts P t ti i d z) {k : Ty} (hk : keyTI ti k = true) {w : World} {ok : Nat → Prop} {x : k.den} {u : Value} (hd : DRep w ok k x [u]) : IsKey d u := by
  cases k with
  | bool =>
    simp only [keyTI, f.isBool] at hk
    simp only [DRep, List.cons.injEq, and_true] at hd
    subst hd
    cases d <;> simp [isBoolD] at hk
    trivial
  | int k =>
    have hk := of_decide_eq_true hk
    rw [f.kind] at hk
    simp only [DRep, List.cons.injEq, and_true] at hd
    subst hd
    cases d <;> simp [kindD] at hk
    subst hk
    rfl
  | str =>
    simp only [keyTI, f.isStr] at hk
    simp only [DRep, List.cons.injEq, and_true] at hd
    subst hd
    cases d <;> simp [isStrD] at hk
    trivial
  | unit => simp [keyTI] at hk
  | prod a b => simp [keyTI] at hk
  | slice e => simp [keyTI] at hk

theorem keyOf_rep {E : Env} {k : Ty} {v : V} {key : k.den} {u : Value} (h : keyOf k v = some key) (hv : VRep E v u) : DRep E.w E.ok k key [u] := by
  cases k with
  | bool =>
    cases v <;> first | (cases h; done) | skip
    rename_i c
    cases c <;> first | (cases h; done) | skip
    simp only [keyOf] at h
    injection h with h
    subst h
    have : u = .bool _ := hv
    subst this; rfl
  | int k =>
    cases v <;> first | (cases h; done) | skip
    rename_i c
    cases c <;> first | (cases h; done) | skip
    simp only [keyOf] at h
    split at h
    · rename_i hk
      subst hk
      injection h with h
      subst h
      have : u = .int _ _ := hv
      subst this; rfl
    · cases h
  | str =>
    cases v <;> first | (cases h; done) | skip
    rename_i c
    cases c <;> first | (cases h; done) | skip
    simp only [keyOf] at h
    injection h with h
    subst h
    have : u = .string _ := hv
    subst this; rfl
  | unit => simp [keyOf] at h
  | prod a b => simp [keyOf] at h
  | slice e => simp [keyOf] at h

theorem keyEq_iff {ti : TI} {k : Ty} (hk : keyTI ti k = true) {w : World} {ok : Nat → Prop} {a b : k.den} {x y : Value} (ha : DRep w ok k a [x]) (hb : DRep w ok k b [y]) : (keyEq k a b = true ↔ y = x) := by
  cases k with
  | bool =>
    simp only [DRep, List.cons.injEq, and_true] at ha hb
    subst ha hb
    simp only [keyEq, beq_iff_eq, Value.bool.injEq]
    exact eq_comm
  | int k =>
    simp only [DRep, List.cons.injEq, and_true] at ha hb
    subst ha hb
    simp only [keyEq, decide_eq_true_eq, Value.int.injEq, true_and]
    exact eq_comm
  | str =>
    simp only [DRep, List.cons.injEq, and_true] at ha hb
    subst ha hb
    simp only [keyEq, decide_eq_true_eq, Value.string.injEq, ByteArray.mk.injEq]
    constructor
    · intro h; rw [h]
    · intro h; simpa using congrArg Array.toList h.symm
  | unit => simp [keyTI] at hk
  | prod a b => simp [keyTI] at hk
  | slice e => simp [keyTI] at hk

/-- What a search finds. -/
theorem find_rep {ti : TI} {d : TypeDesc} {w : World} {ok : Nat → Prop} {k v : Ty} {vg : Bool} (hk : keyTI ti k = true) (hkey : ∀ (x : k.den) (u : Value), DRep w ok k x [u] → IsKey d u) {key : k.den} {u : Value} (hd : DRep w ok k key [u]) :
    ∀ {l : List (k.den × v.den)} {es : List MapEntry} (i : Nat), MRep w ok k v vg l es →
      (Instr.findNow d u es i = some none ∧ mHas k l key = false ∧ (∀ z, mGet k l key z = z) ∧
        ∀ (y : v.den) (us : List Value) (val : Value) (n : Nat), DRep w ok v y us → (if vg then val = .agg us.toArray else us = [val]) → MRep w ok k v vg (mPut k l key y) (es ++ [{ key := u, val := val, born := n }])) ∨
      ∃ j e y us, Instr.findNow d u es i = some (some (i + j, e.val)) ∧ es[j]? = some e ∧ e.key = u ∧ mHas k l key = true ∧ (∀ z, mGet k l key z = y) ∧ DRep w ok v y us ∧ (if vg then e.val = .agg us.toArray else us = [e.val]) ∧
        ∀ (y' : v.den) (us' : List Value) (val : Value) (f : MapEntry → MapEntry), DRep w ok v y' us' → (if vg then val = .agg us'.toArray else us' = [val]) → (∀ e, (f e).key = u ∧ (f e).val = val) → MRep w ok k v vg (mPut k l key y') (es.modify j f)
  | [], es, i, h => by
    simp only [MRep] at h
    subst h
    refine .inl ⟨rfl, rfl, fun _ => rfl, fun y us val n h1 h2 => ?_⟩
    exact ⟨_, [], rfl, hd, ⟨us, h1, h2⟩, rfl⟩
  | x :: l, es, i, ⟨e, rest, h0, h1, ⟨us, h2, h3⟩, h4⟩ => by
    subst h0
    obtain ⟨q, hq, hiff⟩ := sameNow_of_keys (hkey key u hd) (hkey x.1 e.key h1)
    have hke := keyEq_iff hk h1 hd
    cases q with
    | true =>
      have hue : u = e.key := hiff.1 rfl
      have hkt : keyEq k x.1 key = true := hke.2 hue
      refine .inr ⟨0, e, x.2, us, by simp [Instr.findNow, hq], rfl, hue.symm, by simp [mHas, hkt], fun z => by simp [mGet, hkt], h2, h3, fun y' us' val f g1 g2 g3 => ?_⟩
      have hp : mPut k (x :: l) key y' = (key, y') :: l := by simp [mPut, hkt]
      rw [hp]
      refine ⟨f e, rest, by simp, by rw [(g3 e).1]; exact hd, ⟨us', g1, by rw [(g3 e).2]; exact g2⟩, h4⟩
    | false =>
      have hue : u ≠ e.key := fun h => by have := hiff.2 h; cases this
      have hkt : keyEq k x.1 key = false := by
        cases hh : keyEq k x.1 key with
        | false => rfl
        | true => exact absurd (hke.1 hh) hue
      rcases find_rep hk hkey hd (i + 1) h4 with ⟨g1, g2, g3, g4⟩ | ⟨j, e', y, us2, g1, g2, g3, g4, g5, g6, g7, g8⟩
      · refine .inl ⟨by simp [Instr.findNow, hq, g1], by simp [mHas, hkt, g2], fun z => by simp [mGet, hkt, g3], fun y us' val n k1 k2 => ?_⟩
        have hp : mPut k (x :: l) key y = x :: mPut k l key y := by simp [mPut, hkt]
        rw [hp]
        exact ⟨e, rest ++ _, rfl, h1, ⟨us, h2, h3⟩, g4 y us' val n k1 k2⟩
      · refine .inr ⟨j + 1, e', y, us2, by simp [Instr.findNow, hq, g1]; omega, by simpa using g2, g3, by simp [mHas, hkt, g4], fun z => by simp [mGet, hkt, g5], g6, g7, fun y' us' val f k1 k2 k3 => ?_⟩
        have hp : mPut k (x :: l) key y' = x :: mPut k l key y' := by simp [mPut, hkt]
        rw [hp]
        exact ⟨e, rest.modify j f, by simp, h1, ⟨us, h2, h3⟩, g8 y' us' val f k1 k2 k3⟩

theorem map_type {t : TypeId} {ti : TI} {i : TypeInfo} {d : TypeDesc} {z : Value} (f : TFacts P t ti i d z) {kt vt : TypeId} (h : ti.mp = some (kt, vt)) : d = .map kt vt := by
  rw [f.mp] at h
  cases d <;> simp [mpD] at h
  rw [h.1, h.2]

theorem sound_makeMap {T : TypeId → Option TI} {kk : K β} {nx : Nat} {t : TypeId} (ho : o.op = .makeMap t none) (hk : makeMapRun T bl nx t kk = some r) : Sound P o ρ bl kk r := by
  unfold makeMapRun at hk
  split at hk
  · cases hk
  split at hk
  · cases hk
  split at hk
  · rename_i tk tv htk htv
    split at hk
    · rename_i k v hk1 hv1 hn
      cases hq : keyTI tk k with
      | false => rw [hq] at hk; cases hk
      | true =>
        simp only [hq, cond_true] at hk
        refine ⟨_, _, _, hk, fun bl2 hb => ?_⟩
        have hn2 : bl2 nx = none := (hb nx (by simp)).trans hn
        intro ok0 base pl w a hr hx K Q hK
        have h1 : (execOp a.eval o).run P w = .ok (.value (.map (some w.heap.size))) (w.alloc (.map #[] 0)) := by
          simp [execOp, ho, Instr.makeMap]
        have hg : w.grownBy (w.alloc (.map #[] 0)) none := World.grownBy_alloc w _ none
        have hp : ∀ g, (Pl.cells w.heap.size).has g → w.heap.size ≤ g := fun g hgg => Nat.le_of_eq hgg
        have hs : Step pl bl2 w (upd pl nx (.cells w.heap.size)) (upd bl2 nx (.map t k v tv.agg [])) (w.alloc (.map #[] 0)) := Step.new hr hn2 hg hp
        refine wp_of_value h1 (hK _ (upd pl nx (.cells w.heap.size)) _ ?_ hs ?_)
        · exact RelB.new hr hn2 hg hp ⟨#[], 0, heap_alloc_new w _, rfl⟩
        · exact ⟨w.heap.size, by simp [envOf, upd], rfl⟩
    · cases hk
  · cases hk

theorem vmk_rep {E : Env} {v : Ty} {vg : Bool} {y : v.den} {us : List Value} {val : Value} (hd : DRep E.w E.ok v y us) (hv : if vg then val = .agg us.toArray else us = [val]) : VRep E (V.mk vg (cells v y)) val :=
  VRep.mk ⟨us, cells_rep hd, hv⟩

theorem sound_lookup {T : TypeId → Option TI} (hT : TOk P T) {kk : K β} {t : TypeId} {x ix : Operand} {commaOk : Bool} (ho : o.op = .lookup t x ix commaOk) (hk : lookupRun T bl t (ρ x) (ρ ix) commaOk kk = some r) : Sound P o ρ bl kk r := by
  unfold lookupRun at hk
  split at hk
  · cases hk
  rename_i ti ht
  obtain ⟨i, d, z, f⟩ := hT.facts ht
  split at hk
  · cases hk
  rename_i kt vt hmp
  have hd := map_type f hmp
  subst hd
  split at hk
  · rename_i tk tv htk htv
    obtain ⟨ik, dk, zk, fk⟩ := hT.facts htk
    obtain ⟨iv, dv, zv, fv⟩ := hT.facts htv
    split at hk
    · rename_i b hx
      split at hk
      · rename_i t0 k v vg l hb
        cases hq : (keyTI tk k && (vg || Nat.beq v.size 1) && (vg == tv.agg)) with
        | false => rw [hq] at hk; cases hk
        | true =>
          simp only [hq, cond_true] at hk
          obtain ⟨hq, hq3⟩ := andB hq
          obtain ⟨hq1, hq2⟩ := andB hq
          have hq3 : vg = tv.agg := by simpa using hq3
          split at hk
          · rename_i key zz hkey hzz
            refine Sound.pure hk fun bl2 hb2 ok0 base pl w a hr hxs => ?_
            have hb' : bl2 b = some (.map t0 k v vg l) := (hb2 b (by simp)).trans hb
            have h1 := hxs x (by simp [ho, Op.operands])
            have h2 := hxs ix (by simp [ho, Op.operands])
            rw [hx] at h1
            obtain ⟨g, hg, hav⟩ := h1
            have hkr := keyOf_rep hkey h2
            obtain ⟨p, hp, hB⟩ := hr.blks b _ hb'
            have : p = .cells g := by have h3 : pl b = some (.cells g) := hg; rw [hp] at h3; injection h3
            subst this
            obtain ⟨es, clock, hh, hm⟩ := hB
            have hh : w.heap[g]? = some (.map es clock) := hh
            have hik : ∀ (y : k.den) (u : Value), DRep (envOf ok0 base pl bl2 w).w (envOf ok0 base pl bl2 w).ok k y [u] → IsKey dk u := fun y u h => keyTI_isKey fk hq1 h
            have hzv : (zeroValue vt).run P w = .ok zv w := by simp [zeroValue, typeInfo, fv.info, fv.zero]
            rcases find_rep hq1 hik hkr 0 hm with ⟨g1, g2, g3, g4⟩ | ⟨j, e, y, us, g1, g2, g3, g4, g5, g6, g7, g8⟩
            · -- not there
              have hz : ∃ us, DRep (envOf ok0 base pl bl2 w).w (envOf ok0 base pl bl2 w).ok v zz us ∧ if vg then zv = .agg us.toArray else us = [zv] := by
                have hzc : CReps (envOf ok0 base pl bl2 w) tv.zero zv.cells.toList := by rw [fv.zeroC]; exact zeroCs_rep fv.one
                have hdz := pack1_rep hr.blksOk (Rows.none _ _) hzc hzz
                refine ⟨_, hdz, ?_⟩
                rw [hq3, fv.agg]
                have := run_isAgg fv w
                cases hag : aggOf P vt with
                | true =>
                  simp only [if_true]
                  have hz1 := fv.zagg.trans hag
                  cases zv <;> simp [zIsAgg] at hz1
                  rfl
                | false =>
                  simp only [Bool.false_eq_true, if_false]
                  rw [hq3, fv.agg, hag] at hq2
                  have hsz := Nat.eq_of_beq_eq_true (by simpa using hq2 : Nat.beq v.size 1 = true)
                  have hl := DRep.length hdz
                  rw [hsz] at hl
                  cases zv with
                  | agg cs => exact absurd (fv.zagg.trans hag) (by simp [zIsAgg])
                  | _ => rfl
              obtain ⟨us, hz1, hz2⟩ := hz
              have hrun : (execOp a.eval o).run P w = .ok (.value (if commaOk then .tuple #[zv, .bool false] else zv)) w := by
                simp [execOp, ho, Instr.lookup, run_underlying f.under, hav, MapKept.run_getObj_map hh, run_checkKey fk.under (hik key _ hkr), run_findKey fk.under g1, hzv, Result.andThen]
              refine ⟨_, hrun, ?_⟩
              rw [g2, g3]
              cases commaOk with
              | true => exact ⟨[zv, .bool false], rfl, zv, [.bool false], rfl, ⟨us, cells_rep hz1, hz2⟩, .bool false, [], rfl, ⟨[.bool false], ⟨_, _, rfl, rfl, rfl⟩, by simp⟩, rfl⟩
              | false => exact vmk_rep hz1 hz2
            · have hrun : (execOp a.eval o).run P w = .ok (.value (if commaOk then .tuple #[e.val, .bool true] else e.val)) w := by
                simp [execOp, ho, Instr.lookup, run_underlying f.under, hav, MapKept.run_getObj_map hh, run_checkKey fk.under (hik key _ hkr), run_findKey fk.under g1, Result.andThen]
              refine ⟨_, hrun, ?_⟩
              rw [g4, g5]
              cases commaOk with
              | true => exact ⟨[e.val, .bool true], rfl, e.val, [.bool true], rfl, ⟨us, cells_rep g6, g7⟩, .bool true, [], rfl, ⟨[.bool true], ⟨_, _, rfl, rfl, rfl⟩, by simp⟩, rfl⟩
              | false => exact vmk_rep g6 g7
          · cases hk
      · cases hk
    · cases hk
  · cases hk

theorem setBlock_grownBy {w : World} {g : Nat} {o : Obj} : w.grownBy { w with heap := w.heap.setIfInBounds g o } (some g) :=
  ⟨rfl, rfl, rfl, by simp, fun k hk hne => by
    have : k ≠ g := fun h => hne (by rw [h])
    simp [Ne.symm this]⟩

theorem sound_update {T : TypeId → Option TI} (hT : TOk P T) {kk : K β} {t : TypeId} {x ix y : Operand} (ho : o.op = .mapUpdate t x ix y) (hk : updateRun T bl t (ρ x) (ρ ix) (ρ y) kk = some r) : Sound P o ρ bl kk r := by
  unfold updateRun at hk
  split at hk
  · cases hk
  rename_i ti ht
  obtain ⟨i, d, z, f⟩ := hT.facts ht
  split at hk
  · cases hk
  rename_i kt vt hmp
  have hd := map_type f hmp
  subst hd
  split at hk
  · cases hk
  rename_i tk htk
  obtain ⟨ik, dk, zk, fk⟩ := hT.facts htk
  split at hk
  · rename_i b cs hx hcs
    split at hk
    · rename_i t0 k v vg l hb
      cases hq : (keyTI tk k && decide (isAggV (ρ y) = some vg)) with
      | false => rw [hq] at hk; cases hk
      | true =>
        simp only [hq, cond_true] at hk
        obtain ⟨hq1, hq2⟩ := andB hq
        have hq2 := of_decide_eq_true hq2
        split at hk
        · rename_i key zz hkey hzz
          refine ⟨_, _, _, hk, fun bl2 hb2 => ?_⟩
          intro ok0 base pl w a hr hxs K Q hK
          have hb' : bl2 b = some (.map t0 k v vg l) := (hb2 b (by simp)).trans hb
          have h1 := hxs x (by simp [ho, Op.operands])
          have h2 := hxs ix (by simp [ho, Op.operands])
          have h3 := hxs y (by simp [ho, Op.operands])
          rw [hx] at h1
          obtain ⟨g, hg, hav⟩ := h1
          have hkr := keyOf_rep hkey h2
          obtain ⟨p, hp, hB⟩ := hr.blks b _ hb'
          have hpg : pl b = some (.cells g) := hg
          have : p = .cells g := by rw [hp] at hpg; injection hpg
          subst this
          obtain ⟨es, clock, hh, hm⟩ := hB
          have hh : w.heap[g]? = some (.map es clock) := hh
          have hik : ∀ (y : k.den) (u : Value), DRep (envOf ok0 base pl bl2 w).w (envOf ok0 base pl bl2 w).ok k y [u] → IsKey dk u := fun y u h => keyTI_isKey fk hq1 h
          have hyc := VRep.cells_of hcs h3
          have hdz := pack1_rep hr.blksOk (Rows.none _ _) hyc hzz
          have hform : if vg then a.eval y = .agg (a.eval y).cells.toList.toArray else (a.eval y).cells.toList = [a.eval y] := by
            cases hyv : ρ y with
            | c q =>
              rw [hyv] at hq2 h3
              simp only [isAggV, Option.some.injEq] at hq2
              subst hq2
              have h4 := CRep.oneCell (show CRep _ q (a.eval y) from h3)
              simp only [Bool.false_eq_true, if_false]
              cases hv : a.eval y with
              | agg cs => rw [hv] at h4; simp [Value.oneCell'] at h4
              | _ => rfl
            | agg q =>
              rw [hyv] at hq2 h3
              simp only [isAggV, Option.some.injEq] at hq2
              subst hq2
              obtain ⟨vs, _, hv⟩ := h3
              simp only [if_true] at hv
              rw [hv]
              rfl
            | _ => rw [hyv] at hq2; simp [isAggV] at hq2
          have hstep : ∀ (l' : List (k.den × v.den)) (o' : Obj), Step pl bl2 w (upd pl b (.cells g)) (upd bl2 b (.map t0 k v vg l')) { w with heap := w.heap.setIfInBounds g o' } :=
            fun l' o' => Step.wroteB hr hb' rfl hpg setBlock_grownBy
          rcases find_rep hq1 hik hkr 0 hm with ⟨g1, g2, g3, g4⟩ | ⟨j, e, y', us, g1, g2, g3, g4, g5, g6, g7, g8⟩
          · have hrun : (execOp a.eval o).run P w = .ok .skip { w with heap := w.heap.setIfInBounds g (.map (es.push { key := a.eval ix, val := a.eval y, born := clock }) (clock + 1)) } := by
              simp [execOp, ho, Instr.mapUpdate, run_underlying f.under, hav, MapKept.run_getObj_map hh, run_checkKey fk.under (hik key _ hkr), run_findKey fk.under g1, MapKept.run_setObj_map _ hh, Result.andThen]
            refine wp_of_skip hrun (hK undef (upd pl b (.cells g)) _ (RelB.wroteB hr hb' rfl hpg setBlock_grownBy ?_) (hstep _ _) trivial)
            refine ⟨_, _, (heap_set hh).1, ?_⟩
            rw [Array.toList_push]
            have hx2 := (hstep (mPut k l key zz) (.map (es.push { key := a.eval ix, val := a.eval y, born := clock }) (clock + 1))).ext (ok0 := ok0) (base := base)
            exact (g4 zz _ (a.eval y) clock hdz hform).mono (fun _ _ h => h.mono hx2.heap) (fun _ _ h => h.mono hx2.heap)
          · have hj : es[j]? = some e := by simpa using g2
            have hrun : (execOp a.eval o).run P w = .ok .skip { w with heap := w.heap.setIfInBounds g (.map (es.modify j fun e => { e with key := a.eval ix, val := a.eval y }) clock) } := by
              simp [execOp, ho, Instr.mapUpdate, run_underlying f.under, hav, MapKept.run_getObj_map hh, run_checkKey fk.under (hik key _ hkr), run_findKey fk.under g1, hj, g3, run_keyThatStays (hik key _ hkr), MapKept.run_setObj_map _ hh, Result.andThen]
            refine wp_of_skip hrun (hK undef (upd pl b (.cells g)) _ (RelB.wroteB hr hb' rfl hpg setBlock_grownBy ?_) (hstep _ _) trivial)
            refine ⟨_, _, (heap_set hh).1, ?_⟩
            rw [Array.toList_modify]
            have hx2 := (hstep (mPut k l key zz) (.map (es.modify j fun e => { e with key := a.eval ix, val := a.eval y }) clock)).ext (ok0 := ok0) (base := base)
            exact (g8 zz _ (a.eval y) _ hdz hform (fun _ => ⟨rfl, rfl⟩)).mono (fun _ _ h => h.mono hx2.heap) (fun _ _ h => h.mono hx2.heap)
        · cases hk
    · cases hk
  · cases hk
end
end Go.Lift
