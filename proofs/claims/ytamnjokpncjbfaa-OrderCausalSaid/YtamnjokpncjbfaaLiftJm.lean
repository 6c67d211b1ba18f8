/- The lifter, part Jm: slices of slices made and grown; copy. -/
import Derived.Test.YtamnjokpncjbfaaLiftJ
import Derived.Laws.CopyRow
namespace Go.Lift
open Go.RowKit

theorem zeroC_nils {v : Value} (h : zeroC v = .nils) : v = .slice none 0 0 := by
  unfold zeroC at h
  split at h
  · rename_i c hc
    subst h
    unfold C.ofValue at hc
    split at hc <;> first | rfl | (simp only [Option.some.injEq] at hc; cases hc) | cases hc
  · cases h

theorem repL_one (v : Value) : ∀ n, repL n [v] = List.replicate n v
  | 0 => rfl
  | n + 1 => by rw [repL, repL_one v n]; rfl

section
variable {P : Program} {o : Oper} {ρ : Operand → V} {bl : Nat → Option Blk} {β : Type} {r : β}

theorem sound_makeMat {T : TypeId → Option TI} (hT : TOk P T) {kk : K β} {nx : Nat} {t : TypeId} {x y : Operand} (ho : o.op = .makeSlice t x y) (hk : makeMatRun T bl nx t (ρ x) (ρ y) kk = some r) : Sound P o ρ bl kk r := by
  have hx0 : x ∈ o.op.operands := by simp [ho, Op.operands]
  have hy0 : y ∈ o.op.operands := by simp [ho, Op.operands]
  unfold makeMatRun at hk
  split at hk
  · rename_i ti ki i kj j ht hi hj
    obtain ⟨inf, d, z, f⟩ := hT.facts ht
    split at hk
    · rename_i et hel hal
      have hd := slice_type f hel hal
      subst hd
      have hu := f.under
      split at hk
      · cases hk
      rename_i te hte
      obtain ⟨i', d', z', fe⟩ := hT.facts hte
      split at hk
      · rename_i e eet hety heel heln hn hz
        cases hs : Nat.beq te.size 1 with
        | false => rw [hs] at hk; cases hk
        | true =>
          have hs1 := Nat.eq_of_beq_eq_true hs
          simp only [hs, cond_true] at hk
          obtain ⟨hc, hk2⟩ := given_some hk
          clear hk
          obtain ⟨c1, hc⟩ := andB hc
          obtain ⟨c2, hc⟩ := andB hc
          obtain ⟨c3, c4⟩ := andB hc
          have c1 := of_decide_eq_true c1
          have c2 := of_decide_eq_true c2
          have c3 := of_decide_eq_true c3
          have c4 := of_decide_eq_true c4
          subst c2
          have hzz : z'.cells.toList = [.slice none 0 0] := by
            have h1 := fe.zeroC
            rw [hz] at h1
            cases hq : z'.cells.toList with
            | nil => rw [hq] at h1; cases h1
            | cons v vs =>
              rw [hq] at h1
              simp only [List.map_cons, List.cons.injEq] at h1
              obtain ⟨h2, h3⟩ := h1
              have h3 : vs = [] := by cases vs with | nil => rfl | cons _ _ => cases h3
              subst h3
              rw [zeroC_nils h2.symm]
          refine ⟨_, _, _, hk2, fun bl2 hb => ?_⟩
          have hn2 : bl2 nx = none := (hb nx (by simp)).trans hn
          intro ok0 base pl w a hr hxs K Q hK
          have hx := hxs x hx0
          have hy := hxs y hy0
          rw [ival_some hi] at hx
          rw [ival_some hj] at hy
          have hx' : a.eval x = .int ki i := hx
          have hy' : a.eval y = .int kj i := hy
          have hzl : z'.cells.size = te.size := by
            have := fe.len
            rw [Array.length_toList] at this
            rw [this, fe.size]
          have hby : (i'.bytes : Int) * i ≤ 281474976710656 := by
            rw [← fe.bytes]
            have : ((i.toNat * te.bytes : Nat) : Int) = (te.bytes : Int) * i := by
              rw [Int.natCast_mul, Int.toNat_of_nonneg c1, Int.mul_comm]
            simp only [roomMax] at c3
            omega
          have hr2 := run_make (P := P) w t et i' z' hu fe.info fe.zero ki kj i i c1 (Int.le_refl _) hby (by omega)
          have hmade : madeCells z'.cells (i.toNat * i'.size) = (repL i.toNat z'.cells.toList).toArray := by
            apply Array.ext'
            rw [← fe.size, ← hzl, made_repL _ (by omega)]
          rw [hmade, hzz, repL_one] at hr2
          have hrun : (execOp a.eval o).run P w = .ok (.value (.slice (some ⟨w.heap.size, 0, none⟩) i.toNat i.toNat)) (w.alloc (.cells (List.replicate i.toNat (Value.slice none 0 0)).toArray et)) := by
            simp [execOp, ho, hx', hy', hr2]
          have hg : w.grownBy (w.alloc (.cells (List.replicate i.toNat (Value.slice none 0 0)).toArray et)) none := World.grownBy_alloc w _ none
          have hsvs : ∀ (k : Nat) (s : Value), (List.replicate i.toNat (some (Value.slice none 0 0)))[k]? = some (some s) → s = .slice none 0 0 ∧ k < i.toNat := fun k s h => by
            obtain ⟨h1, h2⟩ := List.getElem?_eq_some_iff.1 h
            simp only [List.getElem_replicate, Option.some.injEq] at h2
            exact ⟨h2.symm, by simpa using h1⟩
          have hp : ∀ g, (Pl.row (.slice (some ⟨w.heap.size, 0, none⟩) i.toNat i.toNat) (List.replicate i.toNat (some (Value.slice none 0 0)))).has g → w.heap.size ≤ g := by
            intro g hgg
            rcases hgg with hgg | ⟨k, s, hks, hgg⟩
            · simp only [Value.ownBlock, Option.some.injEq] at hgg
              exact Nat.le_of_eq hgg
            · rw [(hsvs k s hks).1] at hgg
              cases hgg
          have hst := Step.new (B := .mat et eet e 0 0 none (List.replicate i.toNat [])) hr hn2 hg hp
          refine wp_of_value hrun (hK _ (upd pl nx (.row (.slice (some ⟨w.heap.size, 0, none⟩) i.toNat i.toNat) (List.replicate i.toNat (some (Value.slice none 0 0))))) _ ?_ hst ?_)
          · refine RelB.new hr hn2 hg hp ⟨⟨List.replicate i.toNat (.slice none 0 0), ⟨by simp, .inr ⟨w.heap.size, i.toNat, _, by simp, hr.baseLe, heap_alloc_new w _, by simp, by simp only [maxLen]; omega, by simp, by simp⟩⟩, fun k s hks => ?_⟩, by simp, fun k hk => ?_, fun k s xx hks hkx => ?_, fun k s g hks hg1 hg2 => ?_, fun k j s s' g hkj hks hjs hg1 => ?_⟩
            · obtain ⟨h1, h2⟩ := hsvs k s hks
              subst h1
              simp [h2]
            · obtain ⟨h1, h2⟩ := List.getElem?_eq_some_iff.1 hk
              simp at h2
            · obtain ⟨h1, h2⟩ := hsvs k s hks
              subst h1
              obtain ⟨_, h4⟩ := List.getElem?_eq_some_iff.1 hkx
              simp only [List.getElem_replicate] at h4
              subst h4
              exact ⟨[], rfl, by simp, .inl ⟨rfl, rfl⟩⟩
            · rw [(hsvs k s hks).1] at hg2
              cases hg2
            · rw [(hsvs k s hks).1] at hg1
              cases hg1
          · refine ⟨rfl, _, _, by simp [envOf, upd]; exact ⟨rfl, rfl⟩, fun t1 et1 e1 ver1 iver1 hole1 l1 h1 => ?_⟩
            simp only [envOf, updL, upd, if_true, Option.some.injEq] at h1
            injection h1 with q1 q2 q3 q4
            subst q4
            exact ⟨Nat.le_refl _, fun _ => rfl⟩
      · cases hk
    · cases hk
  · cases hk

theorem sound_buildMat {T : TypeId → Option TI} (hT : TOk P T) {kk : K β} {nx : Nat} {t : TypeId} {n : Nat} {parts : Array (Nat × Operand)} (ho : o.op = .buildSlice t n parts)
    (hk : buildMatRun T bl nx t n (parts.toList.map fun p => (p.1, ρ p.2)) kk = some r) : Sound P o ρ bl kk r := by
  unfold buildMatRun at hk
  split at hk
  · rename_i rr rv hparts
    split at hk
    · cases hk
    rename_i ti ht
    obtain ⟨i, d, z, f⟩ := hT.facts ht
    split at hk
    · rename_i et hel hal
      have hd := slice_type f hel hal
      subst hd
      have hu := f.under
      split at hk
      · cases hk
      rename_i te hte
      obtain ⟨i', d', z', fe⟩ := hT.facts hte
      split at hk
      · rename_i eet et1 e rv' xr heel heln hbr hn
        cases hc : (Nat.beq n 1 && (Nat.beq te.size 1 && (Nat.beq rv rv' && Nat.beq et1 eet))) with
        | false => rw [hc] at hk; cases hk
        | true =>
          simp only [hc, cond_true] at hk
          obtain ⟨c1, hc⟩ := andB hc
          obtain ⟨c2, hc⟩ := andB hc
          obtain ⟨c3, c4⟩ := andB hc
          have := Nat.eq_of_beq_eq_true c1
          subst this
          have hs1 := Nat.eq_of_beq_eq_true c2
          have := Nat.eq_of_beq_eq_true c3
          subst this
          have := Nat.eq_of_beq_eq_true c4
          subst this
          obtain ⟨x, hpx, hxv⟩ : ∃ x, parts.toList = [(0, x)] ∧ ρ x = .c (.row rr rv) := by
            cases hq : parts.toList with
            | nil => rw [hq] at hparts; cases hparts
            | cons p ps =>
              rw [hq] at hparts
              simp only [List.map_cons, List.cons.injEq, Prod.mk.injEq, List.map_eq_nil_iff] at hparts
              obtain ⟨⟨h1, h2⟩, h3⟩ := hparts
              obtain ⟨p1, p2⟩ := p
              simp only at h1 h2
              subst h1 h3
              exact ⟨p2, rfl, h2⟩
          have hx0 : x ∈ o.op.operands := by simp only [ho, Op.operands]; exact List.mem_toArray.2 (List.mem_map.2 ⟨(0, x), by rw [hpx]; simp, rfl⟩)
          refine ⟨_, _, _, hk, fun bl2 hb => ?_⟩
          have hn2 : bl2 nx = none := (hb nx (by simp)).trans hn
          have hbr' : bl2 rr = some (.row et1 e rv xr) := (hb rr (by simp)).trans hbr
          intro ok0 base pl w a hr hxs K Q hK
          have hrn : rr ≠ nx := by rintro rfl; rw [hbr'] at hn2; cases hn2
          have hv := hxs x hx0
          rw [hxv] at hv
          obtain ⟨h1y, sr, svr, hpr, hcr⟩ := hv
          have hav := (hcr _ _ _ _ hbr').2 rfl
          have hpr : pl rr = some (.row sr svr) := hpr
          obtain ⟨pr, hpr', hBr⟩ := hr.blks rr _ hbr'
          have : pr = .row sr svr := by rw [hpr] at hpr'; injection hpr' with h; exact h.symm
          subst this
          obtain ⟨h0, xs, hd, hown⟩ := hBr
          subst h0
          have hzl : z'.cells.size = te.size := by
            have := fe.len
            rw [Array.length_toList] at this
            rw [this, fe.size]
          obtain ⟨z0, hz0⟩ : ∃ z0, z'.cells = #[z0] := by
            have : z'.cells.size = 1 := by omega
            exact Array.size_eq_one_iff.1 this
          have hone : sr.cells.toList = [sr] := by
            rcases hown.2 with ⟨h, _⟩ | ⟨g, cap, cur, h, _⟩ <;> rw [h] <;> rfl
          have hca : sr.cells = #[sr] := by
            apply Array.ext'
            rw [hone]
          have hfill : Instr.fill (fun i => some (i * te.size, te.size)) #[z0] [(0, a.eval x)] = some #[sr] := by
            rw [hav]
            simp [Instr.fill, hca, hs1]
          have hrun : (execOp a.eval o).run P w = .ok (.value (.slice (some ⟨w.heap.size, 0, none⟩) 1 1)) (w.alloc (.cells #[sr] et)) := by
            have e0 : (Array.range (1 * te.size)).map (fun x => z'.cells[x % z'.cells.size]!) = #[z0] := by
              have hmade : madeCells z'.cells (1 * te.size) = (repL 1 z'.cells.toList).toArray := by
                apply Array.ext'
                rw [← hzl, made_repL _ (by omega)]
              have h5 : (repL 1 z'.cells.toList).toArray = #[z0] := by rw [hz0]; rfl
              exact hmade.trans h5
            have h0 : ¬ (1 * te.size > 2 ^ 24) := by rw [hs1]; decide
            have h2 : ¬ (1 * te.size = 0) := by omega
            have hpm : (parts.map fun p => (p.1, a.eval p.2)).toList = [(0, a.eval x)] := by rw [Array.toList_map, hpx]; rfl
            simp only [execOp, ho, Instr.buildSlice, run_underlying hu, run_sizeOf fe, Sem.run_bind, Result.andThen_ok, h0, if_false, Sem.run_pure, h2, zeroValue, typeInfo, run_program, fe.info, fe.zero, e0, hpm, hfill, newRow, run_newObj]
            rfl
          have hg : w.grownBy (w.alloc (.cells #[sr] et)) none := World.grownBy_alloc w _ none
          have hsvs : ∀ (k : Nat) (s : Value), [some sr][k]? = some (some s) → k = 0 ∧ s = sr := fun k s h => by
            cases k with
            | zero => simp at h; exact ⟨rfl, h.symm⟩
            | succ k => simp at h
          have hownr : ∀ g, sr.ownBlock = some g → OwnAt pl bl2 rr g := fun g h => ⟨_, _, hbr', rfl, hpr, .inl h⟩
          have hltr : ∀ g, sr.ownBlock = some g → g < w.heap.size := fun g h => Own.lt hr ⟨rr, _, _, hbr', rfl, hpr, .inl h⟩
          have hpn := hr.fresh nx hn2
          have hhas : ∀ g, (Pl.row (.slice (some ⟨w.heap.size, 0, none⟩) 1 1) [some sr]).has g → OwnAt pl bl2 rr g ∨ OwnAt pl bl2 nx g ∨ w.heap.size ≤ g := fun g h => by
            rcases h with h | ⟨k, s, hks, h⟩
            · simp only [Value.ownBlock, Option.some.injEq] at h
              exact .inr (.inr (Nat.le_of_eq h))
            · rw [(hsvs k s hks).2] at h
              exact .inl (hownr g h)
          have hst : Step pl bl2 w (upd (upd pl rr (.row sr [])) nx (.row (.slice (some ⟨w.heap.size, 0, none⟩) 1 1) [some sr])) (upd (upd bl2 rr .dead) nx (.mat et et1 e 0 0 none [xr])) (w.alloc (.cells #[sr] et)) := by
            refine Step.two hr hrn hg (fun g h => by cases h) (fun g h => by cases h) (fun g _ h => hhas g h) (fun g h => by rw [hpr] at h; cases h) (fun g h => by rw [hpn] at h; cases h) (fun sv0 svs0 h => ?_) (fun sv0 svs0 h => by rw [hpn] at h; cases h)
            rw [hpr] at h
            injection h with h
            injection h with h h2
            subst h h2
            exact ⟨_, _, rfl, KeepR.ofDead⟩
          have hext := hst.ext (ok0 := ok0) (base := base)
          refine wp_of_value hrun (hK _ (upd (upd pl rr (.row sr [])) nx (.row (.slice (some ⟨w.heap.size, 0, none⟩) 1 1) [some sr])) _ ?_ hst ?_)
          · refine RelB.two hr hrn hg (fun g h => by cases h) (fun g h => by cases h) (fun g _ h => hhas g h) (fun g h => by cases h) hst trivial ?_
            refine ⟨⟨[sr], ⟨by simp, .inr ⟨w.heap.size, 1, #[sr], rfl, hr.baseLe, heap_alloc_new w _, Nat.le_refl _, by simp [maxLen], by simp, by simp⟩⟩, fun k s hks => ?_⟩, rfl, fun k hk => ?_, fun k s xx hks hkx => ?_, fun k s g hks hg1 hg2 => ?_, fun k j s s' g hkj hks hjs hg1 => ?_⟩
            · obtain ⟨rfl, rfl⟩ := hsvs k s hks
              rfl
            · cases k with
              | zero => simp at hk
              | succ k => simp at hk
            · obtain ⟨rfl, rfl⟩ := hsvs k s hks
              simp only [List.getElem?_cons_zero, Option.some.injEq] at hkx
              subst hkx
              exact ⟨xs, hd.mono fun x u hu => hu.mono hext.heap, ownsRow_mono (Nat.le_refl _) (fun g h => hg.block g (hltr g h) (by simp)) hown⟩
            · rw [(hsvs k s hks).2] at hg2
              have := hltr g hg2
              simp only [Value.ownBlock, Option.some.injEq] at hg1
              omega
            · exact absurd ((hsvs k s hks).1.trans (hsvs j s' hjs).1.symm) hkj
          · refine ⟨rfl, _, _, by simp [envOf, upd]; exact ⟨rfl, rfl⟩, fun t1 et2 e1 ver1 iver1 hole1 l1 h1 => ?_⟩
            simp only [envOf, updL, upd, if_true, Option.some.injEq] at h1
            injection h1 with q1 q2 q3 q4
            subst q4
            exact ⟨Nat.le_refl _, fun _ => rfl⟩
      · cases hk
    · cases hk
  · cases hk

/-- append of one's own cells onto one's own. -/
theorem run_append_raw {w : World} (base : Nat) {t ty et : TypeId} {te : TI} {i : TypeInfo} {d : TypeDesc} {z : Value} (fe : TFacts P et te i d z) (ht : P.underlying t = some (.slice et)) (hpos : 0 < te.size) (hby : 0 < te.bytes)
    {v : Value} {n : Nat} {xs : List Value} (hown : w.ownsRow base et te.size v n xs) {src : Value} {m base2 : Nat} {ys : List Value} (hsrc : w.ownsRow base2 et te.size src m ys) (h1 : ∀ u ∈ ys, u.oneCell' = true) (hroom : (n + m) * te.bytes ≤ roomMax) (hbase : base ≤ w.heap.size) :
    ∃ v' w', (Builtin.append_ #[t, t] ty #[v, src]).run P w = .ok v' w' ∧ w'.ownsRow base et te.size v' (n + m) (xs ++ ys) ∧ w.grownBy w' v.ownBlock ∧ (v'.ownBlock = v.ownBlock ∨ v'.ownBlock = some w.heap.size) := by
  have hsize : i.size = te.size := fe.size.symm
  have hzs : z.cells.size = te.size := by
    have := fe.len
    rw [Array.length_toList] at this
    rw [this, hsize]
  have hroom' : (n + m) * i.bytes ≤ 140737488355328 := by rw [← fe.bytes]; exact hroom
  have h63 : n + m ≤ maxLen := by
    have h2 : n + m ≤ (n + m) * te.bytes := Nat.le_mul_of_pos_right _ hby
    simp only [roomMax] at hroom
    simp only [maxLen]
    omega
  have hs := hsrc
  rcases hsrc.2 with ⟨rfl, rfl⟩ | ⟨g, cap, cur, rfl, _⟩
  · have hy : ys = [] := by
      have := hsrc.1
      exact List.eq_nil_of_length_eq_zero (by simpa using this)
    subst hy
    refine ⟨v, w, ?_, by simpa using hown, ⟨rfl, rfl, rfl, Nat.le_refl _, fun _ _ _ => rfl⟩, .inl rfl⟩
    rcases hown.2 with ⟨rfl, rfl⟩ | ⟨g, cap, cur, rfl, _, _, hnc, _⟩
    · simp [Builtin.append_, run_underlying ht, sizeOf, typeInfo, fe.info, Builtin.lenOf, Builtin.firstCells]
    · simp [Builtin.append_, run_underlying ht, sizeOf, typeInfo, fe.info, Builtin.lenOf, Builtin.firstCells, hnc, storeCells]
  · obtain ⟨v', w', hrun, h2, h3, _, h5⟩ := run_append_own_at (P := P) w base t ty et i z te.size i.bytes ht fe.info fe.zero hsize rfl hzs hpos v n xs hown ⟨g, 0, none⟩ m cap ys hs.1
      (fun j u hj => hs.cells (g := g) rfl j u hj) h1 h63 hroom' hbase
    exact ⟨v', w', hrun, h2, h3, h5⟩
end
end Go.Lift
