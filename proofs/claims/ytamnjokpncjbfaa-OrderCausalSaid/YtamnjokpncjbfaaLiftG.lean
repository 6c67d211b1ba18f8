/- The lifter, part G: addresses, lengths, arithmetic, comparisons. -/
import Derived.Test.YtamnjokpncjbfaaLiftF
namespace Go.Lift
open Go.RowKit

theorem blt_lt {a b : Nat} (h : Nat.blt a b = true) : a < b := by
  have := Nat.le_of_ble_eq_true h
  omega

section
variable {P : Program} {o : Oper} {ρ : Operand → V} {bl : Nat → Option Blk} {β : Type} {r : β}

theorem splitIx_some {β : Type} {i : Int} {kk : Nat → Option β} {r : β} : ∀ {m j : Nat}, splitIx i kk j m = some r → ∃ q, j ≤ q ∧ i = (q : Int) ∧ kk q = some r ∧ q < j + m
  | 0, j, h => by simp [splitIx] at h
  | m + 1, j, h => by
    simp only [splitIx] at h
    cases hd : decide (i = (j : Int)) with
    | true => rw [hd] at h; exact ⟨j, Nat.le_refl _, of_decide_eq_true hd, h, by omega⟩
    | false =>
      rw [hd] at h
      obtain ⟨q, h1, h2, h3, h4⟩ := splitIx_some (m := m) h
      exact ⟨q, by omega, h2, h3, by omega⟩

theorem ival_some {x : V} {k : IntKind} {n : Int} (h : ival x = some (k, n)) : x = .c (.int k n) := by
  unfold ival at h
  split at h
  · simp only [Option.some.injEq, Prod.mk.injEq] at h
    rw [h.1, h.2]
  · cases h

theorem fld_facts {t : TypeId} {ti : TI} {i : TypeInfo} {d : TypeDesc} {z : Value} (f : TFacts P t ti i d z) {k off n : Nat} {g : Bool} (h : ti.flds[k]? = some (off, n, g)) :
    ∃ fs fd j e, d = .struct fs ∧ fs[k]? = some fd ∧ fd.offset = off ∧ P.info? fd.type = some j ∧ j.size = n ∧ P.underlying fd.type = some e ∧ aggOf P fd.type = g := by
  rw [f.flds] at h
  unfold fldsD at h
  split at h
  · rename_i fs
    rw [List.getElem?_map] at h
    cases hk : fs.toList[k]? with
    | none => rw [hk] at h; cases h
    | some fd =>
      rw [hk] at h
      simp only [Option.map_some, Option.some.injEq, Prod.mk.injEq] at h
      have hmem : fd ∈ fs.toList := List.mem_of_getElem? hk
      have hkn := f.known
      simp only [knownD, List.all_eq_true] at hkn
      have h1 := hkn fd hmem
      simp only [Bool.and_eq_true, Option.isSome_iff_exists] at h1
      obtain ⟨⟨j, hj⟩, ⟨e, he⟩⟩ := h1
      refine ⟨fs, fd, j, e, rfl, by simpa using hk, h.1, hj, ?_, he, h.2.2⟩
      rw [← h.2.1]
      simp [Program.cellsOf, hj]
  · simp at h

theorem run_fieldPlace {fd : Field} {j : TypeInfo} (hj : P.info? fd.type = some j) (hs : j.size ≠ 0) (a : Addr) (w : World) : (fieldPlace a fd).run P w = .ok (a.add fd.offset) w := by
  simp [fieldPlace, sizeOf, typeInfo, hj, hs]

theorem sound_fieldAddr {T : TypeId → Option TI} (hT : TOk P T) {kk : K β} {t : TypeId} {x : Operand} {fi : Nat} (ho : o.op = .fieldAddr t x fi) (hk : fieldAddrRun T t (ρ x) fi kk = some r) : Sound P o ρ bl kk r := by
  unfold fieldAddrRun at hk
  split at hk
  · cases hk
  rename_i ti ht
  obtain ⟨i, d, z, f⟩ := hT.facts ht
  split at hk
  · cases hk
  rename_i off n g hf
  obtain ⟨fs, fd, j, e, rfl, hfd, rfl, hj, hjn, he, hg⟩ := fld_facts f hf
  cases hn : Nat.beq n 0 with
  | true => rw [hn] at hk; cases hk
  | false =>
    simp only [hn, cond_false] at hk
    have hs : j.size ≠ 0 := by rw [hjn]; rintro rfl; cases hn
    have hrun : ∀ (a : Act) (w : World) (ad : Addr), a.eval x = .pointer (some ad) → (execOp a.eval o).run P w = .ok (.value (.pointer (some (ad.add fd.offset)))) w := by
      intro a w ad ha
      simp [execOp, ho, ha, Instr.fieldAt, run_underlying f.under, hfd, Instr.sureAddr, run_fieldPlace hj hs]
    split at hk
    · rename_i b of hx
      refine Sound.pure hk fun bl2 _ ok0 base pl w a hr hxs => ?_
      have hv := hxs x (by simp [ho, Op.operands])
      rw [hx] at hv
      obtain ⟨g', hg', hav⟩ := hv
      refine ⟨_, hrun a w _ hav, g', hg', ?_⟩
      rw [Addr.add_lit]
    · rename_i b ver ix of hx
      refine Sound.pure hk fun bl2 _ ok0 base pl w a hr hxs => ?_
      have hv := hxs x (by simp [ho, Op.operands])
      rw [hx] at hv
      obtain ⟨sv, svs, ad, hg', hav, hcur⟩ := hv
      refine ⟨_, hrun a w _ hav, sv, svs, _, hg', rfl, fun t1 e1 ver1 l1 hb1 => ?_⟩
      obtain ⟨h1, h2⟩ := hcur t1 e1 ver1 l1 hb1
      refine ⟨h1, fun he => ?_⟩
      obtain ⟨h3, g', n', c', h4, rfl⟩ := h2 he
      exact ⟨h3, g', n', c', h4, by rw [Addr.add_lit, Nat.add_assoc]⟩
    · rename_i e' x0 of hx
      refine Sound.pure hk fun bl2 _ ok0 base pl w a hr hxs => ?_
      have hv := hxs x (by simp [ho, Op.operands])
      rw [hx] at hv
      obtain ⟨xs, ad, hd, hav, hc⟩ := hv
      refine ⟨_, hrun a w _ hav, xs, _, hd, rfl, fun j' u hj' => ?_⟩
      rw [block_of_add, add_of_add]
      have h2 : (xs.drop of)[fd.offset + j']? = some u := by
        rw [List.getElem?_drop] at hj' ⊢
        rw [← hj']
        congr 1
        omega
      obtain ⟨h3, h4⟩ := hc _ u h2
      exact ⟨h3, h4⟩
    · rename_i b iver ix jx of hx
      refine Sound.pure hk fun bl2 _ ok0 base pl w a hr hxs => ?_
      have hv := hxs x (by simp [ho, Op.operands])
      rw [hx] at hv
      obtain ⟨sv, svs, ad, hg', hav, hcur⟩ := hv
      refine ⟨_, hrun a w _ hav, sv, svs, _, hg', rfl, fun t1 et1 e1 ver1 iver1 hole1 l1 hb1 => ?_⟩
      obtain ⟨h1, h2⟩ := hcur t1 et1 e1 ver1 iver1 hole1 l1 hb1
      refine ⟨h1, fun he => ?_⟩
      obtain ⟨s, xr, h3, h4, h5, g', n', c', h6, rfl⟩ := h2 he
      exact ⟨s, xr, h3, h4, h5, g', n', c', h6, by rw [Addr.add_lit, Nat.add_assoc]⟩
    · cases hk

theorem run_indexAt {t : TypeId} {ti : TI} {i : TypeInfo} {d : TypeDesc} {z : Value} (f : TFacts P t ti i d z) {e : TypeId} {te : TI} {i' : TypeInfo} {d' : TypeDesc} {z' : Value} (fe : TFacts P e te i' d' z') (hd : d = .slice e)
    {k : IntKind} {ix : Int} {ad : Addr} {n c : Nat} (h0 : 0 ≤ ix) (h1 : ix < (n : Int)) (w : World) :
    (Instr.indexAt t (.slice (some ad) n c) (.int k ix)).run P w = .ok (.pointer (some (ad.add (ix.toNat * te.size)))) w := by
  subst hd
  have h := f.under
  simp [Instr.indexAt, asIntOf, run_underlying f.under, h0, h1, run_sizeOf fe]

theorem slice_type {t : TypeId} {ti : TI} {i : TypeInfo} {d : TypeDesc} {z : Value} (f : TFacts P t ti i d z) {e : TypeId} (h : ti.elem = some e) (hl : ti.len = none) : d = .slice e := by
  rw [f.elem] at h
  rw [f.alen] at hl
  cases d <;> simp_all [elemD, lenD]

theorem array_type {t : TypeId} {ti : TI} {i : TypeInfo} {d : TypeDesc} {z : Value} (f : TFacts P t ti i d z) {e : TypeId} {n : Nat} (h : ti.elem = some e) (hl : ti.len = some n) : d = .array n e := by
  rw [f.elem] at h
  rw [f.alen] at hl
  cases d <;> simp_all [elemD, lenD]

theorem slice_ne {w : World} {ok : Nat → Prop} {e : Ty} {l : List e.den} {v : Value} (h : DRep w ok (.slice e) l [v]) {i : Nat} (hi : i < l.length) (hs : 0 < e.size) :
    ∃ ad c u, v = .slice (some ad) l.length c ∧ DRep w ok e (l.getD i e.dflt) u ∧ ∀ j x, u[j]? = some x → ok ad.block ∧ w.cell? (ad.add (i * e.size + j)) = some x := by
  simp only [DRep] at h
  obtain ⟨A, c, xs, hv, hle, hcm, hd, hx⟩ := h
  obtain ⟨u, p, q, hxs, hp, hu⟩ := DList.get e.dflt hd hi
  have hul := hu.length
  have hpos : 0 < u.length := by omega
  have h0 : xs[i * e.size]? = some u[0] := by
    rw [hxs, List.getElem?_append_right (by omega), List.getElem?_append_left (by omega)]
    simp [hp]
  obtain ⟨ad, rfl, _, _⟩ := hx _ _ h0
  simp only [List.cons.injEq, and_true] at hv
  refine ⟨ad, c, u, hv, hu, fun j x hj => ?_⟩
  have hjl : j < u.length := (List.getElem?_eq_some_iff.1 hj).1
  have h1 : xs[i * e.size + j]? = some x := by
    rw [hxs, List.getElem?_append_right (by omega), List.getElem?_append_left (by omega), ← hj]
    congr 1
    omega
  obtain ⟨ad', ha, ho, hc⟩ := hx _ _ h1
  injection ha with ha
  subst ha
  exact ⟨ho, hc⟩

theorem sound_indexAddr {T : TypeId → Option TI} (hT : TOk P T) {kk : K β} {t : TypeId} {x y : Operand} (ho : o.op = .indexAddr t x y) (hk : indexAddrRun T bl t (ρ x) (ρ y) kk = some r) : Sound P o ρ bl kk r := by
  unfold indexAddrRun at hk
  split at hk
  · cases hk
  rename_i k ix hix
  have hy := ival_some hix
  have hyv : ∀ (a : Act) (E : Env), VRep E (ρ y) (a.eval y) → a.eval y = .int k ix := by
    intro a E h
    rw [hy] at h
    exact h
  have hrun : ∀ (a : Act) (w : World), execOp a.eval o = (do pure (.value (← Instr.indexAt t (a.eval x) (a.eval y)))) := by
    intro a w
    simp [execOp, ho]
  split at hk
  · cases hk
  rename_i ti ht
  obtain ⟨i, d, z, f⟩ := hT.facts ht
  split at hk
  · -- slices
    rename_i et hel hal
    have hd := slice_type f hel hal
    split at hk
    · cases hk
    rename_i te hte
    obtain ⟨i', d', z', fe⟩ := hT.facts hte
    split at hk
    · rename_i e l hx
      cases hs : (Nat.beq e.size te.size && Nat.blt 0 te.size) with
      | false => rw [hs] at hk; cases hk
      | true =>
        obtain ⟨hs1, hs2⟩ := andB hs
        have hs1' := Nat.eq_of_beq_eq_true hs1
        have hs2' : 0 < te.size := blt_lt hs2
        simp only [hs, cond_true] at hk
        obtain ⟨hc, hk⟩ := given_some hk
        obtain ⟨hc1, hc2⟩ := andB hc
        have hc1 := of_decide_eq_true hc1
        have hc2 := of_decide_eq_true hc2
        refine Sound.pure hk fun bl2 _ ok0 base pl w a hr hxs => ?_
        have hv := hxs x (by simp [ho, Op.operands])
        have hyv' := hyv a _ (hxs y (by simp [ho, Op.operands]))
        rw [hx] at hv
        obtain ⟨ad, c, u, hav, hu, hcell⟩ := slice_ne hv (i := ix.toNat) (by omega) (by omega)
        refine ⟨.pointer (some (ad.add (ix.toNat * te.size))), ?_, u, _, hu, rfl, fun j x hj => ?_⟩
        · rw [hrun a w, hyv', hav]
          simp [run_indexAt f fe hd hc1 hc2]
        · rw [block_of_add, add_of_add, ← hs1']
          exact hcell j x (by simpa using hj)
    · rename_i b ver hx
      split at hk
      · rename_i t0 e ver' l hb
        cases hs : (Nat.beq ver ver' && (Nat.beq e.size te.size && Nat.blt 0 te.size)) with
        | false => rw [hs] at hk; cases hk
        | true =>
          obtain ⟨hver, hs12⟩ := andB hs
          obtain ⟨hs1, hs2⟩ := andB hs12
          have hs1' := Nat.eq_of_beq_eq_true hs1
          have hs2' : 0 < te.size := blt_lt hs2
          have := Nat.eq_of_beq_eq_true hver
          subst this
          simp only [hs, cond_true] at hk
          obtain ⟨hc, hk⟩ := given_some hk
          obtain ⟨hc1, hc2⟩ := andB hc
          have hc1 := of_decide_eq_true hc1
          have hc2 := of_decide_eq_true hc2
          refine Sound.pure hk fun bl2 hb2 ok0 base pl w a hr hxs => ?_
          have hb' : bl2 b = some (.row t0 e ver l) := (hb2 b (by simp)).trans hb
          have hv := hxs x (by simp [ho, Op.operands])
          have hyv' := hyv a _ (hxs y (by simp [ho, Op.operands]))
          rw [hx] at hv
          obtain ⟨_, sv, svs, hg, hcur⟩ := hv
          have hav := (hcur t0 e ver l hb').2 rfl
          obtain ⟨p, hp, hB⟩ := hr.blks b _ hb'
          have : p = .row sv svs := by have h2 : pl b = some (.row sv svs) := hg; rw [hp] at h2; injection h2
          subst this
          obtain ⟨h0, xs, hd', hown⟩ := hB
          rcases hown.2 with ⟨hsv, hn⟩ | ⟨g, cap, cur, hsv, _⟩
          · omega
          · refine ⟨.pointer (some ((⟨g, 0, none⟩ : Addr).add (ix.toNat * te.size))), ?_, sv, svs, _, hg, rfl, fun t1 e1 ver1 l1 hb1 => ?_⟩
            · rw [hrun a w, hyv', hav, hsv]
              simp [run_indexAt f fe hd hc1 hc2]
            · obtain ⟨h1, h2⟩ := hcur t1 e1 ver1 l1 hb1
              refine ⟨h1, fun he => ?_⟩
              have hb1' : bl2 b = some (.row t1 e1 ver1 l1) := hb1
              rw [hb'] at hb1'
              injection hb1' with hb1'
              injection hb1' with q1 q2 q3 q4
              subst q2
              simp only [heq_eq_eq] at q4
              subst q4
              refine ⟨by omega, g, _, _, hsv, ?_⟩
              rw [Addr.add_lit, hs1']
              simp
      · cases hk
    · -- a part of a row
      rename_i b ver lo hi hx
      split at hk
      · rename_i t0 e ver' l hb
        cases hs : (Nat.beq ver ver' && (Nat.beq e.size te.size && Nat.blt 0 te.size)) with
        | false => rw [hs] at hk; cases hk
        | true =>
          obtain ⟨hver, hs12⟩ := andB hs
          obtain ⟨hs1, hs2⟩ := andB hs12
          have hs1' := Nat.eq_of_beq_eq_true hs1
          have hs2' : 0 < te.size := blt_lt hs2
          have := Nat.eq_of_beq_eq_true hver
          subst this
          simp only [hs, cond_true] at hk
          obtain ⟨hc, hk⟩ := given_some hk
          obtain ⟨hc1, hc2⟩ := andB hc
          have hc1 := of_decide_eq_true hc1
          have hc2 := of_decide_eq_true hc2
          refine Sound.pure hk fun bl2 hb2 ok0 base pl w a hr hxs => ?_
          have hb' : bl2 b = some (.row t0 e ver l) := (hb2 b (by simp)).trans hb
          have hv := hxs x (by simp [ho, Op.operands])
          have hyv' := hyv a _ (hxs y (by simp [ho, Op.operands]))
          rw [hx] at hv
          obtain ⟨_, sv, svs, hg, hcur⟩ := hv
          obtain ⟨q1, q2, A, A', n, c, hsv, hav, hA, _⟩ := (hcur t0 e ver l hb').2 rfl
          obtain ⟨p, hp, hB⟩ := hr.blks b _ hb'
          have : p = .row sv svs := by have h2 : pl b = some (.row sv svs) := hg; rw [hp] at h2; injection h2
          subst this
          obtain ⟨h0, xs, hd', hown⟩ := hB
          have hlt : lo < hi := by omega
          have hA := hA hlt
          rcases hown.2 with ⟨hsv2, hn⟩ | ⟨g, cap, cur, hsv2, _⟩
          · omega
          · have hAg : A = some ⟨g, 0, none⟩ := by rw [hsv] at hsv2; injection hsv2
            subst hAg
            have hA : A' = some ((⟨g, 0, none⟩ : Addr).add (lo * e.size)) := hA
            subst hA
            refine ⟨.pointer (some (((⟨g, 0, none⟩ : Addr).add (lo * e.size)).add (ix.toNat * te.size))), ?_, sv, svs, _, hg, rfl, fun t1 e1 ver1 l1 hb1 => ?_⟩
            · rw [hrun a w, hyv', hav]
              simp [run_indexAt f fe hd hc1 hc2]
            · obtain ⟨h1, _⟩ := hcur t1 e1 ver1 l1 hb1
              refine ⟨h1, fun he => ?_⟩
              have hb1' : bl2 b = some (.row t1 e1 ver1 l1) := hb1
              rw [hb'] at hb1'
              injection hb1' with hb1'
              injection hb1' with q1 q2 q3 q4
              subst q2
              simp only [heq_eq_eq] at q4
              subst q4
              refine ⟨by omega, g, _, _, hsv, ?_⟩
              rw [add_of_add, Addr.add_lit, ← hs1', Nat.add_mul]
              simp
      · cases hk
    · -- a row of a slice of slices
      rename_i b ver hx
      split at hk
      · rename_i t0 et0 e0 ver' iver hole l hb
        cases hs : (Nat.beq ver ver' && Nat.beq 1 te.size) with
        | false => rw [hs] at hk; cases hk
        | true =>
          obtain ⟨hver, hs1⟩ := andB hs
          have hs1' := Nat.eq_of_beq_eq_true hs1
          have := Nat.eq_of_beq_eq_true hver
          subst this
          simp only [hs, cond_true] at hk
          obtain ⟨hc, hk⟩ := given_some hk
          obtain ⟨hc1, hc2⟩ := andB hc
          have hc1 := of_decide_eq_true hc1
          have hc2 := of_decide_eq_true hc2
          refine Sound.pure hk fun bl2 hb2 ok0 base pl w a hr hxs => ?_
          have hb' : bl2 b = some (.mat t0 et0 e0 ver iver hole l) := (hb2 b (by simp)).trans hb
          have hv := hxs x (by simp [ho, Op.operands])
          have hyv' := hyv a _ (hxs y (by simp [ho, Op.operands]))
          rw [hx] at hv
          obtain ⟨_, sv, svs, hg, hcur⟩ := hv
          have hav := (hcur _ _ _ _ _ _ _ hb').2 rfl
          obtain ⟨p, hp, hB⟩ := hr.blks b _ hb'
          have : p = .row sv svs := by have h2 : pl b = some (.row sv svs) := hg; rw [hp] at h2; injection h2
          subst this
          have hM : MatOk _ t0 et0 e0 hole l sv svs := hB
          obtain ⟨vs, hown, _⟩ := hM.outer
          rcases hown.2 with ⟨hsv, hn⟩ | ⟨g, cap, cur, hsv, _⟩
          · omega
          · refine ⟨.pointer (some ((⟨g, 0, none⟩ : Addr).add (ix.toNat * te.size))), ?_, sv, svs, _, hg, rfl, fun t1 et1 e1 ver1 iver1 hole1 l1 hb1 => ?_⟩
            · rw [hrun a w, hyv', hav, hsv]
              simp [run_indexAt f fe hd hc1 hc2]
            · obtain ⟨h1, h2⟩ := hcur t1 et1 e1 ver1 iver1 hole1 l1 hb1
              refine ⟨h1, fun he => ?_⟩
              have hb1' : bl2 b = some (.mat t1 et1 e1 ver1 iver1 hole1 l1) := hb1
              rw [hb'] at hb1'
              injection hb1' with hb1'
              injection hb1' with q1 q2 q3 q4 q5 q6 q7
              subst q3
              simp only [heq_eq_eq] at q7
              subst q7
              refine ⟨by omega, g, _, _, hsv, ?_⟩
              rw [Addr.add_lit, ← hs1']
              simp
      · cases hk
    · -- an element of a row of a slice of slices
      rename_i b iver ri hx
      split at hk
      · rename_i t0 et0 e ver iver' hole l hb
        cases hs : (Nat.beq iver iver' && (Nat.beq e.size te.size && Nat.blt 0 te.size)) with
        | false => rw [hs] at hk; cases hk
        | true =>
          obtain ⟨hver, hs12⟩ := andB hs
          obtain ⟨hs1, hs2⟩ := andB hs12
          have hs1' := Nat.eq_of_beq_eq_true hs1
          have hs2' : 0 < te.size := blt_lt hs2
          have := Nat.eq_of_beq_eq_true hver
          subst this
          simp only [hs, cond_true] at hk
          obtain ⟨hc, hk⟩ := given_some hk
          obtain ⟨hc1, hc2⟩ := andB hc
          have hc1 := of_decide_eq_true hc1
          have hc2 := of_decide_eq_true hc2
          refine Sound.pure hk fun bl2 hb2 ok0 base pl w a hr hxs => ?_
          have hb' : bl2 b = some (.mat t0 et0 e ver iver hole l) := (hb2 b (by simp)).trans hb
          have hv := hxs x (by simp [ho, Op.operands])
          have hyv' := hyv a _ (hxs y (by simp [ho, Op.operands]))
          rw [hx] at hv
          obtain ⟨_, sv, svs, hg, hcur⟩ := hv
          obtain ⟨hri, hss⟩ := (hcur _ _ _ _ _ _ _ hb').2 rfl
          obtain ⟨p, hp, hB⟩ := hr.blks b _ hb'
          have : p = .row sv svs := by have h2 : pl b = some (.row sv svs) := hg; rw [hp] at h2; injection h2
          subst this
          have hM : MatOk _ t0 et0 e hole l sv svs := hB
          obtain ⟨xs, hd', hown⟩ := hM.inner ri (a.eval x) l[ri] hss (List.getElem?_eq_getElem hri)
          have hgd : l.getD ri [] = l[ri] := by simp [List.getD, hri]
          rw [hgd] at hc2
          rcases hown.2 with ⟨hsv, hn⟩ | ⟨g, cap, cur, hsv, _⟩
          · omega
          · refine ⟨.pointer (some ((⟨g, 0, none⟩ : Addr).add (ix.toNat * te.size))), ?_, sv, svs, _, hg, rfl, fun t1 et1 e1 ver1 iver1 hole1 l1 hb1 => ?_⟩
            · rw [hrun a w, hyv', hsv]
              simp [run_indexAt f fe hd hc1 hc2]
            · obtain ⟨h1, h2⟩ := hcur t1 et1 e1 ver1 iver1 hole1 l1 hb1
              refine ⟨h1, fun he => ?_⟩
              have hb1' : bl2 b = some (.mat t1 et1 e1 ver1 iver1 hole1 l1) := hb1
              rw [hb'] at hb1'
              injection hb1' with hb1'
              injection hb1' with q1 q2 q3 q4 q5 q6 q7
              subst q3
              simp only [heq_eq_eq] at q7
              subst q7
              refine ⟨a.eval x, l[ri], List.getElem?_eq_getElem hri, hss, by omega, g, _, _, hsv, ?_⟩
              rw [Addr.add_lit, hs1']
              simp
      · cases hk
    · cases hk
  · -- arrays
    rename_i et n hel hal
    have hd := array_type f hel hal
    subst hd
    split at hk
    · rename_i b off hx
      split at hk
      · rename_i te hte
        obtain ⟨i', d', z', fe⟩ := hT.facts hte
        obtain ⟨j, hj0, hj, hk, hj1⟩ := splitIx_some hk
        have hs' : j < n := by omega
        refine Sound.pure hk fun bl2 hb2 ok0 base pl w a hr hxs => ?_
        have hv := hxs x (by simp [ho, Op.operands])
        have hyv' := hyv a _ (hxs y (by simp [ho, Op.operands]))
        rw [hx] at hv
        obtain ⟨g, hg, hav⟩ := hv
        refine ⟨.pointer (some ((⟨g, off, none⟩ : Addr).add (j * te.size))), ?_, g, hg, by rw [Addr.add_lit]⟩
        rw [hrun a w, hyv', hav, hj]
        simp [Instr.indexAt, asIntOf, run_underlying f.under, Instr.sureAddr, hs', run_sizeOf fe]
      · cases hk
    · cases hk
  · cases hk
end
end Go.Lift
