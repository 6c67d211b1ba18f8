/- The lifter, part I: slices cut, lengths, append. -/
import Derived.Test.YtamnjokpncjbfaaLiftH
import Derived.MapKept
import Derived.Maps.AppendAt
import Derived.Lib.Strings
namespace Go.Lift
open Go.RowKit

theorem MRep.length {w : World} {ok : Nat → Prop} {k v : Ty} {vg : Bool} : ∀ {l : List (k.den × v.den)} {es : List MapEntry}, MRep w ok k v vg l es → es.length = l.length
  | [], _, h => by simp only [MRep] at h; simp [h]
  | _ :: l, _, ⟨e, r, h0, _, _, h4⟩ => by rw [h0, List.length_cons, List.length_cons, MRep.length h4]

theorem str_type {P : Program} {t : TypeId} {ti : TI} {i : TypeInfo} {d : TypeDesc} {z : Value} (f : TFacts P t ti i d z) (h : ti.isStr = true) : d = .string := by
  rw [f.isStr] at h
  cases d <;> simp_all [isStrD]

theorem extract_bytes (l : List UInt8) (a b : Nat) : (⟨l.toArray⟩ : ByteArray).extract a b = ⟨((l.take b).drop a).toArray⟩ := by
  apply ByteArray.ext
  apply Array.ext'
  rw [Lib.extract_data]
  simp only
  rw [List.drop_take]

section
variable {P : Program} {o : Oper} {ρ : Operand → V} {bl : Nat → Option Blk} {β : Type} {r : β}

theorem isSlice_type {t : TypeId} {ti : TI} {i : TypeInfo} {d : TypeDesc} {z : Value} (f : TFacts P t ti i d z) (h : isSlice ti = true) : ∃ e, d = .slice e := by
  unfold isSlice at h
  split at h
  · rename_i e h1 h2
    exact ⟨e, slice_type f h1 h2⟩
  · cases h

theorem run_builtin_len {w : World} {a : Act} {x : Operand} {c : Call} {t : TypeId} (ho : o.op = .call c) (hc : c.callee = .builtin .len) (ha : c.args.toList = [x]) (ht : c.argTypes.toList = [t]) {v : Value}
    (h : (Builtin.len_ #[t] o.type #[a.eval x]).run P w = .ok v w) : (execOp a.eval o).run P w = .ok (.value v) w := by
  have h1 : c.args = #[x] := by rw [← Array.toArray_toList (xs := c.args), ha]
  have h2 : c.argTypes = #[t] := by rw [← Array.toArray_toList (xs := c.argTypes), ht]
  simp [execOp, ho, resolve, hc, h1, h2, invoke, builtin, h]

theorem sound_len {T : TypeId → Option TI} (hT : TOk P T) {kk : K β} {c : Call} (ho : o.op = .call c) (hc : c.callee = .builtin .len) {x : Operand} {t : TypeId} (ha : c.args.toList = [x]) (hty : c.argTypes.toList = [t]) (hk : lenRun T bl t (ρ x) kk = some r) : Sound P o ρ bl kk r := by
  have hx0 : x ∈ o.op.operands := by
    have h1 : c.args = #[x] := by rw [← Array.toArray_toList (xs := c.args), ha]
    simp [ho, Op.operands, Call.operands, h1]
  unfold lenRun at hk
  split at hk
  · cases hk
  rename_i ti ht
  obtain ⟨i, d, z, f⟩ := hT.facts ht
  have hu := f.under
  split at hk
  · rename_i s hx
    cases hs : ti.isStr with
    | false => rw [hs] at hk; cases hk
    | true =>
      simp only [hs, cond_true] at hk
      have := str_type f hs
      subst this
      refine Sound.pure hk fun bl2 _ ok0 base pl w act hr hxs => ⟨_, run_builtin_len ho hc ha hty (v := .int .i64 (s.length : Int)) ?_, rfl⟩
      have h1 := hxs x hx0
      rw [hx] at h1
      have h1' : act.eval x = .string ⟨s.toArray⟩ := h1
      simp [Builtin.len_, h1', run_underlying hu, goInt]
      rfl
  · rename_i e l hx
    cases hs : isSlice ti with
    | false => rw [hs] at hk; cases hk
    | true =>
      simp only [hs, cond_true] at hk
      obtain ⟨et, rfl⟩ := isSlice_type f hs
      refine Sound.pure hk fun bl2 _ ok0 base pl w act hr hxs => ⟨_, run_builtin_len ho hc ha hty (v := .int .i64 (l.length : Int)) ?_, rfl⟩
      have h1 := hxs x hx0
      rw [hx] at h1
      have h1' : DRep w _ (.slice e) l [act.eval x] := h1
      simp only [DRep] at h1'
      obtain ⟨A, cc, xs, hv, _⟩ := h1'
      simp only [List.cons.injEq, and_true] at hv
      simp [Builtin.len_, hv, run_underlying hu, goInt]
  · rename_i hx
    cases hs : isSlice ti with
    | false => rw [hs] at hk; cases hk
    | true =>
      simp only [hs, cond_true] at hk
      obtain ⟨et, rfl⟩ := isSlice_type f hs
      refine Sound.pure hk fun bl2 _ ok0 base pl w act hr hxs => ⟨_, run_builtin_len ho hc ha hty (v := .int .i64 0) ?_, rfl⟩
      have h1 := hxs x hx0
      rw [hx] at h1
      have h1' : act.eval x = .slice none 0 0 := h1
      simp [Builtin.len_, h1', run_underlying hu, goInt]
  · rename_i b ver hx
    split at hk
    · rename_i t0 e ver' l hb
      cases hs : (Nat.beq ver ver' && isSlice ti) with
      | false => rw [hs] at hk; cases hk
      | true =>
        obtain ⟨hver, hs1⟩ := andB hs
        have := Nat.eq_of_beq_eq_true hver
        subst this
        simp only [hs, cond_true] at hk
        obtain ⟨et, rfl⟩ := isSlice_type f hs1
        refine Sound.pure hk fun bl2 hb2 ok0 base pl w act hr hxs => ⟨_, run_builtin_len ho hc ha hty (v := .int .i64 (l.length : Int)) ?_, rfl⟩
        have hb' : bl2 b = some (.row t0 e ver l) := (hb2 b (by simp)).trans hb
        have hv := hxs x hx0
        rw [hx] at hv
        obtain ⟨_, sv, svs, hg, hcur⟩ := hv
        have hav := (hcur t0 e ver l hb').2 rfl
        obtain ⟨p, hp, hB⟩ := hr.blks b _ hb'
        have : p = .row sv svs := by have h2 : pl b = some (.row sv svs) := hg; rw [hp] at h2; injection h2
        subst this
        obtain ⟨_, xs, hd', hown⟩ := hB
        rcases hown.2 with ⟨hsv, hn⟩ | ⟨g, cap, cur, hsv, _⟩
        · simp [Builtin.len_, hav, hsv, run_underlying hu, goInt, hn]
        · simp [Builtin.len_, hav, hsv, run_underlying hu, goInt]
    · cases hk
  · rename_i b ver lo hi hx
    split at hk
    · rename_i t0 e ver' l hb
      cases hs : (Nat.beq ver ver' && isSlice ti) with
      | false => rw [hs] at hk; cases hk
      | true =>
        obtain ⟨hver, hs1⟩ := andB hs
        have := Nat.eq_of_beq_eq_true hver
        subst this
        simp only [hs, cond_true] at hk
        obtain ⟨et, rfl⟩ := isSlice_type f hs1
        refine Sound.pure hk fun bl2 hb2 ok0 base pl w act hr hxs => ⟨_, run_builtin_len ho hc ha hty (v := .int .i64 ((hi - lo : Nat) : Int)) ?_, rfl⟩
        have hb' : bl2 b = some (.row t0 e ver l) := (hb2 b (by simp)).trans hb
        have hv := hxs x hx0
        rw [hx] at hv
        obtain ⟨_, sv, svs, hg, hcur⟩ := hv
        obtain ⟨_, _, A, A', n, cc, _, hav, _⟩ := (hcur t0 e ver l hb').2 rfl
        simp [Builtin.len_, hav, run_underlying hu, goInt]
    · cases hk
  · rename_i b ver hx
    split at hk
    · rename_i t0 et0 e ver' iver hole l hb
      cases hs : (Nat.beq ver ver' && isSlice ti) with
      | false => rw [hs] at hk; cases hk
      | true =>
        obtain ⟨hver, hs1⟩ := andB hs
        have := Nat.eq_of_beq_eq_true hver
        subst this
        simp only [hs, cond_true] at hk
        obtain ⟨et, rfl⟩ := isSlice_type f hs1
        refine Sound.pure hk fun bl2 hb2 ok0 base pl w act hr hxs => ⟨_, run_builtin_len ho hc ha hty (v := .int .i64 (l.length : Int)) ?_, rfl⟩
        have hb' : bl2 b = some (.mat t0 et0 e ver iver hole l) := (hb2 b (by simp)).trans hb
        have hv := hxs x hx0
        rw [hx] at hv
        obtain ⟨_, sv, svs, hg, hcur⟩ := hv
        have hav := (hcur _ _ _ _ _ _ _ hb').2 rfl
        obtain ⟨p, hp, hB⟩ := hr.blks b _ hb'
        have : p = .row sv svs := by have h2 : pl b = some (.row sv svs) := hg; rw [hp] at h2; injection h2
        subst this
        have hM : MatOk _ t0 et0 e hole l sv svs := hB
        obtain ⟨vs, hown, _⟩ := hM.outer
        rcases hown.2 with ⟨hsv, hn⟩ | ⟨g, cap, cur, hsv, _⟩
        · simp [Builtin.len_, hav, hsv, run_underlying hu, goInt, hn]
        · simp [Builtin.len_, hav, hsv, run_underlying hu, goInt]
    · cases hk
  · rename_i b iver ri hx
    split at hk
    · rename_i t0 et0 e ver iver' hole l hb
      cases hs : (Nat.beq iver iver' && isSlice ti) with
      | false => rw [hs] at hk; cases hk
      | true =>
        obtain ⟨hver, hs1⟩ := andB hs
        have := Nat.eq_of_beq_eq_true hver
        subst this
        simp only [hs, cond_true] at hk
        obtain ⟨et, rfl⟩ := isSlice_type f hs1
        refine Sound.pure hk fun bl2 hb2 ok0 base pl w act hr hxs => ⟨_, run_builtin_len ho hc ha hty (v := .int .i64 ((l.getD ri []).length : Int)) ?_, rfl⟩
        have hb' : bl2 b = some (.mat t0 et0 e ver iver hole l) := (hb2 b (by simp)).trans hb
        have hv := hxs x hx0
        rw [hx] at hv
        obtain ⟨_, sv, svs, hg, hcur⟩ := hv
        obtain ⟨hri, hss⟩ := (hcur _ _ _ _ _ _ _ hb').2 rfl
        obtain ⟨p, hp, hB⟩ := hr.blks b _ hb'
        have : p = .row sv svs := by have h2 : pl b = some (.row sv svs) := hg; rw [hp] at h2; injection h2
        subst this
        have hM : MatOk _ t0 et0 e hole l sv svs := hB
        obtain ⟨xs, hd', hown⟩ := hM.inner ri (act.eval x) l[ri] hss (List.getElem?_eq_getElem hri)
        have hgd : l.getD ri [] = l[ri] := by simp [List.getD, hri]
        rw [hgd]
        rcases hown.2 with ⟨hsv, hn⟩ | ⟨g, cap, cur, hsv, _⟩
        · simp [Builtin.len_, hsv, run_underlying hu, goInt, hn]
        · simp [Builtin.len_, hsv, run_underlying hu, goInt]
    · cases hk
  · rename_i b hx
    split at hk
    · rename_i t0 k0 v0 vg l mp hb hmp
      obtain ⟨kt, vt, rfl⟩ : ∃ kt vt, d = .map kt vt := by
        have h1 := f.mp
        rw [hmp] at h1
        cases d <;> simp [mpD] at h1
        exact ⟨_, _, rfl⟩
      refine Sound.pure hk fun bl2 hb2 ok0 base pl w act hr hxs => ⟨_, run_builtin_len ho hc ha hty (v := .int .i64 (l.length : Int)) ?_, rfl⟩
      have hb' : bl2 b = some (.map t0 k0 v0 vg l) := (hb2 b (by simp)).trans hb
      have hv := hxs x hx0
      rw [hx] at hv
      obtain ⟨g, hg, hav⟩ := hv
      obtain ⟨p, hp, hB⟩ := hr.blks b _ hb'
      have : p = .cells g := by have h2 : pl b = some (.cells g) := hg; rw [hp] at h2; injection h2
      subst this
      obtain ⟨es, clock, hh, hm⟩ := hB
      have hlen : es.size = l.length := by
        rw [← Array.length_toList]
        exact hm.length
      simp [Builtin.len_, hav, run_underlying hu, goInt, MapKept.run_getObj_map (show w.heap[g]? = some (.map es clock) from hh), hlen, Result.andThen]
    · cases hk
  · cases hk

/-! ### A slice or a string cut -/
theorem boundV_rep {E : Env} {a : Act} {lo : Option Operand} {d n : Int} (h : boundV (lo.map ρ) d = some n) (hx : ∀ x, lo = some x → VRep E (ρ x) (a.eval x)) :
    (lo = none ∧ n = d) ∨ ∃ x k, lo = some x ∧ a.eval x = .int k n := by
  cases lo with
  | none => simp only [Option.map_none, boundV, Option.some.injEq] at h; exact .inl ⟨rfl, h.symm⟩
  | some x =>
    simp only [Option.map_some, boundV] at h
    split at h
    · rename_i k m hm
      simp only [Option.some.injEq] at h
      subst h
      have h1 := hx x rfl
      rw [ival_some hm] at h1
      exact .inr ⟨x, k, rfl, h1⟩
    · cases h

theorem run_sliceBound {k : IntKind} {n : Int} {y : Nat} {code : BoundsCode} (h0 : 0 ≤ n) (h1 : n ≤ (y : Int)) (w : World) : (Instr.sliceBound (.int k n) y code).run P w = .ok n.toNat w := by
  simp [Instr.sliceBound, asIntOf, h0, h1]

theorem run_sliceBounds {isSl : Bool} {len cap : Nat} {a : Act} {lo hi : Option Operand} {m n : Int} (hlo : (lo = none ∧ m = 0) ∨ ∃ x k, lo = some x ∧ a.eval x = .int k m) (hhi : (hi = none ∧ n = (len : Int)) ∨ ∃ x k, hi = some x ∧ a.eval x = .int k n)
    (h0 : 0 ≤ m) (h1 : m ≤ n) (h2 : n ≤ (cap : Int)) (w : World) : (Instr.sliceBounds isSl len cap (lo.map a.eval) (hi.map a.eval) none).run P w = .ok (m.toNat, n.toNat, cap) w := by
  have hn : (n.toNat : Int) = n := Int.toNat_of_nonneg (by omega)
  unfold Instr.sliceBounds
  rcases hlo with ⟨rfl, rfl⟩ | ⟨x, k, rfl, hx⟩ <;> rcases hhi with ⟨rfl, rfl⟩ | ⟨y, k', rfl, hy⟩
  · simp
  · simp [hy, run_sliceBound (P := P) (k := k') (by omega) h2]
  · simp [hx, run_sliceBound (P := P) (k := k) h0 h1]
  · simp [hx, hy, run_sliceBound (P := P) (k := k') (by omega) h2, run_sliceBound (P := P) (k := k) (y := n.toNat) h0 (by omega)]

theorem sound_slice {T : TypeId → Option TI} (hT : TOk P T) {kk : K β} {t : TypeId} {x : Operand} {lo hi : Option Operand} (ho : o.op = .slice t x lo hi none) (hk : sliceRun T bl t (ρ x) (lo.map ρ) (hi.map ρ) kk = some r) : Sound P o ρ bl kk r := by
  have hx0 : x ∈ o.op.operands := by simp [ho, Op.operands]
  have hlo0 : ∀ y, lo = some y → y ∈ o.op.operands := by rintro y rfl; simp [ho, Op.operands]
  have hhi0 : ∀ y, hi = some y → y ∈ o.op.operands := by rintro y rfl; simp [ho, Op.operands]
  unfold sliceRun at hk
  split at hk
  · cases hk
  rename_i ti ht
  obtain ⟨i, d, z, f⟩ := hT.facts ht
  have hu := f.under
  split at hk
  · rename_i s hx
    cases hs : ti.isStr with
    | false => rw [hs] at hk; cases hk
    | true =>
      simp only [hs, cond_true] at hk
      have := str_type f hs
      subst this
      split at hk
      · rename_i m n hm hn
        obtain ⟨hc, hk⟩ := given_some hk
        obtain ⟨c1, c23⟩ := andB hc
        obtain ⟨c2, c3⟩ := andB c23
        have c1 := of_decide_eq_true c1
        have c2 := of_decide_eq_true c2
        have c3 := of_decide_eq_true c3
        refine Sound.pure hk fun bl2 _ ok0 base pl w act hr hxs => ⟨.string ⟨((s.take n.toNat).drop m.toNat).toArray⟩, ?_, rfl⟩
        have h1 := hxs x hx0
        rw [hx] at h1
        have h1' : act.eval x = .string ⟨s.toArray⟩ := h1
        have hsz : (⟨s.toArray⟩ : ByteArray).size = s.length := rfl
        have hb := run_sliceBounds (P := P) (isSl := false) (len := s.length) (cap := s.length) (boundV_rep hm fun y hy => hxs y (hlo0 y hy)) (boundV_rep hn fun y hy => hxs y (hhi0 y hy)) c1 c2 c3 w
        simp [execOp, ho, Instr.sliceAt, run_underlying hu, Instr.slice, h1', hsz, hb, extract_bytes]
      · cases hk
  · rename_i e l hx
    split at hk
    · rename_i et hel hal
      have hd := slice_type f hel hal
      subst hd
      split at hk
      · cases hk
      rename_i te hte
      obtain ⟨i', d', z', fe⟩ := hT.facts hte
      cases hs : (Nat.beq e.size te.size && Nat.blt 0 te.size) with
      | false => rw [hs] at hk; cases hk
      | true =>
        obtain ⟨hs1, hs2⟩ := andB hs
        have hs1 := Nat.eq_of_beq_eq_true hs1
        simp only [hs, cond_true] at hk
        split at hk
        · rename_i m n hm hn
          obtain ⟨hc, hk⟩ := given_some hk
          obtain ⟨c1, c23⟩ := andB hc
          obtain ⟨c2, c3⟩ := andB c23
          have c1 := of_decide_eq_true c1
          have c2 := of_decide_eq_true c2
          have c3 := of_decide_eq_true c3
          refine Sound.pure hk fun bl2 _ ok0 base pl w act hr hxs => ?_
          have h1 := hxs x hx0
          rw [hx] at h1
          have h1' : DRep w (envOf ok0 base pl bl2 w).ok (.slice e) l [act.eval x] := h1
          simp only [DRep] at h1'
          obtain ⟨A, cc, xs, hv, hle, hcm, hdl, hcell⟩ := h1'
          simp only [List.cons.injEq, and_true] at hv
          have hb := run_sliceBounds (P := P) (isSl := true) (len := l.length) (cap := cc) (boundV_rep hm fun y hy => hxs y (hlo0 y hy)) (boundV_rep hn fun y hy => hxs y (hhi0 y hy)) c1 c2 (by omega) w
          refine ⟨.slice (if cc = m.toNat then A else A.map (·.add (m.toNat * te.size))) (n.toNat - m.toNat) (cc - m.toNat), ?_, ?_⟩
          · simp [execOp, ho, Instr.sliceAt, run_underlying hu, Instr.slice, hv, hb, run_sizeOf fe]
          · show DRep w (envOf ok0 base pl bl2 w).ok (.slice e) ((l.take n.toNat).drop m.toNat) [_]
            simp only [DRep]
            have hlen : ((l.take n.toNat).drop m.toNat).length = n.toNat - m.toNat := by simp; omega
            refine ⟨_, _, (xs.take (n.toNat * e.size)).drop (m.toNat * e.size), by rw [hlen], by rw [hlen]; omega, by omega, (hdl.take _).drop _, fun j v hj => ?_⟩
            rw [List.getElem?_drop, List.getElem?_take] at hj
            split at hj
            · rename_i hlt
              obtain ⟨ad, rfl, ho', hc'⟩ := hcell _ _ hj
              by_cases hcc : cc = m.toNat
              · exfalso
                have hnm : n.toNat = m.toNat := by omega
                rw [hnm] at hlt
                omega
              · refine ⟨ad.add (m.toNat * te.size), by rw [if_neg hcc]; rfl, by rw [block_of_add]; exact ho', ?_⟩
                rw [add_of_add, ← hs1]
                exact hc'
            · cases hj
        · cases hk
    · cases hk
  · -- a part of a row of one's own
    rename_i bb ver hx
    split at hk
    · rename_i et hel hal
      have hd := slice_type f hel hal
      subst hd
      split at hk
      · cases hk
      rename_i te hte
      obtain ⟨i', d', z', fe⟩ := hT.facts hte
      split at hk
      · rename_i t0 e ver' l hb
        cases hs : (Nat.beq ver ver' && (Nat.beq e.size te.size && Nat.blt 0 te.size)) with
        | false => rw [hs] at hk; cases hk
        | true =>
          obtain ⟨hver, hs12⟩ := andB hs
          obtain ⟨hs1, hs2⟩ := andB hs12
          have hs1 := Nat.eq_of_beq_eq_true hs1
          have := Nat.eq_of_beq_eq_true hver
          subst this
          simp only [hs, cond_true] at hk
          split at hk
          · rename_i m n hm hn
            obtain ⟨hc, hk⟩ := given_some hk
            obtain ⟨c1, c23⟩ := andB hc
            obtain ⟨c2, c3⟩ := andB c23
            have c1 := of_decide_eq_true c1
            have c2 := of_decide_eq_true c2
            have c3 := of_decide_eq_true c3
            refine Sound.pure hk fun bl2 hb2 ok0 base pl w act hr hxs => ?_
            have hb' : bl2 bb = some (.row t0 e ver l) := (hb2 bb (by simp)).trans hb
            have h1 := hxs x hx0
            rw [hx] at h1
            obtain ⟨_, sv, svs, hg, hcur⟩ := h1
            have hav := (hcur t0 e ver l hb').2 rfl
            obtain ⟨p, hp, hB⟩ := hr.blks bb _ hb'
            have : p = .row sv svs := by have h2 : pl bb = some (.row sv svs) := hg; rw [hp] at h2; injection h2
            subst this
            obtain ⟨_, xs, hd', hown⟩ := hB
            obtain ⟨A, cc, hsv, hle⟩ : ∃ A cc, sv = .slice A l.length cc ∧ l.length ≤ cc := by
              rcases hown.2 with ⟨hsv, hn⟩ | ⟨g, cap, cur, hsv, _, _, hnc, _⟩
              · exact ⟨none, 0, by rw [hsv, hn], by omega⟩
              · exact ⟨_, cap, hsv, hnc⟩
            have hb3 := run_sliceBounds (P := P) (isSl := true) (len := l.length) (cap := cc) (boundV_rep hm fun y hy => hxs y (hlo0 y hy)) (boundV_rep hn fun y hy => hxs y (hhi0 y hy)) c1 c2 (by omega) w
            refine ⟨.slice (if cc = m.toNat then A else A.map (·.add (m.toNat * te.size))) (n.toNat - m.toNat) (cc - m.toNat), ?_, rfl, sv, svs, hp, fun t1 e1 ver1 l1 hb1 => ?_⟩
            · simp [execOp, ho, Instr.sliceAt, run_underlying hu, Instr.slice, hav, hsv, hb3, run_sizeOf fe]
            · have hb1' : bl2 bb = some (.row t1 e1 ver1 l1) := hb1
              rw [hb'] at hb1'
              injection hb1' with hb1'
              injection hb1' with q1 q2 q3 q4
              subst q2 q3
              simp only [heq_eq_eq] at q4
              subst q4
              refine ⟨Nat.le_refl _, fun _ => ⟨by omega, by omega, A, _, l.length, cc, hsv, rfl, fun hlt => ?_, fun h0 => ?_⟩⟩
              · rw [if_neg (by omega), hs1]
              · rw [h0]
                split
                · rfl
                · cases A <;> simp [Addr.add]
          · cases hk
      · cases hk
    · cases hk
  · -- a part of a part
    rename_i bb ver lo' hi' hx
    split at hk
    · rename_i et hel hal
      have hd := slice_type f hel hal
      subst hd
      split at hk
      · cases hk
      rename_i te hte
      obtain ⟨i', d', z', fe⟩ := hT.facts hte
      split at hk
      · rename_i t0 e ver' l hb
        cases hs : (Nat.beq ver ver' && (Nat.beq e.size te.size && Nat.blt 0 te.size)) with
        | false => rw [hs] at hk; cases hk
        | true =>
          obtain ⟨hver, hs12⟩ := andB hs
          obtain ⟨hs1, hs2⟩ := andB hs12
          have hs1 := Nat.eq_of_beq_eq_true hs1
          have := Nat.eq_of_beq_eq_true hver
          subst this
          simp only [hs, cond_true] at hk
          split at hk
          · rename_i m n hm hn
            obtain ⟨hc, hk⟩ := given_some hk
            obtain ⟨c1, c23⟩ := andB hc
            obtain ⟨c2, c3⟩ := andB c23
            have c1 := of_decide_eq_true c1
            have c2 := of_decide_eq_true c2
            have c3 := of_decide_eq_true c3
            refine Sound.pure hk fun bl2 hb2 ok0 base pl w act hr hxs => ?_
            have hb' : bl2 bb = some (.row t0 e ver l) := (hb2 bb (by simp)).trans hb
            have h1 := hxs x hx0
            rw [hx] at h1
            obtain ⟨_, sv, svs, hg, hcur⟩ := h1
            obtain ⟨r1, r2, A, A', nn, cc, hsv, hav, hA, hA0⟩ := (hcur t0 e ver l hb').2 rfl
            obtain ⟨p, hp, hB⟩ := hr.blks bb _ hb'
            have : p = .row sv svs := by have h2 : pl bb = some (.row sv svs) := hg; rw [hp] at h2; injection h2
            subst this
            obtain ⟨_, xs, hd', hown⟩ := hB
            have hle : l.length ≤ cc := by
              rcases hown.2 with ⟨hsv2, hn⟩ | ⟨g, cap, cur, hsv2, _, _, hnc, _⟩
              · omega
              · rw [hsv] at hsv2; injection hsv2 with _ _ e3; omega
            have hb3 := run_sliceBounds (P := P) (isSl := true) (len := hi' - lo') (cap := cc - lo') (boundV_rep hm fun y hy => hxs y (hlo0 y hy)) (boundV_rep hn fun y hy => hxs y (hhi0 y hy)) c1 c2 (by omega) w
            refine ⟨.slice (if cc - lo' = m.toNat then A' else A'.map (·.add (m.toNat * te.size))) (n.toNat - m.toNat) (cc - lo' - m.toNat), ?_, rfl, sv, svs, hp, fun t1 e1 ver1 l1 hb1 => ?_⟩
            · simp [execOp, ho, Instr.sliceAt, run_underlying hu, Instr.slice, hav, hb3, run_sizeOf fe]
            · have hb1' : bl2 bb = some (.row t1 e1 ver1 l1) := hb1
              rw [hb'] at hb1'
              injection hb1' with hb1'
              injection hb1' with q1 q2 q3 q4
              subst q2 q3
              simp only [heq_eq_eq] at q4
              subst q4
              have e1 : lo' + n.toNat - (lo' + m.toNat) = n.toNat - m.toNat := by omega
              have e2 : cc - lo' - m.toNat = cc - (lo' + m.toNat) := by omega
              refine ⟨Nat.le_refl _, fun _ => ⟨by omega, by omega, A, _, nn, cc, hsv, by rw [e1, e2], fun hlt => ?_, fun h0 => ?_⟩⟩
              · rw [if_neg (by omega), hA (by omega), ← hs1]
                cases A with
                | none => rfl
                | some ad => simp only [Option.map_some, add_of_add]; rw [Nat.add_mul]
              · have h1 : lo' = 0 := by omega
                have h2 : m.toNat = 0 := by omega
                rw [h2]
                split
                · exact hA0 h1
                · rw [hA0 h1]
                  cases A <;> simp [Addr.add]
          · cases hk
      · cases hk
    · cases hk
  · -- nil
    rename_i hx
    split at hk
    · rename_i et hel hal
      have hd := slice_type f hel hal
      subst hd
      split at hk
      · cases hk
      rename_i te hte
      obtain ⟨i', d', z', fe⟩ := hT.facts hte
      split at hk
      · rename_i m n hm hn
        obtain ⟨hc, hk⟩ := given_some hk
        obtain ⟨c1, c23⟩ := andB hc
        obtain ⟨c2, c3⟩ := andB c23
        have c1 := of_decide_eq_true c1
        have c2 := of_decide_eq_true c2
        have c3 := of_decide_eq_true c3
        refine Sound.pure hk fun bl2 hb2 ok0 base pl w act hr hxs => ⟨.slice none 0 0, ?_, rfl⟩
        have h1 := hxs x hx0
        rw [hx] at h1
        have hav : act.eval x = .slice none 0 0 := h1
        have hb3 := run_sliceBounds (P := P) (isSl := true) (len := 0) (cap := 0) (boundV_rep hm fun y hy => hxs y (hlo0 y hy)) (boundV_rep hn fun y hy => hxs y (hhi0 y hy)) c1 c2 (by omega) w
        have hm0 : m = 0 := by omega
        have hn0 : n = 0 := by omega
        subst hm0 hn0
        simp [execOp, ho, Instr.sliceAt, run_underlying hu, Instr.slice, hav, hb3, run_sizeOf fe]
      · cases hk
    · cases hk
  · cases hk

/-! ### append -/
theorem ownsRow_base {w : World} {b b' : Nat} {e : TypeId} {size : Nat} {v : Value} {n : Nat} {xs : List Value} (h : w.ownsRow b e size v n xs) (hb : b' ≤ b) : w.ownsRow b' e size v n xs := by
  refine ⟨h.1, ?_⟩
  rcases h.2 with h2 | ⟨g, cap, cur, hv, hg, r⟩
  · exact .inl h2
  · exact .inr ⟨g, cap, cur, hv, Nat.le_trans hb hg, r⟩

/-- The value is a slice that reads as the list; wherever its cells lie. -/
def Reads (w : World) (okI : Nat → Prop) (e : Ty) (l : List e.den) (src : Value) : Prop :=
  ∃ A c ys, src = .slice A l.length c ∧ l.length ≤ c ∧ c ≤ maxLen ∧ DList (fun x u => DRep w okI e x u) l ys ∧ ∀ j v, ys[j]? = some v → ∃ ad, A = some ad ∧ w.cell? (ad.add j) = some v

/-- append onto what is one's own (or nil), the source whatever reads as a list. -/
theorem run_append_src {w : World} {ok : Nat → Prop} (base : Nat) {t ty et : TypeId} {te : TI} {i : TypeInfo} {d : TypeDesc} {z : Value} (fe : TFacts P et te i d z) (ht : P.underlying t = some (.slice et)) {e : Ty} (hes : e.size = te.size) (hpos : 0 < te.size) (hby : 0 < te.bytes)
    {v : Value} {n : Nat} {xs : List Value} (hown : w.ownsRow base et e.size v n xs) {src : Value} {l : List e.den} (hsrc : Reads w ok e l src) (hroom : (n + l.length) * te.bytes ≤ roomMax) (hbase : base ≤ w.heap.size) :
    ∃ v' w' ys, (Builtin.append_ #[t, t] ty #[v, src]).run P w = .ok v' w' ∧ w'.ownsRow base et e.size v' (n + l.length) (xs ++ ys) ∧ w.grownBy w' v.ownBlock ∧ (v'.ownBlock = v.ownBlock ∨ v'.ownBlock = some w.heap.size) ∧ DList (fun x u => DRep w ok e x u) l ys := by
  have hsize : i.size = e.size := by rw [← fe.size, hes]
  have hzs : z.cells.size = e.size := by
    have := fe.len
    rw [Array.length_toList] at this
    rw [this, hsize]
  obtain ⟨A, c, ys, rfl, hle, hcm, hd, hcell⟩ := hsrc
  have hl : ys.length = l.length * e.size := hd.length
  have h1 := hd.oneCell
  have hroom' : (n + l.length) * i.bytes ≤ 140737488355328 := by rw [← fe.bytes]; exact hroom
  have h63 : n + l.length ≤ maxLen := by
    have h2 : n + l.length ≤ (n + l.length) * te.bytes := Nat.le_mul_of_pos_right _ hby
    simp only [roomMax] at hroom
    simp only [maxLen]
    omega
  cases A with
  | some ad =>
    obtain ⟨v', w', hrun, h2, h3, _, h5⟩ := run_append_own_at (P := P) w base t ty et i z e.size i.bytes ht fe.info fe.zero hsize rfl hzs (by omega) v n xs hown ad l.length c ys hl
      (fun j u hj => by
        obtain ⟨ad', ha, hc⟩ := hcell j u hj
        injection ha with ha
        subst ha
        exact hc) h1 h63 hroom' hbase
    exact ⟨v', w', ys, hrun, h2, h3, h5, hd⟩
  | none =>
    have hy : ys = [] := by
      cases ys with
      | nil => rfl
      | cons y ys =>
        obtain ⟨ad, ha, _⟩ := hcell 0 y rfl
        cases ha
    subst hy
    have hl0 : l.length = 0 := by
      rcases Nat.eq_zero_or_pos l.length with h0 | h0
      · exact h0
      · have : 0 < l.length * e.size := Nat.mul_pos h0 (by omega)
        simp at hl
        omega
    refine ⟨v, w, [], ?_, by simpa [hl0] using hown, ⟨rfl, rfl, rfl, Nat.le_refl _, fun _ _ _ => rfl⟩, .inl rfl, hd⟩
    rcases hown.2 with ⟨rfl, rfl⟩ | ⟨g, cap, cur, rfl, _, _, hnc, _⟩
    · simp [Builtin.append_, run_underlying ht, sizeOf, typeInfo, fe.info, Builtin.lenOf, Builtin.firstCells, hl0]
    · simp [Builtin.append_, run_underlying ht, sizeOf, typeInfo, fe.info, Builtin.lenOf, Builtin.firstCells, hl0, hnc, storeCells]

theorem Reads.of_own {w : World} {okI : Nat → Prop} {base : Nat} {t : TypeId} {e : Ty} {l : List e.den} {sv : Value} {xs : List Value} (hd : DList (fun x u => DRep w okI e x u) l xs) (ho : w.ownsRow base t e.size sv l.length xs) : Reads w okI e l sv := by
  have hown := ho
  rcases ho.2 with ⟨rfl, hn⟩ | ⟨g, cap, cur, rfl, hbase, hh, hnc, hcm, hcs, htake⟩
  · have hl : l = [] := List.eq_nil_of_length_eq_zero hn
    subst hl
    simp only [DList] at hd
    subst hd
    exact ⟨none, 0, [], rfl, by simp, by simp [maxLen], rfl, by simp⟩
  · exact ⟨some ⟨g, 0, none⟩, cap, xs, rfl, hnc, hcm, hd, fun j u hj => ⟨_, rfl, hown.cells (g := g) rfl j u hj⟩⟩

theorem srcOf_rep {E : Env} {blp : Nat → Option Blk} (hb : BlksOk E) {e : Ty} {y : V} {l : List e.den} {rd : List Nat} (h : srcOf blp e y = some (l, rd)) (hsub : ∀ b ∈ rd, ∀ B, blp b = some B → E.bl b = some B) {v : Value} (hv : VRep E y v) : Reads E.w E.ok e l v := by
  unfold srcOf at h
  split at h
  · simp only [Option.some.injEq, Prod.mk.injEq] at h
    obtain ⟨rfl, _⟩ := h
    have : v = .slice none 0 0 := hv
    subst this
    exact ⟨none, 0, [], rfl, by simp, by simp [maxLen], rfl, by simp⟩
  · split at h
    · rename_i he
      subst he
      simp only [Option.some.injEq, Prod.mk.injEq] at h
      obtain ⟨rfl, _⟩ := h
      have hv' : DRep E.w E.ok (.slice _) _ [v] := hv
      simp only [DRep] at hv'
      obtain ⟨A, c, xs, e1, hl, hc, hd, hx⟩ := hv'
      simp only [List.cons.injEq, and_true] at e1
      exact ⟨A, c, xs, e1, hl, hc, hd, fun j u hj => by obtain ⟨ad, h1, _, h2⟩ := hx j u hj; exact ⟨ad, h1, h2⟩⟩
    · cases h
  · split at h
    · rename_i he
      subst he
      simp only [Option.some.injEq, Prod.mk.injEq] at h
      obtain ⟨rfl, _⟩ := h
      have hv' : DRep E.w E.ok (.slice _) _ [v] := (show _ ∧ _ from hv).1
      simp only [DRep] at hv'
      obtain ⟨A, c, xs, e1, hl, hc, hd, hx⟩ := hv'
      simp only [List.cons.injEq, and_true] at e1
      exact ⟨A, c, xs, e1, hl, hc, hd, fun j u hj => by obtain ⟨ad, h1, _, h2⟩ := hx j u hj; exact ⟨ad, h1, h2⟩⟩
    · cases h
  · rename_i b ver
    cases hr : rowOf blp b ver e with
    | none => rw [hr] at h; cases h
    | some l' =>
      rw [hr] at h
      simp only [Option.map_some, Option.some.injEq, Prod.mk.injEq] at h
      obtain ⟨rfl, rfl⟩ := h
      obtain ⟨t, sv, xs, hbl, hpl, rfl, hd, ho⟩ := rowOf_rep hb (fun t e ver l h => hsub b (by simp) _ h) hr hv
      exact Reads.of_own hd ho
  · rename_i b ver i j
    cases hr : rowOf blp b ver e with
    | none => rw [hr] at h; cases h
    | some l' =>
      rw [hr] at h
      simp only [Option.map_some, Option.some.injEq, Prod.mk.injEq] at h
      obtain ⟨rfl, rfl⟩ := h
      obtain ⟨t, sv, xs, hB, hbl, hpl, hd, ho⟩ := rowOf_get hb (fun t e ver l h => hsub b (by simp) _ h) hr
      obtain ⟨_, sv2, svs2, hpl2, hcur⟩ := hv
      rw [hpl] at hpl2
      injection hpl2 with hpl2
      injection hpl2 with hpl2 _
      subst hpl2
      obtain ⟨A, c, ys, q1, q2, q3, q4, q5⟩ := subRow_core ((hcur _ _ _ _ hbl).2 rfl) hd ho
      exact ⟨A, c, ys, q1, q2, q3, q4, fun k u hk => by obtain ⟨ad, r1, _, r3⟩ := q5 k u hk; exact ⟨ad, r1, r3⟩⟩
  · cases h

theorem run_builtin_append {w w' : World} {a : Act} {x y : Operand} {c : Call} {t : TypeId} (ho : o.op = .call c) (hc : c.callee = .builtin .append) (ha : c.args.toList = [x, y]) (ht : c.argTypes.toList = [t, t]) {v : Value}
    (h : (Builtin.append_ #[t, t] o.type #[a.eval x, a.eval y]).run P w = .ok v w') : (execOp a.eval o).run P w = .ok (.value v) w' := by
  have h1 : c.args = #[x, y] := by rw [← Array.toArray_toList (xs := c.args), ha]
  have h2 : c.argTypes = #[t, t] := by rw [← Array.toArray_toList (xs := c.argTypes), ht]
  simp [execOp, ho, resolve, hc, h1, h2, invoke, builtin, h]

theorem sound_append {T : TypeId → Option TI} (hT : TOk P T) {kk : K β} {c : Call} (ho : o.op = .call c) (hc : c.callee = .builtin .append) {x y : Operand} {t : TypeId} {nx : Nat} (ha : c.args.toList = [x, y]) (hty : c.argTypes.toList = [t, t])
    (hk : appendRun T bl nx t (ρ x) (ρ y) kk = some r) : Sound P o ρ bl kk r := by
  have hargs : c.args = #[x, y] := by rw [← Array.toArray_toList (xs := c.args), ha]
  have hx0 : x ∈ o.op.operands := by simp [ho, Op.operands, Call.operands, hargs]
  have hy0 : y ∈ o.op.operands := by simp [ho, Op.operands, Call.operands, hargs]
  unfold appendRun at hk
  split at hk
  · cases hk
  rename_i ti ht
  obtain ⟨i, d, z, f⟩ := hT.facts ht
  split at hk
  · rename_i et hel hal
    have hd := slice_type f hel hal
    subst hd
    split at hk
    · cases hk
    rename_i te hte
    obtain ⟨i', d', z', fe⟩ := hT.facts hte
    split at hk
    · cases hk
    rename_i e hety
    cases hs : (Nat.beq e.size te.size && (Nat.blt 0 te.size && Nat.blt 0 te.bytes)) with
    | false => rw [hs] at hk; cases hk
    | true =>
      obtain ⟨hs1, hs23⟩ := andB hs
      obtain ⟨hs2, hs3⟩ := andB hs23
      have hs1 := Nat.eq_of_beq_eq_true hs1
      have hs2 := blt_lt hs2
      have hs3 := blt_lt hs3
      simp only [hs, cond_true] at hk
      split at hk
      · cases hk
      rename_i new rd hsrc
      split at hk
      · -- onto nil
        rename_i hx
        split at hk
        · rename_i hn
          obtain ⟨hroom, hk⟩ := given_some hk
          have hroom := of_decide_eq_true hroom
          refine ⟨_, _, _, hk, fun bl2 hb2 => ?_⟩
          have hn2 : bl2 nx = none := (hb2 nx (by simp)).trans hn
          intro ok0 base pl w a hr hxs K Q hK
          have hv : a.eval x = .slice none 0 0 := by have := hxs x hx0; rw [hx] at this; exact this
          have hrd : Reads w (envOf ok0 base pl bl2 w).ok e new (a.eval y) := srcOf_rep hr.blksOk hsrc (fun b hb B hB => (hb2 b (by simp [hb])).trans hB) (hxs y hy0)
          obtain ⟨v', w', ys, hrun, hown, hgr, hloc, hdl⟩ := run_append_src (P := P) w.heap.size fe f.under (ty := o.type) hs1 hs2 hs3 (World.ownsRow_nil w w.heap.size et e.size) hrd (by simpa using hroom) (Nat.le_refl _)
          have hgr' : w.grownBy w' none := hgr
          have hp : ∀ g, (Pl.row v' []).has g → w.heap.size ≤ g := fun g hg => (hown.lt g (Pl.has_row hg)).1
          have hst : Step pl bl2 w (upd pl nx (.row v' [])) (upd bl2 nx (.row et e 0 new)) w' := Step.new hr hn2 hgr' hp
          refine wp_of_value (run_builtin_append ho hc ha hty (by rw [hv]; exact hrun)) (hK v' (upd pl nx (.row v' [])) w' ?_ hst ?_)
          · refine RelB.new hr hn2 hgr' hp ⟨rfl, ys, hdl.mono fun x u hu => hu.mono hst.ext.heap, ?_⟩
            simp only [Nat.zero_add, List.nil_append] at hown
            exact ownsRow_base hown hr.baseLe
          · refine ⟨?_, v', [], by simp [envOf, upd], fun t1 e1 ver1 l1 h1 => ?_⟩
            · rcases hown.2 with ⟨rfl, _⟩ | ⟨g, cap, cur, rfl, _⟩ <;> rfl
            · simp only [envOf, updL, upd, if_true, Option.some.injEq] at h1
              injection h1 with q1 q2 q3 q4
              subst q3
              exact ⟨Nat.le_refl _, fun _ => rfl⟩
        · cases hk
      · -- onto a row
        rename_i b ver hx
        split at hk
        · rename_i t0 e0 ver' l hb
          cases hvt : (Nat.beq ver ver' && Nat.beq t0 et) with
          | false => rw [hvt] at hk; cases hk
          | true =>
            obtain ⟨hver, ht0⟩ := andB hvt
            have := Nat.eq_of_beq_eq_true hver
            subst this
            have := Nat.eq_of_beq_eq_true ht0
            subst this
            simp only [hvt, cond_true] at hk
            split at hk
            · rename_i he
              subst he
              obtain ⟨hroom, hk⟩ := given_some hk
              have hroom := of_decide_eq_true hroom
              refine ⟨_, _, _, hk, fun bl2 hb2 => ?_⟩
              have hb' : bl2 b = some (.row t0 e0 ver l) := (hb2 b (by simp)).trans hb
              intro ok0 base pl w a hr hxs K Q hK
              have hv := hxs x hx0
              rw [hx] at hv
              obtain ⟨_, sv, svs, hg, hcur⟩ := hv
              have hav := (hcur t0 e0 ver l hb').2 rfl
              obtain ⟨p, hp, hB⟩ := hr.blks b _ hb'
              have : p = .row sv svs := by have h2 : pl b = some (.row sv svs) := hg; rw [hp] at h2; injection h2
              subst this
              obtain ⟨h0, xs, hd', hown0⟩ := hB
              subst h0
              have hrd : Reads w (envOf ok0 base pl bl2 w).ok e0 new (a.eval y) := srcOf_rep hr.blksOk hsrc (fun b hb B hB => (hb2 b (by simp [hb])).trans hB) (hxs y hy0)
              obtain ⟨v', w', ys, hrun, hown, hgr, hloc, hdl⟩ := run_append_src (P := P) base fe f.under (ty := o.type) hs1 hs2 hs3 hown0 hrd hroom hr.baseLe
              have hloc' : v'.ownBlock = sv.ownBlock ∨ ∀ g, v'.ownBlock = some g → w.heap.size ≤ g := by
                rcases hloc with h | h
                · exact .inl h
                · exact .inr fun g hg => by rw [h] at hg; injection hg with hg; exact Nat.le_of_eq hg
              have hst := Step.grown (l' := l ++ new) (ver' := ver + 1) hr hb' hp hgr hloc' ⟨by omega, fun h => by omega⟩
              refine wp_of_value (run_builtin_append ho hc ha hty (by rw [hav]; exact hrun)) (hK v' (upd pl b (.row v' [])) w' ?_ hst ?_)
              · refine RelB.grown hr hb' hp hgr hloc' ⟨by omega, fun h => by omega⟩ ⟨rfl, xs ++ ys, (hd'.mono fun x u hu => hu.mono hst.ext.heap).append (hdl.mono fun x u hu => hu.mono hst.ext.heap), ?_⟩
                rw [List.length_append]
                exact hown
              · refine ⟨?_, v', [], by simp [envOf, upd], fun t1 e1 ver1 l1 h1 => ?_⟩
                · rcases hown.2 with ⟨rfl, _⟩ | ⟨g, cap, cur, rfl, _⟩ <;> rfl
                · simp only [envOf, updL, upd, if_true, Option.some.injEq] at h1
                  injection h1 with q1 q2 q3 q4
                  subst q3
                  exact ⟨Nat.le_refl _, fun _ => rfl⟩
            · cases hk
        · cases hk
      · -- onto a row of a slice of slices: it is taken out
        rename_i b iver ix hx
        split at hk
        · rename_i t0 et0 e0 ver iver' l hb hn
          cases hvt : (Nat.beq iver iver' && Nat.beq et0 et) with
          | false => rw [hvt] at hk; cases hk
          | true =>
            obtain ⟨hver, ht0⟩ := andB hvt
            have := Nat.eq_of_beq_eq_true hver
            subst this
            have := Nat.eq_of_beq_eq_true ht0
            subst this
            simp only [hvt, cond_true] at hk
            split at hk
            · rename_i he
              subst he
              obtain ⟨hroom, hk⟩ := given_some hk
              have hroom := of_decide_eq_true hroom
              refine ⟨_, _, _, hk, fun bl2 hb2 => ?_⟩
              have hb' : bl2 b = some (.mat t0 et0 e0 ver iver none l) := (hb2 b (by simp)).trans hb
              have hn2 : bl2 nx = none := (hb2 nx (by simp)).trans hn
              intro ok0 base pl w a hr hxs K Q hK
              have hbn : b ≠ nx := by rintro rfl; rw [hb'] at hn2; cases hn2
              have hv := hxs x hx0
              rw [hx] at hv
              obtain ⟨_, sv, svs, hg, hcur⟩ := hv
              obtain ⟨hri, hss⟩ := (hcur _ _ _ _ _ _ _ hb').2 rfl
              obtain ⟨p, hp, hB⟩ := hr.blks b _ hb'
              have : p = .row sv svs := by have h2 : pl b = some (.row sv svs) := hg; rw [hp] at h2; injection h2
              subst this
              have hM : MatOk _ t0 et0 e0 none l sv svs := hB
              obtain ⟨xs, hd', hown0⟩ := hM.inner ix (a.eval x) l[ix] hss (List.getElem?_eq_getElem hri)
              have hgd : l.getD ix [] = l[ix] := by simp [List.getD, hri]
              rw [hgd] at hroom hK
              generalize hlx : l[ix] = xr at *
              have hrd : Reads w (envOf ok0 base pl bl2 w).ok e0 new (a.eval y) := srcOf_rep hr.blksOk hsrc (fun b hb B hB => (hb2 b (by simp [hb])).trans hB) (hxs y hy0)
              obtain ⟨v', w', ys, hrun, hown, hgr, hloc, hdl⟩ := run_append_src (P := P) base fe f.under (ty := o.type) hs1 hs2 hs3 hown0 hrd hroom hr.baseLe
              have hnone : ∀ k : Nat, svs[k]? ≠ some none := fun k h => by have := hM.hole k h; cases this
              have hix2 : ix < svs.length := by rw [hM.len]; exact hri
              have hset : ∀ (k : Nat) (s : Value), (svs.set ix none)[k]? = some (some s) → k ≠ ix ∧ svs[k]? = some (some s) := fun k s h => by
                by_cases hki : k = ix
                · subst hki
                  rw [List.getElem?_set_self hix2] at h
                  injection h with h
                  cases h
                · rw [List.getElem?_set_ne (fun h => hki h.symm)] at h
                  exact ⟨hki, h⟩
              have hownb : ∀ g, (Pl.row sv svs).has g → OwnAt pl bl2 b g := fun g h => ⟨_, _, hb', rfl, hp, h⟩
              have hltb : ∀ g, (Pl.row sv svs).has g → g < w.heap.size := fun g h => Own.lt hr ⟨b, _, _, hb', rfl, hp, h⟩
              have hhas' : ∀ g, (Pl.row sv (svs.set ix none)).has g → (Pl.row sv svs).has g ∧ (a.eval x).ownBlock ≠ some g := fun g h => by
                rcases h with h | ⟨k, s, hks, h⟩
                · exact ⟨.inl h, hM.sep0 ix _ g hss h⟩
                · obtain ⟨hki, hks⟩ := hset k s hks
                  exact ⟨.inr ⟨k, s, hks, h⟩, fun h2 => hM.sep k ix s _ g hki hks hss h h2⟩
              have hog : ∀ g, (a.eval x).ownBlock = some g → OwnAt pl bl2 b g ∨ OwnAt pl bl2 nx g := fun g h => .inl (hownb g (.inr ⟨ix, _, hss, h⟩))
              have hj : ∀ g, v'.ownBlock = some g → OwnAt pl bl2 b g ∨ OwnAt pl bl2 nx g ∨ w.heap.size ≤ g := fun g h => by
                rcases hloc with h2 | h2
                · rw [h2] at h
                  exact .inl (hownb g (.inr ⟨ix, _, hss, h⟩))
                · rw [h2] at h
                  injection h with h
                  exact .inr (.inr (Nat.le_of_eq h))
              have hpn := hr.fresh nx hn2
              have hst : Step pl bl2 w (upd (upd pl b (.row sv (svs.set ix none))) nx (.row v' [])) (upd (upd bl2 b (.mat t0 et0 e0 ver (iver + 1) (some ix) l)) nx (.row et0 e0 0 (xr ++ new))) w' := by
                refine Step.two hr hbn hgr hog (fun g _ h => .inl (hownb g (hhas' g h).1)) (fun g _ h => hj g (Pl.has_row h)) (fun g h => by rw [hp] at h; cases h) (fun g h => by rw [hpn] at h; cases h) (fun sv0 svs0 h => ?_) (fun sv0 svs0 h => by rw [hpn] at h; cases h)
                rw [hp] at h
                injection h with h
                injection h with h h2
                subst h h2
                refine ⟨_, _, rfl, ?_⟩
                rw [hb']
                exact KeepR.ofMat ⟨Nat.le_refl _, fun _ => ⟨rfl, rfl⟩⟩ ⟨by omega, fun h => by omega⟩
              have hext := hst.ext (ok0 := ok0) (base := base)
              have hsame : ∀ g, (Pl.row sv svs).has g → (a.eval x).ownBlock ≠ some g → w'.heap[g]? = w.heap[g]? := fun g h hne => hgr.block g (hltb g h) (fun h2 => hne h2.symm)
              refine wp_of_value (run_builtin_append ho hc ha hty hrun) (hK v' (upd (upd pl b (.row sv (svs.set ix none))) nx (.row v' [])) w' ?_ hst ?_)
              · refine RelB.two hr hbn hgr hog (fun g _ h => .inl (hownb g (hhas' g h).1)) (fun g _ h => hj g (Pl.has_row h)) (fun g _ _ h h2 => ?_) hst ?_ ?_
                · have h2 := Pl.has_row h2
                  obtain ⟨h3, h4⟩ := hhas' g h
                  rcases hloc with h5 | h5
                  · rw [h5] at h2; exact h4 h2
                  · rw [h5] at h2
                    have h6 := Option.some.inj h2
                    have h7 := hltb g h3
                    rw [← h6] at h7
                    exact Nat.lt_irrefl _ h7
                · obtain ⟨vs, ho1, ho2⟩ := hM.outer
                  refine ⟨⟨vs, ownsRow_mono (Nat.le_refl _) (fun g h => hsame g (.inl h) (hM.sep0 ix _ g hss h)) ho1, fun k s hks => ho2 k s (hset k s hks).2⟩, by simp [hM.len], fun k hk => ?_, fun k s xx hks hkx => ?_, fun k s g hks => hM.sep0 k s g (hset k s hks).2, fun k j s s' g hkj hks hjs => hM.sep k j s s' g hkj (hset k s hks).2 (hset j s' hjs).2⟩
                  · by_cases hki : k = ix
                    · rw [hki]
                    · rw [List.getElem?_set_ne (fun h => hki h.symm)] at hk
                      exact absurd hk (hnone k)
                  · obtain ⟨hki, hks⟩ := hset k s hks
                    obtain ⟨zs, q1, q2⟩ := hM.inner k s xx hks hkx
                    exact ⟨zs, q1.mono fun x u hu => hu.mono hext.heap, ownsRow_mono (Nat.le_refl _) (fun g h => hsame g (.inr ⟨k, s, hks, h⟩) (fun h2 => hM.sep k ix s _ g hki hks hss h h2)) q2⟩
                · refine ⟨rfl, xs ++ ys, (hd'.mono fun x u hu => hu.mono hext.heap).append (hdl.mono fun x u hu => hu.mono hext.heap), ?_⟩
                  rw [List.length_append]
                  exact hown
              · refine ⟨?_, v', [], by simp [envOf, upd], fun t1 e1 ver1 l1 h1 => ?_⟩
                · rcases hown.2 with ⟨rfl, _⟩ | ⟨g, cap, cur, rfl, _⟩ <;> rfl
                · simp only [envOf, updL, upd, if_true, Option.some.injEq] at h1
                  injection h1 with q1 q2 q3 q4
                  subst q3
                  exact ⟨Nat.le_refl _, fun _ => rfl⟩
            · cases hk
        · cases hk
      · cases hk
  · cases hk
end
end Go.Lift
