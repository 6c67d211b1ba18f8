/- The lifter, part S: a view stands for the state. -/
import Derived.Test.YtamnjokpncjbfaaLiftR
namespace Go.Lift
open Go.RowKit

theorem readC_rep2 {E E' : Env} {ids ids' : List Nat} (hb : BlksOk E) (hw : E'.w = E.w) (hr : Ren E E' ids ids') : ∀ {l : List CT} {cs : List C} {vs : List Value} {y : CT.dens l},
    Rows E E.bl E'.ok (datRows l cs) → CReps E cs vs → readC E.bl ids l cs = some y → CReps E' (mkC ids' l y) vs
  | [], cs, vs, y, hrw, h, hp => by
    cases cs with
    | nil => exact h
    | cons c cs => simp [readC] at hp
  | .data τ :: l, cs, vs, y, hrw, h, hp => by
    simp only [readC] at hp
    split at hp
    · cases hp
    · rename_i x r hx
      split at hp
      · cases hp
      · rename_i y' hy
        simp only [Option.some.injEq] at hp
        subst hp
        obtain ⟨ds, e1, e2, e3⟩ := pack_local hx
        subst e1
        have hd : datRows (.data τ :: l) (ds ++ r) = rowIds ds ++ datRows l r := by
          simp only [datRows, ← e2, List.take_left, List.drop_left]
        rw [hd] at hrw
        obtain ⟨us, ws, e, h1, h2⟩ := CReps.split h
        subst e
        obtain ⟨us1, us2, e, d, c, _⟩ := pack_rep hb (hrw.sub fun b hbm => List.mem_append_left _ hbm) h1 e3
        simp only [CReps] at c
        subst c
        rw [List.append_nil] at e
        subst e
        exact CReps.append (cells_rep (by rw [hw]; exact d)) (readC_rep2 hb hw hr (hrw.sub fun b hbm => List.mem_append_right _ hbm) h2 hy)
  | .ptr b o :: l, cs, vs, y, hrw, h, hp => by
    cases cs with
    | nil => simp [readC] at hp
    | cons c cs =>
      have hrw' : Rows E E.bl E'.ok (datRows l cs) := hrw
      cases c <;> simp only [readC] at hp <;> try (cases hp; done)
      rename_i b' o'
      split at hp
      · rename_i i hi
        cases hc : (Nat.beq i b' && Nat.beq o o') with
        | false => rw [hc] at hp; cases hp
        | true =>
          simp only [hc, cond_true] at hp
          obtain ⟨h1, h2⟩ := andB hc
          have h1 := Nat.eq_of_beq_eq_true h1
          have h2 := Nat.eq_of_beq_eq_true h2
          subst h1 h2
          obtain ⟨v, vs', e, ⟨g, hg, hv⟩, ht⟩ := h
          exact ⟨v, vs', e, ⟨g, hr.cells b i g hi hg, hv⟩, readC_rep2 hb hw hr hrw' ht hp⟩
      · cases hp
  | .rowh b :: l, cs, vs, y, hrw, h, hp => by
    cases cs with
    | nil => simp [readC] at hp
    | cons c cs =>
      have hrw' : Rows E E.bl E'.ok (datRows l cs) := hrw
      cases c <;> simp only [readC] at hp <;> try (cases hp; done)
      · split at hp
        · rename_i i hi
          split at hp
          · rename_i hn
            obtain ⟨v, vs', e, hv, ht⟩ := h
            simp only [CRep] at hv
            subst hv
            exact ⟨_, vs', e, ⟨rfl, _, _, hr.nil b i hi hn, fun _ _ _ _ _ => ⟨Nat.zero_le _, fun _ => rfl⟩⟩, readC_rep2 hb hw hr hrw' ht hp⟩
          · cases hp
        · cases hp
      · rename_i b' ver
        split at hp
        · rename_i i hi
          cases hc : Nat.beq i b' with
          | false => rw [hc] at hp; cases hp
          | true =>
            have := Nat.eq_of_beq_eq_true hc
            subst this
            simp only [hc, cond_true] at hp
            split at hp
            · rename_i t e ver' l' hbl
              cases hv' : Nat.beq ver ver' with
              | false => rw [hv'] at hp; cases hp
              | true =>
                have := Nat.eq_of_beq_eq_true hv'
                subst this
                simp only [hv', cond_true] at hp
                obtain ⟨v, vs', ev, ⟨h1, sv, svs, hsv, hcur⟩, ht⟩ := h
                have hvs := (hcur t e ver l' hbl).2 rfl
                exact ⟨v, vs', ev, ⟨h1, sv, svs, hr.row b i sv svs t e ver l' hi hbl hsv, fun _ _ _ _ _ => ⟨Nat.zero_le _, fun _ => hvs⟩⟩, readC_rep2 hb hw hr hrw' ht hp⟩
            · cases hp
        · cases hp
  | .fn f caps :: l, cs, vs, y, hrw, h, hp => by
    cases cs with
    | nil => simp [readC] at hp
    | cons c cs =>
      have hrw' : Rows E E.bl E'.ok (datRows l cs) := hrw
      cases c <;> simp only [readC] at hp <;> try (cases hp; done)
      rename_i f' caps'
      cases hc : (Nat.beq f f' && decide (caps.map (ids[·]?) = caps'.map some)) with
      | false => rw [hc] at hp; cases hp
      | true =>
        simp only [hc, cond_true] at hp
        obtain ⟨h1, h2⟩ := andB hc
        have h1 := Nat.eq_of_beq_eq_true h1
        have h2 := of_decide_eq_true h2
        subst h1
        obtain ⟨v, vs', e, ⟨gs, hg, hv⟩, ht⟩ := h
        refine ⟨v, vs', e, ⟨gs, ?_, hv⟩, readC_rep2 hb hw hr hrw' ht hp⟩
        exact fnCaps hr caps caps' gs h2 hg
  | .maph b :: l, cs, vs, y, hrw, h, hp => by
    cases cs with
    | nil => simp [readC] at hp
    | cons c cs =>
      have hrw' : Rows E E.bl E'.ok (datRows l cs) := hrw
      cases c <;> simp only [readC] at hp <;> try (cases hp; done)
      rename_i b'
      split at hp
      · rename_i i hi
        cases hc : Nat.beq i b' with
        | false => rw [hc] at hp; cases hp
        | true =>
          simp only [hc, cond_true] at hp
          have h1 := Nat.eq_of_beq_eq_true hc
          subst h1
          obtain ⟨v, vs', e, ⟨g, hg, hv⟩, ht⟩ := h
          exact ⟨v, vs', e, ⟨g, hr.cells b i g hi hg, hv⟩, readC_rep2 hb hw hr hrw' ht hp⟩
      · cases hp
  | .math b :: l, cs, vs, y, hrw, h, hp => by
    cases cs with
    | nil => simp [readC] at hp
    | cons c cs =>
      have hrw' : Rows E E.bl E'.ok (datRows l cs) := hrw
      cases c <;> simp only [readC] at hp <;> try (cases hp; done)
      · split at hp
        · rename_i i hi
          split at hp
          · rename_i hn
            obtain ⟨v, vs', e, hv, ht⟩ := h
            simp only [CRep] at hv
            subst hv
            exact ⟨_, vs', e, ⟨rfl, _, _, hr.nil b i hi hn, fun _ _ _ _ _ _ _ _ => ⟨Nat.zero_le _, fun _ => rfl⟩⟩, readC_rep2 hb hw hr hrw' ht hp⟩
          · cases hp
        · cases hp
      · rename_i b' ver
        split at hp
        · rename_i i hi
          cases hc : Nat.beq i b' with
          | false => rw [hc] at hp; cases hp
          | true =>
            have := Nat.eq_of_beq_eq_true hc
            subst this
            simp only [hc, cond_true] at hp
            split at hp
            · rename_i t et e ver' iver l' hbl
              cases hv' : Nat.beq ver ver' with
              | false => rw [hv'] at hp; cases hp
              | true =>
                have := Nat.eq_of_beq_eq_true hv'
                subst this
                simp only [hv', cond_true] at hp
                obtain ⟨v, vs', ev, ⟨h1, sv, svs, hsv, hcur⟩, ht⟩ := h
                have hvs := (hcur _ _ _ _ _ _ _ hbl).2 rfl
                exact ⟨v, vs', ev, ⟨h1, sv, svs, hr.mat b i sv svs _ _ _ _ _ _ _ hi hbl hsv, fun _ _ _ _ _ _ _ _ => ⟨Nat.zero_le _, fun _ => hvs⟩⟩, readC_rep2 hb hw hr hrw' ht hp⟩
            · cases hp
        · cases hp
  | .nilc :: l, cs, vs, y, hrw, h, hp => by
    cases cs with
    | nil => simp [readC] at hp
    | cons c cs => cases c <;> simp [readC] at hp
  | .lsome _ :: l, cs, vs, y, hrw, h, hp => by
    cases cs with
    | nil => simp [readC] at hp
    | cons c cs => cases c <;> simp [readC] at hp
  | .junk :: l, cs, vs, y, hrw, h, hp => by
    cases cs with
    | nil => simp [readC] at hp
    | cons c cs =>
      have hrw' : Rows E E.bl E'.ok (datRows l cs) := hrw
      simp only [readC] at hp
      obtain ⟨v, vs', e, hv, ht⟩ := h
      exact ⟨v, vs', e, CRep.oneCell hv, readC_rep2 hb hw hr hrw' ht hp⟩

theorem readS_rep2 {E E' : Env} {ids ids' : List Nat} (hb : BlksOk E) (hw : E'.w = E.w) (hr : Ren E E' ids ids') : ∀ {l : List (Bool × List CT)} {vs : List V} {us : List Value} {y : ST.dens l},
    Rows E E.bl E'.ok (datRowsS l vs) → VReps E vs us → readS E.bl ids l vs = some y → TReps E' (mkS ids' l y) us
  | [], vs, us, y, hrw, h, hp => by
    cases vs with
    | nil => exact h
    | cons v vs => simp [readS] at hp
  | t :: l, vs, us, y, hrw, h, hp => by
    cases vs with
    | nil => simp [readS] at hp
    | cons v vs =>
      obtain ⟨u, us', e, hv, ht⟩ := h
      obtain ⟨agg, ct⟩ := t
      cases agg with
      | false =>
        cases v <;> simp only [readS] at hp <;> try (cases hp; done)
        rename_i x
        split at hp
        · cases hp
        · rename_i y1 h1
          split at hp
          · cases hp
          · rename_i z h2
            simp only [Option.some.injEq] at hp
            subst hp
            have hrow : datRowsS ((false, ct) :: l) (V.c x :: vs) = datRows ct [x] ++ datRowsS l vs := rfl
            rw [hrow] at hrw
            refine ⟨u, us', e, ⟨[u], ?_, by simp⟩, readS_rep2 hb hw hr (hrw.sub fun b hbm => List.mem_append_right _ hbm) ht h2⟩
            exact readC_rep2 hb hw hr (hrw.sub fun b hbm => List.mem_append_left _ hbm) (show CReps E [x] [u] from ⟨u, [], rfl, hv, rfl⟩) h1
      | true =>
        cases v <;> simp only [readS] at hp <;> try (cases hp; done)
        rename_i cs
        split at hp
        · cases hp
        · rename_i y1 h1
          split at hp
          · cases hp
          · rename_i z h2
            simp only [Option.some.injEq] at hp
            subst hp
            have hrow : datRowsS ((true, ct) :: l) (V.agg cs :: vs) = datRows ct cs ++ datRowsS l vs := rfl
            rw [hrow] at hrw
            obtain ⟨xs, hxs, hu⟩ := hv
            refine ⟨u, us', e, ⟨xs, ?_, hu⟩, readS_rep2 hb hw hr (hrw.sub fun b hbm => List.mem_append_right _ hbm) ht h2⟩
            exact readC_rep2 hb hw hr (hrw.sub fun b hbm => List.mem_append_left _ hbm) hxs h1

/-- Where a view's block lies. -/
def plOf (E : Env) (i : Nat) : Pl :=
  match E.bl i with
  | some _ => (E.pl i).getD (.row (.slice none 0 0) [])
  | none => .row (.slice none 0 0) []

theorem readBR_rep {E E' : Env} {ids ids' : List Nat} (hb : BlksOk E) (hw : E'.w = E.w) (hbase : E'.base = E.base) (hr : Ren E E' ids ids') (hmono : ∀ g, E.ok g → E'.ok g) : ∀ {l : List BT} {is : List Nat} {y : BT.dens l},
    Rows E E.bl E'.ok (datRowsB E.bl l is) → readBR E.bl ids l is = some y →
    is.length = l.length ∧ ∀ (j i : Nat), is[j]? = some i → ∃ B, (mkB ids' l y)[j]? = some B ∧ BRep E' B (plOf E i) ∧ (∀ B0, E.bl i = some B0 → B0.live = true)
  | [], is, y, hrw, hp => by
    cases is with
    | nil => exact ⟨rfl, fun j i h => by simp at h⟩
    | cons i is => simp [readBR] at hp
  | .row t e :: r, is, y, hrw, hp => by
    cases is with
    | nil => simp [readBR] at hp
    | cons i is =>
      have hrw' : Rows E E.bl E'.ok (datRowsB E.bl r is) := hrw
      simp only [readBR] at hp
      split at hp
      · rename_i t' e' ver l hbl
        cases ht : Nat.beq t t' with
        | false => rw [ht] at hp; cases hp
        | true =>
          have := Nat.eq_of_beq_eq_true ht
          subst this
          simp only [ht, cond_true] at hp
          split at hp
          · rename_i he
            subst he
            split at hp
            · cases hp
            · rename_i z h2
              simp only [Option.some.injEq] at hp
              subst hp
              obtain ⟨hl, hrest⟩ := readBR_rep hb hw hbase hr hmono hrw' h2
              refine ⟨by simp [hl], fun j k hj => ?_⟩
              cases j with
              | zero =>
                simp only [List.getElem?_cons_zero, Option.some.injEq] at hj
                subst hj
                refine ⟨_, rfl, ?_, fun B0 h0 => by rw [hbl] at h0; injection h0 with h0; subst h0; rfl⟩
                obtain ⟨p, hp', hB⟩ := hb i _ hbl
                have hpl : plOf E i = p := by simp [plOf, hbl, hp']
                rw [hpl]
                cases p with
                | cells _ => exact hB.elim
                | row sv svs =>
                  obtain ⟨h0, xs, h3, h4⟩ := hB
                  refine ⟨h0, xs, h3.mono fun x u hu => ?_, by rw [hw, hbase]; exact h4⟩
                  rw [hw]
                  exact hu.mono fun g hg _ => ⟨hmono g hg, rfl⟩
              | succ j =>
                obtain ⟨B, h3, h4⟩ := hrest j k (by simpa using hj)
                exact ⟨B, by simpa [mkB] using h3, h4⟩
          · cases hp
      · rename_i hbl
        split at hp
        · cases hp
        · rename_i z h2
          simp only [Option.some.injEq] at hp
          subst hp
          obtain ⟨hl, hrest⟩ := readBR_rep hb hw hbase hr hmono hrw' h2
          refine ⟨by simp [hl], fun j k hj => ?_⟩
          cases j with
          | zero =>
            simp only [List.getElem?_cons_zero, Option.some.injEq] at hj
            subst hj
            refine ⟨_, rfl, ?_, fun B0 h0 => by rw [hbl] at h0; cases h0⟩
            have hpl : plOf E i = .row (.slice none 0 0) [] := by simp [plOf, hbl]
            rw [hpl]
            exact ⟨rfl, [], rfl, by simp, .inl ⟨rfl, rfl⟩⟩
          | succ j =>
            obtain ⟨B, h3, h4⟩ := hrest j k (by simpa using hj)
            exact ⟨B, by simpa [mkB] using h3, h4⟩
      · cases hp
  | .mat t et e :: r, is, y, hrw, hp => by
    cases is with
    | nil => simp [readBR] at hp
    | cons i is =>
      have hrw' : Rows E E.bl E'.ok (datRowsB E.bl r is) := hrw
      simp only [readBR] at hp
      split at hp
      · rename_i t' et' e' ver iver l hbl
        cases ht : (Nat.beq t t' && Nat.beq et et') with
        | false => rw [ht] at hp; cases hp
        | true =>
          obtain ⟨ht1, ht2⟩ := andB ht
          have := Nat.eq_of_beq_eq_true ht1
          subst this
          have := Nat.eq_of_beq_eq_true ht2
          subst this
          simp only [ht, cond_true] at hp
          split at hp
          · rename_i he
            subst he
            split at hp
            · cases hp
            · rename_i z h2
              simp only [Option.some.injEq] at hp
              subst hp
              obtain ⟨hl, hrest⟩ := readBR_rep hb hw hbase hr hmono hrw' h2
              refine ⟨by simp [hl], fun j k hj => ?_⟩
              cases j with
              | zero =>
                simp only [List.getElem?_cons_zero, Option.some.injEq] at hj
                subst hj
                refine ⟨_, rfl, ?_, fun B0 h0 => by rw [hbl] at h0; injection h0 with h0; subst h0; rfl⟩
                obtain ⟨p, hp', hB⟩ := hb i _ hbl
                have hpl : plOf E i = p := by simp [plOf, hbl, hp']
                rw [hpl]
                cases p with
                | cells _ => exact hB.elim
                | row sv svs =>
                  have hM : MatOk E t et e' none l sv svs := hB
                  obtain ⟨vs, h3, h4⟩ := hM.outer
                  refine ⟨⟨vs, by rw [hw, hbase]; exact h3, h4⟩, hM.len, hM.hole, fun i s x hs hx => ?_, hM.sep0, hM.sep⟩
                  obtain ⟨xs, h5, h6⟩ := hM.inner i s x hs hx
                  refine ⟨xs, h5.mono fun x u hu => ?_, by rw [hw, hbase]; exact h6⟩
                  rw [hw]
                  exact hu.mono fun g hg _ => ⟨hmono g hg, rfl⟩
              | succ j =>
                obtain ⟨B, h3, h4⟩ := hrest j k (by simpa using hj)
                exact ⟨B, by simpa [mkB] using h3, h4⟩
          · cases hp
      · rename_i hbl
        split at hp
        · cases hp
        · rename_i z h2
          simp only [Option.some.injEq] at hp
          subst hp
          obtain ⟨hl, hrest⟩ := readBR_rep hb hw hbase hr hmono hrw' h2
          refine ⟨by simp [hl], fun j k hj => ?_⟩
          cases j with
          | zero =>
            simp only [List.getElem?_cons_zero, Option.some.injEq] at hj
            subst hj
            refine ⟨_, rfl, ?_, fun B0 h0 => by rw [hbl] at h0; cases h0⟩
            have hpl : plOf E i = .row (.slice none 0 0) [] := by simp [plOf, hbl]
            rw [hpl]
            exact MatOk.nil E' t et e
          | succ j =>
            obtain ⟨B, h3, h4⟩ := hrest j k (by simpa using hj)
            exact ⟨B, by simpa [mkB] using h3, h4⟩
      · cases hp
  | .map t k v vg :: r, is, y, hrw, hp => by
    cases is with
    | nil => simp [readBR] at hp
    | cons i is =>
      have hrw' : Rows E E.bl E'.ok (datRowsB E.bl r is) := hrw
      simp only [readBR] at hp
      split at hp
      · rename_i t' k' v' vg' l hbl
        cases ht : (Nat.beq t t' && (vg == vg')) with
        | false => rw [ht] at hp; cases hp
        | true =>
          obtain ⟨ht1, ht2⟩ := andB ht
          have := Nat.eq_of_beq_eq_true ht1
          subst this
          have : vg = vg' := by simpa using ht2
          subst this
          simp only [ht, cond_true] at hp
          split at hp
          · rename_i he
            subst he
            split at hp
            · rename_i he
              subst he
              split at hp
              · cases hp
              · rename_i z h2
                simp only [Option.some.injEq] at hp
                subst hp
                obtain ⟨hl, hrest⟩ := readBR_rep hb hw hbase hr hmono hrw' h2
                refine ⟨by simp [hl], fun j k hj => ?_⟩
                cases j with
                | zero =>
                  simp only [List.getElem?_cons_zero, Option.some.injEq] at hj
                  subst hj
                  refine ⟨_, rfl, ?_, fun B0 h0 => by rw [hbl] at h0; injection h0 with h0; subst h0; rfl⟩
                  obtain ⟨p, hp', hB⟩ := hb i _ hbl
                  have hpl : plOf E i = p := by simp [plOf, hbl, hp']
                  rw [hpl]
                  cases p with
                  | row _ _ => exact hB.elim
                  | cells g =>
                    obtain ⟨es, clock, h3, h4⟩ := hB
                    refine ⟨es, clock, by rw [hw]; exact h3, h4.mono (fun x u hu => ?_) (fun x u hu => ?_)⟩
                    · rw [hw]
                      exact hu.mono fun g hg _ => ⟨hmono g hg, rfl⟩
                    · rw [hw]
                      exact hu.mono fun g hg _ => ⟨hmono g hg, rfl⟩
                | succ j =>
                  obtain ⟨B, h3, h4⟩ := hrest j k (by simpa using hj)
                  exact ⟨B, by simpa [mkB] using h3, h4⟩
            · cases hp
          · cases hp
      · cases hp
  | .cells t l :: r, is, y, hrw, hp => by
    cases is with
    | nil => simp [readBR] at hp
    | cons i is =>
      simp only [readBR] at hp
      split at hp
      · rename_i t' cs hbl
        cases ht : Nat.beq t t' with
        | false => rw [ht] at hp; cases hp
        | true =>
          have := Nat.eq_of_beq_eq_true ht
          subst this
          simp only [ht, cond_true] at hp
          split at hp
          · cases hp
          · rename_i y1 h1
            split at hp
            · cases hp
            · rename_i z h2
              simp only [Option.some.injEq] at hp
              subst hp
              have hrow : datRowsB E.bl (.cells t l :: r) (i :: is) = datRows l cs ++ datRowsB E.bl r is := by simp [datRowsB, hbl]
              rw [hrow] at hrw
              obtain ⟨hl, hrest⟩ := readBR_rep hb hw hbase hr hmono (hrw.sub fun b hbm => List.mem_append_right _ hbm) h2
              refine ⟨by simp [hl], fun j k hj => ?_⟩
              cases j with
              | zero =>
                simp only [List.getElem?_cons_zero, Option.some.injEq] at hj
                subst hj
                refine ⟨_, rfl, ?_, fun B0 h0 => by rw [hbl] at h0; injection h0 with h0; subst h0; rfl⟩
                obtain ⟨p, hp', hB⟩ := hb i _ hbl
                have hpl : plOf E i = p := by simp [plOf, hbl, hp']
                rw [hpl]
                cases p with
                | row _ _ => exact hB.elim
                | cells g =>
                  obtain ⟨vs, hh, hcs⟩ := hB
                  refine ⟨vs, by rw [hw]; exact hh, ?_⟩
                  exact readC_rep2 hb hw hr (hrw.sub fun b hbm => List.mem_append_left _ hbm) hcs h1
              | succ j =>
                obtain ⟨B, h3, h4⟩ := hrest j k (by simpa using hj)
                exact ⟨B, by simpa [mkB] using h3, h4⟩
      · cases hp

theorem lookAll_rep {E : Env} {tm : List (Nat × V)} {tmps : Array Value} (h : ∀ t v, look tm t = some v → VRep E v (tmps.getD t undef)) : ∀ {l : List Nat} {vs : List V}, lookAll tm l = some vs → VReps E vs (l.map fun t => tmps.getD t undef)
  | [], vs, hl => by simp only [lookAll, Option.some.injEq] at hl; subst hl; rfl
  | t :: l, vs, hl => by
    simp only [lookAll] at hl
    split at hl
    · rename_i v hv
      split at hl
      · rename_i vs' hvs
        simp only [Option.some.injEq] at hl
        subst hl
        exact ⟨_, _, rfl, h t v hv, lookAll_rep h hvs⟩
      · cases hl
    · cases hl

theorem mkT_rep {E : Env} {ids : List Nat} {tmps : Array Value} : ∀ {slots : List Nat} {l : List (Bool × List CT)} {x : ST.dens l}, TReps E (mkS ids l x) (slots.map fun t => tmps.getD t undef) → ∀ t v, look (mkT ids slots l x) t = some v → VRep E v (tmps.getD t undef)
  | [], _, _, _, t, v, h => by simp [mkT, look] at h
  | _ :: _, [], _, _, t, v, h => by simp [mkT, look] at h
  | s :: ss, p :: l, x, hr, t, v, h => by
    obtain ⟨u, us, e, h1, h2⟩ := hr
    simp only [List.map_cons, List.cons.injEq] at e
    obtain ⟨e1, e2⟩ := e
    subst e1 e2
    simp only [mkT, look] at h
    by_cases hts : t = s
    · subst hts
      rw [beq_self, cond_true, Option.some.injEq] at h
      subst h
      exact VRep.mk h1
    · rw [beq_ne hts, cond_false] at h
      exact mkT_rep h2 t v h

theorem listEq_iff : ∀ {a b : List Nat}, listEq a b = true → a = b
  | [], [], _ => rfl
  | x :: r, y :: s, h => by
    simp only [listEq, Bool.and_eq_true] at h
    rw [Nat.eq_of_beq_eq_true h.1, listEq_iff h.2]
  | [], _ :: _, h => by simp [listEq] at h
  | _ :: _, [], h => by simp [listEq] at h

theorem View.weaken {n : Nat} {v : View} {σ : St} {d : v.den} (hd : v.read σ = some d) {ok0 : Nat → Prop} {base : Nat} {pl : Nat → Option Pl} {a : Act} {w : World} (hr : Rel n ok0 base pl (look σ.tm) (look σ.bl) a w) :
    ∃ plv, Rel n ok0 base plv (look (v.mk' d).tm) (look (v.mk' d).bl) a w ∧ StepM v.m pl (look σ.bl) w plv (look (v.mk' d).bl) w := by
  unfold View.read at hd
  split at hd
  · cases hd
  rename_i vs hvs
  split at hd
  · cases hd
  rename_i ids _
  split at hd
  · cases hd
  rename_i x hx
  split at hd
  · cases hd
  rename_i y hy
  cases hc : (Nat.ble v.m v.ins.length && (listEq (ids.take v.m) (upFrom 0 v.m) && (nodupB ids && !meet (datRowsS v.params vs ++ datRowsB (look σ.bl) v.ins ids) ids))) with
  | false => rw [hc] at hd; cases hd
  | true =>
    simp only [hc, cond_true, Option.some.injEq] at hd
    subst hd
    obtain ⟨c1, hc⟩ := andB hc
    obtain ⟨c2, hc⟩ := andB hc
    obtain ⟨c3, c4⟩ := andB hc
    have c1 := Nat.le_of_ble_eq_true c1
    have c2 := listEq_iff c2
    have c3 := nodupB_iff c3
    simp only [Bool.not_eq_true'] at c4
    have c4 := meet_iff.1 c4
    rw [look_mk_bl]
    generalize hbl : look σ.bl = bl at *
    let E : Env := envOf ok0 base pl bl w
    let plv : Nat → Option Pl := fun b => (ids[b]?).map (plOf E)
    let blv : Nat → Option Blk := fnBl (mkB (upFrom 0 v.ins.length) v.ins y)
    let Ev : Env := envOf ok0 base plv blv w
    have hblks : BlksOk E := hr.rel.blksOk
    -- a block of the view's that lies somewhere lies where a block of the state's does
    have hplv : ∀ b p g, plv b = some p → p.has g → ∃ i B, ids[b]? = some i ∧ bl i = some B ∧ pl i = some p := by
      intro b p g hp hg
      cases hb : ids[b]? with
      | none => simp [plv, hb] at hp
      | some i =>
        simp only [plv, hb, Option.map_some, Option.some.injEq] at hp
        cases hbi : bl i with
        | none =>
          have : plOf E i = .row (.slice none 0 0) [] := by simp [plOf, E, envOf, hbi]
          rw [this] at hp
          subst hp
          have hg := Pl.has_row hg
          simp [Value.ownBlock] at hg
        | some B =>
          obtain ⟨q, hq, _⟩ := hr.rel.blks i B hbi
          have : plOf E i = q := by simp [plOf, E, envOf, hbi, hq]
          rw [this] at hp
          subst hp
          exact ⟨i, B, rfl, hbi, hq⟩
    -- what is read is live
    have hlive : ∀ {l : List BT} {is : List Nat} {y : BT.dens l}, readBR bl ids l is = some y → ∀ i ∈ is, ∀ B, bl i = some B → B.live = true := by
      intro l
      induction l with
      | nil => intro is y h i hi; cases is with
        | nil => simp at hi
        | cons _ _ => simp [readBR] at h
      | cons t r ih =>
        intro is y h i hi B hB
        cases is with
        | nil => simp at hi
        | cons j is =>
          cases t with
          | cells t l =>
            simp only [readBR] at h
            split at h
            · rename_i t' cs hbj
              cases ht : Nat.beq t t' with
              | false => rw [ht] at h; cases h
              | true =>
                simp only [ht, cond_true] at h
                split at h
                · cases h
                · split at h
                  · cases h
                  · rename_i z hz
                    rcases List.mem_cons.1 hi with e | hi
                    · subst e; rw [hbj] at hB; injection hB with hB; subst hB; rfl
                    · exact ih hz i hi B hB
            · cases h
          | map t k v vg =>
            simp only [readBR] at h
            split at h
            · rename_i t' k' v' vg' l' hbj
              cases ht : (Nat.beq t t' && (vg == vg')) with
              | false => rw [ht] at h; cases h
              | true =>
                simp only [ht, cond_true] at h
                split at h
                · split at h
                  · split at h
                    · cases h
                    · rename_i z hz
                      rcases List.mem_cons.1 hi with e | hi
                      · subst e; rw [hbj] at hB; injection hB with hB; subst hB; rfl
                      · exact ih hz i hi B hB
                  · cases h
                · cases h
            · cases h
          | row t e =>
            simp only [readBR] at h
            split at h
            · rename_i t' e' ver l' hbj
              cases ht : Nat.beq t t' with
              | false => rw [ht] at h; cases h
              | true =>
                simp only [ht, cond_true] at h
                split at h
                · split at h
                  · cases h
                  · rename_i z hz
                    rcases List.mem_cons.1 hi with e | hi
                    · subst e; rw [hbj] at hB; injection hB with hB; subst hB; rfl
                    · exact ih hz i hi B hB
                · cases h
            · rename_i hbj
              split at h
              · cases h
              · rename_i z hz
                rcases List.mem_cons.1 hi with e | hi
                · subst e; rw [hbj] at hB; cases hB
                · exact ih hz i hi B hB
            · cases h
          | mat t et e =>
            simp only [readBR] at h
            split at h
            · rename_i t' et' e' ver iver l' hbj
              cases ht : (Nat.beq t t' && Nat.beq et et') with
              | false => rw [ht] at h; cases h
              | true =>
                simp only [ht, cond_true] at h
                split at h
                · split at h
                  · cases h
                  · rename_i z hz
                    rcases List.mem_cons.1 hi with e | hi
                    · subst e; rw [hbj] at hB; injection hB with hB; subst hB; rfl
                    · exact ih hz i hi B hB
                · cases h
            · rename_i hbj
              split at h
              · cases h
              · rename_i z hz
                rcases List.mem_cons.1 hi with e | hi
                · subst e; rw [hbj] at hB; cases hB
                · exact ih hz i hi B hB
            · cases h
    have hlive := hlive hy
    have hown : ∀ g, Own plv blv g → ∃ i B p, i ∈ ids ∧ bl i = some B ∧ B.live = true ∧ pl i = some p ∧ p.has g := by
      rintro g ⟨b, B, p, hB, hl, hp, hg⟩
      obtain ⟨i, B', h1, h2, h3⟩ := hplv b p g hp hg
      have hi := List.mem_of_getElem? h1
      exact ⟨i, B', p, hi, h2, hlive i hi B' h2, h3, hg⟩
    have hown' : ∀ g, Own plv blv g → Own pl bl g := fun g h => by
      obtain ⟨i, B, p, _, h1, h2, h3, h4⟩ := hown g h
      exact ⟨i, B, p, h1, h2, h3, h4⟩
    have hok : ∀ g, E.ok g → Ev.ok g := fun g h => ⟨h.1, fun ho => h.2 (hown' g ho)⟩
    have hrows : ∀ l : List Nat, (∀ b ∈ l, b ∉ ids) → Rows E E.bl Ev.ok l := fun l hl => ⟨hok, fun b hb t e ver l' hbl' => ⟨hbl', fun sv g hsv hg => by
      have hbl2 : bl b = some (.row t e ver l') := hbl'
      have hsv2 : pl b = some (.row sv []) := hsv
      refine ⟨.inr ?_, fun ho => ?_⟩
      · obtain ⟨p, hp, hB⟩ := hr.rel.blks b _ hbl2
        rw [hsv2] at hp
        injection hp with hp
        subst hp
        obtain ⟨_, xs, _, ho⟩ := hB
        rcases ho.2 with ⟨h1, _⟩ | ⟨g', cap, cur, h1, h2, _⟩
        · rw [h1] at hg; simp [Value.ownBlock] at hg
        · rw [h1] at hg
          simp only [Value.ownBlock, Option.some.injEq] at hg
          subst hg
          exact h2
      · obtain ⟨i, B, p, hi, h1, h2, h3, h4⟩ := hown g ho
        have hne : i ≠ b := by rintro rfl; exact hl i hb hi
        exact hr.rel.sep i b _ _ p (.row sv []) g hne h1 hbl2 h2 rfl h3 hsv2 h4 (.inl hg)⟩, fun b hb t et e ver iver hole l' hbl' => ⟨hbl', fun sv svs g hsv hg => by
      have hbl2 : bl b = some (.mat t et e ver iver hole l') := hbl'
      have hsv2 : pl b = some (.row sv svs) := hsv
      refine ⟨.inr ?_, fun ho => ?_⟩
      · obtain ⟨p, hp, hB⟩ := hr.rel.blks b _ hbl2
        rw [hsv2] at hp
        injection hp with hp
        subst hp
        have hM : MatOk (envOf ok0 base pl bl w) t et e hole l' sv svs := hB
        rcases hg with hg | ⟨k, s, hks, hg⟩
        · obtain ⟨vs, h1, _⟩ := hM.outer
          exact (h1.lt g hg).1
        · have hlt : k < l'.length := by rw [← hM.len]; exact (List.getElem?_eq_some_iff.1 hks).1
          obtain ⟨xs, _, h2⟩ := hM.inner k s l'[k] hks (List.getElem?_eq_getElem hlt)
          exact (h2.lt g hg).1
      · obtain ⟨i, B, p, hi, h1, h2, h3, h4⟩ := hown g ho
        have hne : i ≠ b := by rintro rfl; exact hl i hb hi
        exact hr.rel.sep i b _ _ p (.row sv svs) g hne h1 hbl2 h2 rfl h3 hsv2 h4 hg⟩⟩
    have hlen : ids.length = v.ins.length := by
      have : ∀ {l : List BT} {is : List Nat} {y : BT.dens l}, readBR bl ids l is = some y → is.length = l.length := by
        intro l
        induction l with
        | nil => intro is y h; cases is with
          | nil => rfl
          | cons _ _ => simp [readBR] at h
        | cons t r ih =>
          intro is y h
          cases is with
          | nil => cases t <;> simp [readBR] at h
          | cons j is =>
            cases t with
            | cells t l =>
              simp only [readBR] at h
              split at h
              · rename_i t' cs hbj
                cases ht : Nat.beq t t' with
                | false => rw [ht] at h; cases h
                | true =>
                  simp only [ht, cond_true] at h
                  split at h
                  · cases h
                  · split at h
                    · cases h
                    · rename_i z hz; simp [ih hz]
              · cases h
            | map t k v vg =>
              simp only [readBR] at h
              split at h
              · rename_i t' k' v' vg' l' hbj
                cases ht : (Nat.beq t t' && (vg == vg')) with
                | false => rw [ht] at h; cases h
                | true =>
                  simp only [ht, cond_true] at h
                  split at h
                  · split at h
                    · split at h
                      · cases h
                      · rename_i z hz; simp [ih hz]
                    · cases h
                  · cases h
              · cases h
            | row t e =>
              simp only [readBR] at h
              split at h
              · rename_i t' e' ver l' hbj
                cases ht : Nat.beq t t' with
                | false => rw [ht] at h; cases h
                | true =>
                  simp only [ht, cond_true] at h
                  split at h
                  · split at h
                    · cases h
                    · rename_i z hz; simp [ih hz]
                  · cases h
              · split at h
                · cases h
                · rename_i z hz; simp [ih hz]
              · cases h
            | mat t et e =>
              simp only [readBR] at h
              split at h
              · rename_i t' et' e' ver iver l' hbj
                cases ht : (Nat.beq t t' && Nat.beq et et') with
                | false => rw [ht] at h; cases h
                | true =>
                  simp only [ht, cond_true] at h
                  split at h
                  · split at h
                    · cases h
                    · rename_i z hz; simp [ih hz]
                  · cases h
              · split at h
                · cases h
                · rename_i z hz; simp [ih hz]
              · cases h
      exact this hy
    have hren : Ren E Ev ids (upFrom 0 v.ins.length) := by
      have key : ∀ b i, ids[b]? = some i → Ev.pl ((upFrom 0 v.ins.length).getD b 0) = some (plOf E i) := by
        intro b i hi
        have hlt : b < v.ins.length := by rw [← hlen]; exact (List.getElem?_eq_some_iff.1 hi).1
        rw [getD_upFrom hlt]
        simp [Ev, envOf, plv, hi]
      refine ⟨fun b i g hi h => ?_, fun b i sv svs t e ver l hi hb h => ?_, fun b i sv svs t et e ver iver hole l hi hb h => ?_, fun b i hi h => ?_⟩
      · rw [key b i hi]
        have h' : pl i = some (.cells g) := h
        cases hbi : bl i with
        | none => rw [hr.rel.fresh i hbi] at h'; cases h'
        | some B => simp [plOf, E, envOf, hbi, h']
      · rw [key b i hi]
        have h' : pl i = some (.row sv svs) := h
        have hb' : bl i = some _ := hb
        simp [plOf, E, envOf, hb', h']
      · rw [key b i hi]
        have h' : pl i = some (.row sv svs) := h
        have hb' : bl i = some _ := hb
        simp [plOf, E, envOf, hb', h']
      · rw [key b i hi]
        have h' : bl i = none := h
        simp [plOf, E, envOf, h']
    have hS := readS_rep2 hblks (show Ev.w = E.w from rfl) hren (hrows _ fun b hb => c4 b (List.mem_append_left _ hb)) (lookAll_rep hr.tmps hvs) hx
    obtain ⟨_, hB⟩ := readBR_rep hblks (show Ev.w = E.w from rfl) rfl hren hok (hrows _ fun b hb => c4 b (List.mem_append_right _ hb)) hy
    refine ⟨plv, ⟨hr.defers, hr.size, fun t v' ht => mkT_rep hS t v' ht, hr.rel.baseLe, fun i B hBi => ?_, fun i j B C p q g hij hBi hCj hl hlC hp hq hpg hqg => ?_, fun i hi => ?_⟩, rfl, rfl, rfl, Nat.le_refl _, fun g _ ho => ⟨rfl, fun h => ho (hown' g h)⟩, fun b g hb hp => ?_, fun b sv svs hb hp => ?_⟩
    · have hlt : i < ids.length := by
        have := (List.getElem?_eq_some_iff.1 (show (mkB (upFrom 0 v.ins.length) v.ins y)[i]? = some B from hBi)).1
        rw [length_mkB] at this
        omega
      obtain ⟨B', h1, h2, _⟩ := hB i ids[i] (List.getElem?_eq_getElem hlt)
      have h4 : (mkB (upFrom 0 v.ins.length) v.ins y)[i]? = some B := hBi
      rw [h1] at h4
      injection h4 with h4
      subst h4
      exact ⟨_, by simp [plv, List.getElem?_eq_getElem hlt], h2⟩
    · obtain ⟨i', B', h1, h2, h3⟩ := hplv i p g hp hpg
      obtain ⟨j', C', h4, h5, h6⟩ := hplv j q g hq hqg
      have hne : i' ≠ j' := by
        rintro rfl
        have q1 := place_of c3 h1
        have q2 := place_of c3 h4
        rw [q1] at q2
        injection q2 with q2
        exact hij q2
      exact hr.rel.sep i' j' B' C' p q g hne h2 h5 (hlive i' (List.mem_of_getElem? h1) B' h2) (hlive j' (List.mem_of_getElem? h4) C' h5) h3 h6 hpg hqg
    · have hge : ids.length ≤ i := by
        have h1 : (mkB (upFrom 0 v.ins.length) v.ins y)[i]? = none := hi
        rw [List.getElem?_eq_none_iff, length_mkB] at h1
        omega
      simp [plv, List.getElem?_eq_none hge]
    · have hget : ids[b]? = some b := by
        have h1 : (ids.take v.m)[b]? = some b := by rw [c2]; simpa using get_upFrom (n := v.m) (s := 0) hb
        rwa [List.getElem?_take_of_lt hb] at h1
      cases hbi : bl b with
      | none => rw [hr.rel.fresh b hbi] at hp; cases hp
      | some B => simp [plv, hget, plOf, E, envOf, hbi, hp]
    · have hget : ids[b]? = some b := by
        have h1 : (ids.take v.m)[b]? = some b := by rw [c2]; simpa using get_upFrom (n := v.m) (s := 0) hb
        rwa [List.getElem?_take_of_lt hb] at h1
      cases hbi : bl b with
      | none => rw [hr.rel.fresh b hbi] at hp; cases hp
      | some B => exact ⟨sv, svs, by simp [plv, hget, plOf, E, envOf, hbi, hp]⟩
end Go.Lift
