/- The lifter, part L: templates read and filled; calls. -/
import Derived.Test.YtamnjokpncjbfaaLiftK
namespace Go.Lift
open Go.RowKit

theorem memB_iff {x : Nat} : ∀ {l : List Nat}, memB x l = true ↔ x ∈ l
  | [] => by simp [memB]
  | y :: r => by
    simp only [memB, Bool.or_eq_true, memB_iff (l := r), List.mem_cons]
    constructor
    · rintro (h | h)
      · exact .inl (Nat.eq_of_beq_eq_true h)
      · exact .inr h
    · rintro (h | h)
      · subst h; exact .inl (beq_self x)
      · exact .inr h

theorem nodupB_iff : ∀ {l : List Nat}, nodupB l = true → l.Nodup
  | [], _ => List.nodup_nil
  | x :: r, h => by
    obtain ⟨h1, h2⟩ := andB h
    refine List.nodup_cons.2 ⟨fun hm => ?_, nodupB_iff h2⟩
    have := memB_iff.2 hm
    rw [this] at h1
    cases h1

theorem mem_upFrom {i : Nat} : ∀ {n s : Nat}, i ∈ upFrom s n ↔ s ≤ i ∧ i < s + n
  | 0, s => by simp only [upFrom, List.not_mem_nil, false_iff]; omega
  | n + 1, s => by simp only [upFrom, List.mem_cons, mem_upFrom (n := n)]; omega

theorem length_upFrom : ∀ {n s : Nat}, (upFrom s n).length = n
  | 0, _ => rfl
  | n + 1, s => by simp [upFrom, length_upFrom (n := n)]

theorem get_upFrom : ∀ {n s b : Nat}, b < n → (upFrom s n)[b]? = some (s + b)
  | 0, _, _, h => by omega
  | n + 1, s, 0, _ => rfl
  | n + 1, s, b + 1, h => by
    simp only [upFrom, List.getElem?_cons_succ]
    rw [get_upFrom (n := n) (by omega)]
    congr 1
    omega

theorem nodup_upFrom : ∀ {n s : Nat}, (upFrom s n).Nodup
  | 0, _ => List.nodup_nil
  | n + 1, s => List.nodup_cons.2 ⟨fun h => by have := mem_upFrom.1 h; omega, nodup_upFrom⟩

theorem allFree_spec {bl : Nat → Option Blk} : ∀ {l : List Nat}, allFree bl l = true → ∀ i ∈ l, bl i = none
  | [], _, i, h => by simp at h
  | j :: r, h, i, hi => by
    simp only [allFree] at h
    split at h
    · rename_i hj
      rcases List.mem_cons.1 hi with rfl | hi
      · exact hj
      · exact allFree_spec h i hi
    · cases h

/-! ### Reading -/
/-- What the second state must know of the first one's blocks. -/
structure Ren (E E' : Env) (ids ids' : List Nat) : Prop where
  cells : ∀ b i g, ids[b]? = some i → E.pl i = some (.cells g) → E'.pl (ids'.getD b 0) = some (.cells g)
  row : ∀ b i sv svs t e ver l, ids[b]? = some i → E.bl i = some (.row t e ver l) → E.pl i = some (.row sv svs) → E'.pl (ids'.getD b 0) = some (.row sv svs)
  mat : ∀ b i sv svs t et e ver iver hole l, ids[b]? = some i → E.bl i = some (.mat t et e ver iver hole l) → E.pl i = some (.row sv svs) → E'.pl (ids'.getD b 0) = some (.row sv svs)
  nil : ∀ b i, ids[b]? = some i → E.bl i = none → E'.pl (ids'.getD b 0) = some (.row (.slice none 0 0) [])

theorem fnCaps {E E' : Env} {ids ids' : List Nat} (hr : Ren E E' ids ids') : ∀ (caps caps' gs : List Nat), caps.map (ids[·]?) = caps'.map some → caps'.map E.pl = gs.map (fun g => some (.cells g)) →
    (caps.map fun b => ids'.getD b 0).map E'.pl = gs.map (fun g => some (.cells g))
  | [], caps', gs, h, hg => by
    cases caps' with
    | nil => cases gs <;> simp_all
    | cons b bs => simp at h
  | b :: bs, caps', gs, h, hg => by
    cases caps' with
    | nil => simp at h
    | cons b' bs' =>
      cases gs with
      | nil => simp at hg
      | cons g gs =>
        simp only [List.map_cons, List.cons.injEq] at h hg ⊢
        exact ⟨hr.cells b b' g h.1 hg.1, fnCaps hr bs bs' gs h.2 hg.2⟩

theorem readC_rep {E E' : Env} {blp : Nat → Option Blk} {ids ids' : List Nat} (hb : BlksOk E) (hw : E'.w = E.w) (hr : Ren E E' ids ids') (hsub : ∀ i ∈ ids, blp i = E.bl i) : ∀ {l : List CT} {cs : List C} {vs : List Value} {y : CT.dens l},
    Rows E blp E'.ok (rowIds cs) → CReps E cs vs → readC blp ids l cs = some y → CReps E' (mkC ids' l y) vs
  | [], cs, vs, y, hrw, h, hp => by
    cases cs with
    | nil => exact h
    | cons c cs => simp [readC] at hp
  | .data τ :: l, cs, vs, y, hrw, h, hp => by
    simp only [readC] at hp
    split at hp
    · cases hp
    · rename_i x r hx
      split at hp
      · cases hp
      · rename_i y' hy
        simp only [Option.some.injEq] at hp
        subst hp
        obtain ⟨us, ws, e, d, c, ds, hc⟩ := pack_rep hb hrw h hx
        have hrw1 : Rows E blp E'.ok (rowIds r) := hrw.sub fun b hbm => by rw [hc, rowIds_append]; exact List.mem_append_right _ hbm
        rw [e]
        refine CReps.append ?_ (readC_rep hb hw hr hsub hrw1 c hy)
        exact cells_rep (by rw [hw]; exact d)
  | .ptr b o :: l, cs, vs, y, hrw, h, hp => by
    cases cs with
    | nil => simp [readC] at hp
    | cons c cs =>
      cases c <;> simp only [readC] at hp <;> try (cases hp; done)
      rename_i b' o'
      split at hp
      · rename_i i hi
        cases hc : (Nat.beq i b' && Nat.beq o o') with
        | false => rw [hc] at hp; cases hp
        | true =>
          simp only [hc, cond_true] at hp
          obtain ⟨h1, h2⟩ := andB hc
          have h1 := Nat.eq_of_beq_eq_true h1
          have h2 := Nat.eq_of_beq_eq_true h2
          subst h1 h2
          obtain ⟨v, vs', e, ⟨g, hg, hv⟩, ht⟩ := h
          exact ⟨v, vs', e, ⟨g, hr.cells b i g hi hg, hv⟩, readC_rep hb hw hr hsub hrw.tail ht hp⟩
      · cases hp
  | .rowh b :: l, cs, vs, y, hrw, h, hp => by
    cases cs with
    | nil => simp [readC] at hp
    | cons c cs =>
      cases c <;> simp only [readC] at hp <;> try (cases hp; done)
      · -- nil
        split at hp
        · rename_i i hi
          split at hp
          · rename_i hn
            obtain ⟨v, vs', e, hv, ht⟩ := h
            simp only [CRep] at hv
            subst hv
            have hn' : E.bl i = none := by rw [← hsub i (List.mem_of_getElem? hi)]; exact hn
            exact ⟨_, vs', e, ⟨rfl, _, _, hr.nil b i hi hn', fun _ _ _ _ _ => ⟨Nat.zero_le _, fun _ => rfl⟩⟩, readC_rep hb hw hr hsub hrw.tail ht hp⟩
          · cases hp
        · cases hp
      · rename_i b' ver
        split at hp
        · rename_i i hi
          cases hc : Nat.beq i b' with
          | false => rw [hc] at hp; cases hp
          | true =>
            have := Nat.eq_of_beq_eq_true hc
            subst this
            simp only [hc, cond_true] at hp
            split at hp
            · rename_i t e ver' l' hbl
              cases hv' : Nat.beq ver ver' with
              | false => rw [hv'] at hp; cases hp
              | true =>
                have := Nat.eq_of_beq_eq_true hv'
                subst this
                simp only [hv', cond_true] at hp
                obtain ⟨v, vs', ev, ⟨h1, sv, svs, hsv, hcur⟩, ht⟩ := h
                have hbl' : E.bl i = some (.row t e ver l') := by rw [← hsub i (List.mem_of_getElem? hi)]; exact hbl
                have hvs := (hcur t e ver l' hbl').2 rfl
                exact ⟨v, vs', ev, ⟨h1, sv, svs, hr.row b i sv svs t e ver l' hi hbl' hsv, fun _ _ _ _ _ => ⟨Nat.zero_le _, fun _ => hvs⟩⟩, readC_rep hb hw hr hsub hrw.tail ht hp⟩
            · cases hp
        · cases hp
  | .fn f caps :: l, cs, vs, y, hrw, h, hp => by
    cases cs with
    | nil => simp [readC] at hp
    | cons c cs =>
      cases c <;> simp only [readC] at hp <;> try (cases hp; done)
      rename_i f' caps'
      cases hc : (Nat.beq f f' && decide (caps.map (ids[·]?) = caps'.map some)) with
      | false => rw [hc] at hp; cases hp
      | true =>
        simp only [hc, cond_true] at hp
        obtain ⟨h1, h2⟩ := andB hc
        have h1 := Nat.eq_of_beq_eq_true h1
        have h2 := of_decide_eq_true h2
        subst h1
        obtain ⟨v, vs', e, ⟨gs, hg, hv⟩, ht⟩ := h
        refine ⟨v, vs', e, ⟨gs, ?_, hv⟩, readC_rep hb hw hr hsub hrw.tail ht hp⟩
        exact fnCaps hr caps caps' gs h2 hg
  | .maph b :: l, cs, vs, y, hrw, h, hp => by
    cases cs with
    | nil => simp [readC] at hp
    | cons c cs =>
      cases c <;> simp only [readC] at hp <;> try (cases hp; done)
      rename_i b'
      split at hp
      · rename_i i hi
        cases hc : Nat.beq i b' with
        | false => rw [hc] at hp; cases hp
        | true =>
          simp only [hc, cond_true] at hp
          have h1 := Nat.eq_of_beq_eq_true hc
          subst h1
          obtain ⟨v, vs', e, ⟨g, hg, hv⟩, ht⟩ := h
          exact ⟨v, vs', e, ⟨g, hr.cells b i g hi hg, hv⟩, readC_rep hb hw hr hsub hrw.tail ht hp⟩
      · cases hp
  | .math b :: l, cs, vs, y, hrw, h, hp => by
    cases cs with
    | nil => simp [readC] at hp
    | cons c cs =>
      cases c <;> simp only [readC] at hp <;> try (cases hp; done)
      · -- nil
        split at hp
        · rename_i i hi
          split at hp
          · rename_i hn
            obtain ⟨v, vs', e, hv, ht⟩ := h
            simp only [CRep] at hv
            subst hv
            have hn' : E.bl i = none := by rw [← hsub i (List.mem_of_getElem? hi)]; exact hn
            exact ⟨_, vs', e, ⟨rfl, _, _, hr.nil b i hi hn', fun _ _ _ _ _ _ _ _ => ⟨Nat.zero_le _, fun _ => rfl⟩⟩, readC_rep hb hw hr hsub hrw.tail ht hp⟩
          · cases hp
        · cases hp
      · rename_i b' ver
        split at hp
        · rename_i i hi
          cases hc : Nat.beq i b' with
          | false => rw [hc] at hp; cases hp
          | true =>
            have := Nat.eq_of_beq_eq_true hc
            subst this
            simp only [hc, cond_true] at hp
            split at hp
            · rename_i t et e ver' iver l' hbl
              cases hv' : Nat.beq ver ver' with
              | false => rw [hv'] at hp; cases hp
              | true =>
                have := Nat.eq_of_beq_eq_true hv'
                subst this
                simp only [hv', cond_true] at hp
                obtain ⟨v, vs', ev, ⟨h1, sv, svs, hsv, hcur⟩, ht⟩ := h
                have hbl' : E.bl i = some (.mat t et e ver iver none l') := by rw [← hsub i (List.mem_of_getElem? hi)]; exact hbl
                have hvs := (hcur _ _ _ _ _ _ _ hbl').2 rfl
                exact ⟨v, vs', ev, ⟨h1, sv, svs, hr.mat b i sv svs _ _ _ _ _ _ _ hi hbl' hsv, fun _ _ _ _ _ _ _ _ => ⟨Nat.zero_le _, fun _ => hvs⟩⟩, readC_rep hb hw hr hsub hrw.tail ht hp⟩
            · cases hp
        · cases hp
  | .nilc :: l, cs, vs, y, hrw, h, hp => by
    cases cs with
    | nil => simp [readC] at hp
    | cons c cs => cases c <;> simp [readC] at hp
  | .lsome _ :: l, cs, vs, y, hrw, h, hp => by
    cases cs with
    | nil => simp [readC] at hp
    | cons c cs => cases c <;> simp [readC] at hp
  | .junk :: l, cs, vs, y, hrw, h, hp => by
    cases cs with
    | nil => simp [readC] at hp
    | cons c cs =>
      simp only [readC] at hp
      obtain ⟨v, vs', e, hv, ht⟩ := h
      exact ⟨v, vs', e, CRep.oneCell hv, readC_rep hb hw hr hsub hrw.tail ht hp⟩

/-- Values and abstract values, side by side. -/
def VReps (E : Env) : List V → List Value → Prop
  | [], us => us = []
  | v :: vs, us => ∃ u us', us = u :: us' ∧ VRep E v u ∧ VReps E vs us'

theorem rowsOfV_cons {v : V} {vs : List V} {cs : List C} (h : v.cells = some cs) : rowsOfV (v :: vs) = rowIds cs ++ rowsOfV vs := by simp [rowsOfV, h]

theorem readS_rep {E E' : Env} {blp : Nat → Option Blk} {ids ids' : List Nat} (hb : BlksOk E) (hw : E'.w = E.w) (hr : Ren E E' ids ids') (hsub : ∀ i ∈ ids, blp i = E.bl i) : ∀ {l : List (Bool × List CT)} {vs : List V} {us : List Value} {y : ST.dens l},
    Rows E blp E'.ok (rowsOfV vs) → VReps E vs us → readS blp ids l vs = some y → TReps E' (mkS ids' l y) us
  | [], vs, us, y, hrw, h, hp => by
    cases vs with
    | nil => exact h
    | cons v vs => simp [readS] at hp
  | t :: l, vs, us, y, hrw, h, hp => by
    cases vs with
    | nil => simp [readS] at hp
    | cons v vs =>
      obtain ⟨u, us', e, hv, ht⟩ := h
      obtain ⟨agg, ct⟩ := t
      cases agg with
      | false =>
        cases v <;> simp only [readS] at hp <;> try (cases hp; done)
        rename_i x
        split at hp
        · cases hp
        · rename_i y1 h1
          split at hp
          · cases hp
          · rename_i z h2
            simp only [Option.some.injEq] at hp
            subst hp
            have hrow : rowsOfV (V.c x :: vs) = rowIds [x] ++ rowsOfV vs := rowsOfV_cons rfl
            refine ⟨u, us', e, ⟨[u], ?_, by simp⟩, readS_rep hb hw hr hsub (hrw.sub fun b hbm => by rw [hrow]; exact List.mem_append_right _ hbm) ht h2⟩
            exact readC_rep hb hw hr hsub (hrw.sub fun b hbm => by rw [hrow]; exact List.mem_append_left _ hbm) (show CReps E [x] [u] from ⟨u, [], rfl, hv, rfl⟩) h1
      | true =>
        cases v <;> simp only [readS] at hp <;> try (cases hp; done)
        rename_i cs
        split at hp
        · cases hp
        · rename_i y1 h1
          split at hp
          · cases hp
          · rename_i z h2
            simp only [Option.some.injEq] at hp
            subst hp
            have hrow : rowsOfV (V.agg cs :: vs) = rowIds cs ++ rowsOfV vs := rowsOfV_cons rfl
            obtain ⟨xs, hxs, hu⟩ := hv
            refine ⟨u, us', e, ⟨xs, ?_, hu⟩, readS_rep hb hw hr hsub (hrw.sub fun b hbm => by rw [hrow]; exact List.mem_append_right _ hbm) ht h2⟩
            exact readC_rep hb hw hr hsub (hrw.sub fun b hbm => by rw [hrow]; exact List.mem_append_left _ hbm) hxs h1

/-- The borrowed blocks, as the callee sees them. -/
theorem readB_rep {E E' : Env} {blp : Nat → Option Blk} {ids ids' : List Nat} (hb : BlksOk E) (hw : E'.w = E.w) (hr : Ren E E' ids ids') (hsub : ∀ i ∈ ids, blp i = E.bl i) : ∀ {l : List BT} {is : List Nat} {y : BT.dens l},
    Rows E blp E'.ok (rowsOfB blp is) → (∀ i ∈ is, i ∈ ids) → readB blp ids l is = some y → is.length = l.length ∧ ∀ (j i : Nat), is[j]? = some i → ∃ g B, E.pl i = some (.cells g) ∧ (mkB ids' l y)[j]? = some B ∧ BRep E' B (.cells g) ∧ B.live = true
  | [], is, y, hrw, hin, hp => by
    cases is with
    | nil => exact ⟨rfl, fun j i h => by simp at h⟩
    | cons i is => simp [readB] at hp
  | .row t e :: r, is, y, hrw, hin, hp => by cases is <;> simp [readB] at hp
  | .map t k v vg :: r, is, y, hrw, hin, hp => by cases is <;> simp [readB] at hp
  | .mat t et e :: r, is, y, hrw, hin, hp => by cases is <;> simp [readB] at hp
  | .cells t l :: r, is, y, hrw, hin, hp => by
    cases is with
    | nil => simp [readB] at hp
    | cons i is =>
      simp only [readB] at hp
      split at hp
      · rename_i t' cs hbl
        cases ht : Nat.beq t t' with
        | false => rw [ht] at hp; cases hp
        | true =>
          have := Nat.eq_of_beq_eq_true ht
          subst this
          simp only [ht, cond_true] at hp
          split at hp
          · cases hp
          · rename_i y1 h1
            split at hp
            · cases hp
            · rename_i z h2
              simp only [Option.some.injEq] at hp
              subst hp
              have hrow : rowsOfB blp (i :: is) = rowIds cs ++ rowsOfB blp is := by simp [rowsOfB, hbl]
              obtain ⟨hl, hrest⟩ := readB_rep hb hw hr hsub (hrw.sub fun b hbm => by rw [hrow]; exact List.mem_append_right _ hbm) (fun j hj => hin j (List.mem_cons_of_mem _ hj)) h2
              refine ⟨by simp [hl], fun j k hj => ?_⟩
              cases j with
              | zero =>
                simp only [List.getElem?_cons_zero, Option.some.injEq] at hj
                subst hj
                have hbl' : E.bl i = some (.cells t cs) := by rw [← hsub i (hin i (by simp))]; exact hbl
                obtain ⟨p, hp', hB⟩ := hb i _ hbl'
                cases p with
                | row _ _ => exact hB.elim
                | cells g =>
                  obtain ⟨vs, hh, hcs⟩ := hB
                  refine ⟨g, _, hp', rfl, ⟨vs, by rw [hw]; exact hh, ?_⟩, rfl⟩
                  exact readC_rep hb hw hr hsub (hrw.sub fun b hbm => by rw [hrow]; exact List.mem_append_left _ hbm) hcs h1
              | succ j =>
                obtain ⟨g, B, h3, h4, h5, h6⟩ := hrest j k (by simpa using hj)
                exact ⟨g, B, h3, by simpa [mkB] using h4, h5, h6⟩
      · cases hp

theorem length_mkB {ids : List Nat} : ∀ {l : List BT} {y : BT.dens l}, (mkB ids l y).length = l.length
  | [], _ => rfl
  | .cells _ _ :: r, y => by simp [mkB, length_mkB (l := r)]
  | .row _ _ :: r, y => by simp [mkB, length_mkB (l := r)]
  | .map _ _ _ _ :: r, y => by simp [mkB, length_mkB (l := r)]
  | .mat _ _ _ :: r, y => by simp [mkB, length_mkB (l := r)]
end Go.Lift
