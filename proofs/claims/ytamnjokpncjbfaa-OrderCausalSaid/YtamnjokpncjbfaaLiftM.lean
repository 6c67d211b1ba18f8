/- The lifter, part M: calls. -/
import Derived.Test.YtamnjokpncjbfaaLiftL
namespace Go.Lift
open Go.RowKit

/-! ### A template's blocks under other numbers -/
structure Ren2 (m : Nat) (E E' : Env) (ids ids' : List Nat) : Prop where
  cells : ∀ b g, b < m → E.pl (ids.getD b 0) = some (.cells g) → E'.pl (ids'.getD b 0) = some (.cells g)
  row : ∀ b sv svs, b < m → E.pl (ids.getD b 0) = some (.row sv svs) → E'.pl (ids'.getD b 0) = some (.row sv svs) ∧ (∀ t e ver l, E'.bl (ids'.getD b 0) = some (.row t e ver l) → E.bl (ids.getD b 0) = some (.row t e ver l)) ∧
    (∀ t et e ver iver hole l, E'.bl (ids'.getD b 0) = some (.mat t et e ver iver hole l) → E.bl (ids.getD b 0) = some (.mat t et e ver iver hole l))

theorem fnCaps2 {m : Nat} {E E' : Env} {ids ids' : List Nat} (hr : Ren2 m E E' ids ids') : ∀ (caps gs : List Nat), caps.all (fun b => Nat.blt b m) = true → (caps.map fun b => ids.getD b 0).map E.pl = gs.map (fun g => some (.cells g)) →
    (caps.map fun b => ids'.getD b 0).map E'.pl = gs.map (fun g => some (.cells g))
  | [], gs, _, hg => by cases gs <;> simp_all
  | b :: bs, gs, hb, hg => by
    cases gs with
    | nil => simp at hg
    | cons g gs =>
      simp only [List.map_cons, List.cons.injEq] at hg ⊢
      obtain ⟨h1, h2⟩ := andB (show (Nat.blt b m && bs.all (fun b => Nat.blt b m)) = true from hb)
      exact ⟨hr.cells b g (blt_lt h1) hg.1, fnCaps2 hr bs gs h2 hg.2⟩

theorem mkC_ren {m : Nat} {E E' : Env} {ids ids' : List Nat} (hr : Ren2 m E E' ids ids') {all : Prop} (hd : ∀ (τ : Ty) (x : τ.den) (us : List Value), (all ∨ τ.flat = true) → DRep E.w E.ok τ x us → DRep E'.w E'.ok τ x us) :
    ∀ {l : List CT} {y : CT.dens l} {vs : List Value}, CT.bnd m l = true → (all ∨ CT.flat l = true) → CReps E (mkC ids l y) vs → CReps E' (mkC ids' l y) vs
  | [], _, _, _, _, h => h
  | .data τ :: l, y, vs, hb, hf, h => by
    obtain ⟨us, ws, e, h1, h2⟩ := CReps.split h
    rw [e]
    have hf1 : all ∨ τ.flat = true := hf.imp id fun h => by simp only [CT.flat, Bool.and_eq_true] at h; exact h.1
    have hf2 : all ∨ CT.flat l = true := hf.imp id fun h => by simp only [CT.flat, Bool.and_eq_true] at h; exact h.2
    refine CReps.append ?_ (mkC_ren hr hd (by simpa [CT.bnd] using hb) hf2 h2)
    -- the cells of a datum are the datum
    have key : ∀ (τ : Ty) (x : τ.den) (us : List Value), (all ∨ τ.flat = true) → CReps E (cells τ x) us → CReps E' (cells τ x) us := by
      intro τ
      induction τ with
      | bool => intro x us _ h; exact h
      | int k => intro x us _ h; exact h
      | str => intro x us _ h; exact h
      | unit => intro x us _ h; exact h
      | prod a b iha ihb =>
        intro x us hf h
        obtain ⟨p, q, e, h1, h2⟩ := CReps.split h
        rw [e]
        have g1 : all ∨ a.flat = true := hf.imp id fun h => by simp only [Ty.flat, Bool.and_eq_true] at h; exact h.1
        have g2 : all ∨ b.flat = true := hf.imp id fun h => by simp only [Ty.flat, Bool.and_eq_true] at h; exact h.2
        exact (iha _ _ g1 h1).append (ihb _ _ g2 h2)
      | slice e ih =>
        intro x us hf h
        obtain ⟨v, vs', e1, h1, h2⟩ := h
        exact ⟨v, vs', e1, hd (.slice e) x [v] hf h1, h2⟩
    exact key τ _ _ hf1 h1
  | .ptr b o :: l, y, vs, hb, hf, ⟨v, vs', e, ⟨g, hg, hv⟩, ht⟩ => by
    obtain ⟨hb1, hb2⟩ := andB (show (Nat.blt b m && CT.bnd m l) = true from hb)
    exact ⟨v, vs', e, ⟨g, hr.cells b g (blt_lt hb1) hg, hv⟩, mkC_ren hr hd hb2 (hf.imp id fun h => by simpa [CT.flat] using h) ht⟩
  | .rowh b :: l, y, vs, hb, hf, ⟨v, vs', e, ⟨h1, sv, svs, hsv, hcur⟩, ht⟩ => by
    obtain ⟨hb1, hb2⟩ := andB (show (Nat.blt b m && CT.bnd m l) = true from hb)
    obtain ⟨h2, h3, _⟩ := hr.row b sv svs (blt_lt hb1) hsv
    exact ⟨v, vs', e, ⟨h1, sv, svs, h2, fun t e ver l h => hcur t e ver l (h3 t e ver l h)⟩, mkC_ren hr hd hb2 (hf.imp id fun h => by simpa [CT.flat] using h) ht⟩
  | .math b :: l, y, vs, hb, hf, ⟨v, vs', e, ⟨h1, sv, svs, hsv, hcur⟩, ht⟩ => by
    obtain ⟨hb1, hb2⟩ := andB (show (Nat.blt b m && CT.bnd m l) = true from hb)
    obtain ⟨h2, _, h3⟩ := hr.row b sv svs (blt_lt hb1) hsv
    exact ⟨v, vs', e, ⟨h1, sv, svs, h2, fun t et e ver iver hole l h => hcur t et e ver iver hole l (h3 t et e ver iver hole l h)⟩, mkC_ren hr hd hb2 (hf.imp id fun h => by simpa [CT.flat] using h) ht⟩
  | .fn f caps :: l, y, vs, hb, hf, ⟨v, vs', e, ⟨gs, hg, hv⟩, ht⟩ => by
    obtain ⟨hb1, hb2⟩ := andB (show (caps.all (fun b => Nat.blt b m) && CT.bnd m l) = true from hb)
    refine ⟨v, vs', e, ⟨gs, ?_, hv⟩, mkC_ren hr hd hb2 (hf.imp id fun h => by simpa [CT.flat] using h) ht⟩
    exact fnCaps2 hr caps gs hb1 hg
  | .maph b :: l, y, vs, hb, hf, ⟨v, vs', e, ⟨g, hg, hv⟩, ht⟩ => by
    obtain ⟨hb1, hb2⟩ := andB (show (Nat.blt b m && CT.bnd m l) = true from hb)
    exact ⟨v, vs', e, ⟨g, hr.cells b g (blt_lt hb1) hg, hv⟩, mkC_ren hr hd hb2 (hf.imp id fun h => by simpa [CT.flat] using h) ht⟩
  | .nilc :: l, y, vs, hb, hf, ⟨v, vs', e, hv, ht⟩ => ⟨v, vs', e, hv, mkC_ren hr hd (by simpa [CT.bnd] using hb) (hf.imp id fun h => by simpa [CT.flat] using h) ht⟩
  | .lsome e0 :: l, y, vs, hb, hf, ⟨v, vs', e, hv, ht⟩ => by
    have ha : all := hf.resolve_right (by simp [CT.flat])
    exact ⟨v, vs', e, ⟨hd (.slice e0) y.1 [v] (.inl ha) hv.1, hv.2⟩, mkC_ren hr hd (by simpa [CT.bnd] using hb) (.inl ha) ht⟩
  | .junk :: l, y, vs, hb, hf, ⟨v, vs', e, hv, ht⟩ => ⟨v, vs', e, hv, mkC_ren hr hd (by simpa [CT.bnd] using hb) (hf.imp id fun h => by simpa [CT.flat] using h) ht⟩

theorem mkS_ren {m : Nat} {E E' : Env} {ids ids' : List Nat} (hr : Ren2 m E E' ids ids') {all : Prop} (hd : ∀ (τ : Ty) (x : τ.den) (us : List Value), (all ∨ τ.flat = true) → DRep E.w E.ok τ x us → DRep E'.w E'.ok τ x us) :
    ∀ {l : List (Bool × List CT)} {y : ST.dens l} {vs : List Value}, ST.bnd m l = true → (all ∨ ST.flat l = true) → TReps E (mkS ids l y) vs → TReps E' (mkS ids' l y) vs
  | [], _, _, _, _, h => h
  | t :: l, y, vs, hb, hf, ⟨v, vs', e, ⟨xs, hx, hv⟩, ht⟩ => by
    obtain ⟨hb1, hb2⟩ := andB (show (CT.bnd m t.2 && ST.bnd m l) = true from hb)
    have hf1 : all ∨ CT.flat t.2 = true := hf.imp id fun h => (andB (show (CT.flat t.2 && ST.flat l) = true from h)).1
    have hf2 : all ∨ ST.flat l = true := hf.imp id fun h => (andB (show (CT.flat t.2 && ST.flat l) = true from h)).2
    exact ⟨v, vs', e, ⟨xs, mkC_ren hr hd hb1 hf1 hx, hv⟩, mkS_ren hr hd hb2 hf2 ht⟩

/-- What a call hands back, of its results. -/
def retVal : List Value → Value
  | [v] => v
  | vs => .tuple vs.toArray

theorem TReps.res {E : Env} : ∀ {ts : List (Bool × List C)} {vs : List Value}, TReps E ts vs → VRep E (resV ts) (retVal vs)
  | [], vs, h => by
    have h' : vs = [] := h
    subst h'
    exact ⟨[], rfl, h⟩
  | [t], vs, ⟨v, vs', e, h1, h2⟩ => by
    have h2' : vs' = [] := h2
    subst h2' e
    exact VRep.mk h1
  | t :: t2 :: ts, vs, h => by
    obtain ⟨v, vs', e, h1, v2, vs2, e2, h2, h3⟩ := id h
    subst e e2
    exact ⟨_, rfl, h⟩

theorem mkB_ren {m : Nat} {E E' : Env} {ids ids' : List Nat} (hr : Ren2 m E E' ids ids') (hbase : E'.base ≤ E.base) {all : Prop} (hd : ∀ (τ : Ty) (x : τ.den) (us : List Value), (all ∨ τ.flat = true) → DRep E.w E.ok τ x us → DRep E'.w E'.ok τ x us) (hw : E'.w = E.w) :
    ∀ {l : List BT} {y : BT.dens l} {j : Nat} {B : Blk} {p : Pl}, BT.bnd m l = true → (all ∨ BT.flat l = true) → (mkB ids l y)[j]? = some B → BRep E B p → ∃ B', (mkB ids' l y)[j]? = some B' ∧ BRep E' B' p ∧ B'.live = B.live ∧ (∀ t e ver l, B' = .row t e ver l → B = .row t e ver l) ∧ (∀ t et e ver iver hole l, B' = .mat t et e ver iver hole l → B = .mat t et e ver iver hole l)
  | [], _, j, _, _, _, _, h, _ => by simp [mkB] at h
  | .cells t l :: r, y, 0, B, p, hb, hf, h, hB => by
    simp only [mkB, List.getElem?_cons_zero, Option.some.injEq] at h
    subst h
    obtain ⟨hb1, hb2⟩ := andB (show (CT.bnd m l && BT.bnd m r) = true from hb)
    have hf1 : all ∨ CT.flat l = true := hf.imp id fun h => (andB (show (CT.flat l && BT.flat r) = true from h)).1
    refine ⟨_, rfl, ?_, rfl, (fun t e ver l h => by cases h), fun t et e ver iver hole l h => by cases h⟩
    cases p with
    | row _ _ => exact hB.elim
    | cells g =>
      obtain ⟨vs, hh, hcs⟩ := hB
      exact ⟨vs, by rw [hw]; exact hh, mkC_ren hr hd hb1 hf1 hcs⟩
  | .row t e :: r, y, 0, B, p, hb, hf, h, hB => by
    simp only [mkB, List.getElem?_cons_zero, Option.some.injEq] at h
    subst h
    refine ⟨_, rfl, ?_, rfl, (fun _ _ _ _ h => h), fun _ _ _ _ _ _ _ h => h⟩
    have hf1 : all ∨ e.flat = true := hf.imp id fun h => (andB (show (e.flat && BT.flat r) = true from h)).1
    cases p with
    | cells _ => exact hB.elim
    | row sv svs =>
      obtain ⟨h0, xs, h1, h2⟩ := hB
      refine ⟨h0, xs, h1.mono fun x u hu => hd e x u hf1 hu, ?_⟩
      rw [hw]
      exact ownsRow_base h2 hbase
  | .mat t et e :: r, y, 0, B, p, hb, hf, h, hB => by
    simp only [mkB, List.getElem?_cons_zero, Option.some.injEq] at h
    subst h
    refine ⟨_, rfl, ?_, rfl, (fun _ _ _ _ h => by cases h), fun _ _ _ _ _ _ _ h => h⟩
    have hf1 : all ∨ e.flat = true := hf.imp id fun h => (andB (show (e.flat && BT.flat r) = true from h)).1
    cases p with
    | cells _ => exact hB.elim
    | row sv svs =>
      have hM : MatOk E t et e none _ sv svs := hB
      obtain ⟨vs, h1, h2⟩ := hM.outer
      refine ⟨⟨vs, by rw [hw]; exact ownsRow_base h1 hbase, h2⟩, hM.len, hM.hole, fun i s x hs hx => ?_, hM.sep0, hM.sep⟩
      obtain ⟨xs, h3, h4⟩ := hM.inner i s x hs hx
      exact ⟨xs, h3.mono fun x u hu => hd e x u hf1 hu, by rw [hw]; exact ownsRow_base h4 hbase⟩
  | .mat t et e :: r, y, j + 1, B, p, hb, hf, h, hB => by
    simp only [mkB, List.getElem?_cons_succ] at h ⊢
    exact mkB_ren hr hbase hd hw hb (hf.imp id fun h => (andB (show (e.flat && BT.flat r) = true from h)).2) h hB
  | .map t k v vg :: r, y, 0, B, p, hb, hf, h, hB => by
    simp only [mkB, List.getElem?_cons_zero, Option.some.injEq] at h
    subst h
    refine ⟨_, rfl, ?_, rfl, (fun _ _ _ _ h => h), fun _ _ _ _ _ _ _ h => h⟩
    have hf1 : all ∨ k.flat = true := hf.imp id fun h => (andB (show (k.flat && (v.flat && BT.flat r)) = true from h)).1
    have hf2 : all ∨ v.flat = true := hf.imp id fun h => (andB (andB (show (k.flat && (v.flat && BT.flat r)) = true from h)).2).1
    cases p with
    | row _ _ => exact hB.elim
    | cells g =>
      obtain ⟨es, clock, hh, hm⟩ := hB
      exact ⟨es, clock, by rw [hw]; exact hh, hm.mono (fun x u hu => hd k x u hf1 hu) (fun x u hu => hd v x u hf2 hu)⟩
  | .map t k v vg :: r, y, j + 1, B, p, hb, hf, h, hB => by
    simp only [mkB, List.getElem?_cons_succ] at h ⊢
    exact mkB_ren hr hbase hd hw hb (hf.imp id fun h => (andB (andB (show (k.flat && (v.flat && BT.flat r)) = true from h)).2).2) h hB
  | .cells t l :: r, y, j + 1, B, p, hb, hf, h, hB => by
    simp only [mkB, List.getElem?_cons_succ] at h ⊢
    exact mkB_ren hr hbase hd hw (andB (show (CT.bnd m l && BT.bnd m r) = true from hb)).2 (hf.imp id fun h => (andB (show (CT.flat l && BT.flat r) = true from h)).2) h hB
  | .row t e :: r, y, j + 1, B, p, hb, hf, h, hB => by
    simp only [mkB, List.getElem?_cons_succ] at h ⊢
    exact mkB_ren hr hbase hd hw hb (hf.imp id fun h => (andB (show (e.flat && BT.flat r) = true from h)).2) h hB

/-! ### What a function's spec is worth -/
def fnBl (l : List Blk) : Nat → Option Blk := fun b => l[b]?

structure SpecOk (P : Program) (f : FuncId) (S : Spec) : Prop where
  fn : ∃ fn, P.funcs[f]? = some fn ∧ (fn.name == "runtime.NumGoroutine") = false ∧ fn.body.isNone = false
  ok : ∀ {β : Type} (x : ST.dens S.params × BT.dens S.ins) (k : ST.dens S.res × BT.dens S.outs → Option β) (r : β), S.run x k = some r →
    ∃ y, k y = some r ∧ ∀ (ok0 : Nat → Prop) (pl : Nat → Option Pl) (w : World) (args : List Value),
      RelB ok0 w.heap.size pl (fnBl (mkB (upFrom 0 S.ins.length) S.ins x.2)) w →
      TReps (envOf ok0 w.heap.size pl (fnBl (mkB (upFrom 0 S.ins.length) S.ins x.2)) w) (mkS (upFrom 0 S.ins.length) S.params x.1) args →
      Calls P f args.toArray w fun e w' => ∃ vals pl', e = .returned (retVal vals) ∧
        RelB ok0 w.heap.size pl' (fnBl (mkB (upFrom 0 S.outs.length) S.outs y.2)) w' ∧
        StepM S.ins.length pl (fnBl (mkB (upFrom 0 S.ins.length) S.ins x.2)) w pl' (fnBl (mkB (upFrom 0 S.outs.length) S.outs y.2)) w' ∧
        TReps (envOf ok0 w.heap.size pl' (fnBl (mkB (upFrom 0 S.outs.length) S.outs y.2)) w') (mkS (upFrom 0 S.outs.length) S.res y.1) vals

structure RowOk (P : Program) (f : FuncId) (F : RowF) : Prop where
  fn : ∃ fn, P.funcs[f]? = some fn ∧ (fn.name == "runtime.NumGoroutine") = false ∧ fn.body.isNone = false
  flat : F.e.flat = true
  len : F.cut = false → ∀ l, (F.run l).length = l.length
  ok : ∀ (w : World) (base : Nat) (sv : Value) (l : List F.e.den) (xs : List Value), l.length < F.max → DList (fun x u => DRep w (fun _ => True) F.e x u) l xs → w.ownsRow base F.t F.e.size sv l.length xs →
    Calls P f #[sv] w fun e w' => ∃ sv', e = .returned (bif F.cut then sv' else .tuple #[]) ∧ w.grownBy w' sv.ownBlock ∧ (F.cut = false → sv' = sv) ∧ (sv'.ownBlock = sv.ownBlock ∨ ∀ g, sv'.ownBlock = some g → w.heap.size ≤ g) ∧
      ∃ xs', DList (fun x u => DRep w (fun _ => True) F.e x u) (F.run l) xs' ∧ w'.ownsRow base F.t F.e.size sv' (F.run l).length xs'

structure ΓOk (P : Program) (Γ : FuncId → Option Fun) : Prop where
  spec : ∀ f S, Γ f = some (.spec S) → SpecOk P f S
  rows : ∀ f F, Γ f = some (.rows F) → RowOk P f F

/-! ### Where a list has a number -/
def place : List Nat → Nat → Option Nat
  | [], _ => none
  | x :: r, i => if i = x then some 0 else (place r i).map (· + 1)

theorem place_some : ∀ {l : List Nat} {i b : Nat}, place l i = some b → l[b]? = some i
  | [], i, b, h => by simp [place] at h
  | x :: r, i, b, h => by
    simp only [place] at h
    split at h
    · rename_i hx
      simp only [Option.some.injEq] at h
      subst h hx
      rfl
    · cases hp : place r i with
      | none => rw [hp] at h; cases h
      | some c =>
        rw [hp] at h
        simp only [Option.map_some, Option.some.injEq] at h
        subst h
        simpa using place_some hp

theorem place_of : ∀ {l : List Nat} {i b : Nat}, l.Nodup → l[b]? = some i → place l i = some b
  | [], i, b, _, h => by simp at h
  | x :: r, i, 0, _, h => by simp at h; subst h; simp [place]
  | x :: r, i, b + 1, hn, h => by
    have h' : r[b]? = some i := by simpa using h
    have hne : i ≠ x := by
      rintro rfl
      exact (List.nodup_cons.1 hn).1 (List.mem_of_getElem? h')
    simp [place, hne, place_of (List.nodup_cons.1 hn).2 h']

theorem place_none {l : List Nat} {i : Nat} (h : i ∉ l) : place l i = none := by
  cases hp : place l i with
  | none => rfl
  | some b => exact absurd (List.mem_of_getElem? (place_some hp)) h

theorem updL_zip {f : Nat → Option Blk} : ∀ {l : List Nat} {xs : List Blk} (i : Nat), l.Nodup → l.length = xs.length → updL f (l.zip xs) i = match place l i with | some b => xs[b]? | none => f i := by
  intro l
  induction l generalizing f with
  | nil => intro xs i _ _; rfl
  | cons x r ih =>
    intro xs i hn hl
    cases xs with
    | nil => simp at hl
    | cons B xs =>
      simp only [List.zip_cons_cons, updL]
      rw [ih i (List.nodup_cons.1 hn).2 (by simpa using hl)]
      simp only [place]
      by_cases hi : i = x
      · subst hi
        rw [place_none (List.nodup_cons.1 hn).1]
        simp [upd]
      · simp only [hi, if_false]
        cases hp : place r i with
        | none => simp [upd, hi]
        | some b => simp

theorem idList_length {ps : List (Nat × Nat)} : ∀ {n j : Nat} {ids : List Nat}, idList ps j n = some ids → ids.length = n
  | 0, j, ids, h => by simp only [idList, Option.some.injEq] at h; subst h; rfl
  | n + 1, j, ids, h => by
    simp only [idList] at h
    split at h
    · rename_i b r _ hr
      simp only [Option.some.injEq] at h
      subst h
      simp [idList_length hr]
    · cases h

theorem rowsOfB_spec {bl : Nat → Option Blk} : ∀ {is : List Nat}, (∀ i ∈ is, ∀ t cs, bl i = some (.cells t cs) → ∀ b ∈ rowIds cs, b ∈ rowsOfB bl is)
  | [], i, h => by simp at h
  | j :: r, i, h => by
    intro t cs hbl b hb
    rcases List.mem_cons.1 h with rfl | h
    · simp only [rowsOfB, hbl]
      exact List.mem_append_left _ hb
    · simp only [rowsOfB]
      split
      · exact List.mem_append_right _ (rowsOfB_spec i h t cs hbl b hb)
      · exact rowsOfB_spec i h t cs hbl b hb

theorem readB_cells {bl : Nat → Option Blk} {ids : List Nat} : ∀ {l : List BT} {is : List Nat} {y : BT.dens l}, readB bl ids l is = some y → ∀ i ∈ is, ∃ t cs, bl i = some (.cells t cs)
  | [], is, y, hp => by
    cases is with
    | nil => intro i h; simp at h
    | cons i is => simp [readB] at hp
  | .row t e :: r, is, y, hp => by cases is <;> simp [readB] at hp
  | .map t k v vg :: r, is, y, hp => by cases is <;> simp [readB] at hp
  | .mat t et e :: r, is, y, hp => by cases is <;> simp [readB] at hp
  | .cells t l :: r, is, y, hp => by
    cases is with
    | nil => intro i h; simp at h
    | cons i is =>
      simp only [readB] at hp
      split at hp
      · rename_i t' cs hbl
        cases ht : Nat.beq t t' with
        | false => rw [ht] at hp; cases hp
        | true =>
          simp only [ht, cond_true] at hp
          split at hp
          · cases hp
          · split at hp
            · cases hp
            · rename_i z h2
              intro j hj
              rcases List.mem_cons.1 hj with rfl | hj
              · exact ⟨t', cs, hbl⟩
              · exact readB_cells h2 j hj
      · cases hp

theorem mkB_row {ids ids2 : List Nat} : ∀ {l : List BT} {y : BT.dens l} {j : Nat} {t : TypeId} {e : Ty} {ver : Nat} {l' : List e.den}, (mkB ids l y)[j]? = some (.row t e ver l') → (mkB ids2 l y)[j]? = some (.row t e ver l')
  | [], _, j, _, _, _, _, h => by simp [mkB] at h
  | .cells _ _ :: r, y, 0, _, _, _, _, h => by simp [mkB] at h
  | .row _ _ :: r, y, 0, _, _, _, _, h => by simpa [mkB] using h
  | .cells _ _ :: r, y, j + 1, _, _, _, _, h => by simp only [mkB, List.getElem?_cons_succ] at h ⊢; exact mkB_row h
  | .row _ _ :: r, y, j + 1, _, _, _, _, h => by simp only [mkB, List.getElem?_cons_succ] at h ⊢; exact mkB_row h
  | .map _ _ _ _ :: r, y, 0, _, _, _, _, h => by simp [mkB] at h
  | .map _ _ _ _ :: r, y, j + 1, _, _, _, _, h => by simp only [mkB, List.getElem?_cons_succ] at h ⊢; exact mkB_row h
  | .mat _ _ _ :: r, y, 0, _, _, _, _, h => by simp [mkB] at h
  | .mat _ _ _ :: r, y, j + 1, _, _, _, _, h => by simp only [mkB, List.getElem?_cons_succ] at h ⊢; exact mkB_row h

theorem mkB_mat {ids ids2 : List Nat} : ∀ {l : List BT} {y : BT.dens l} {j : Nat} {t et : TypeId} {e : Ty} {ver iver : Nat} {hole : Option Nat} {l' : List (List e.den)}, (mkB ids l y)[j]? = some (.mat t et e ver iver hole l') → (mkB ids2 l y)[j]? = some (.mat t et e ver iver hole l')
  | [], _, j, _, _, _, _, _, _, _, h => by simp [mkB] at h
  | .cells _ _ :: r, y, 0, _, _, _, _, _, _, _, h => by simp [mkB] at h
  | .row _ _ :: r, y, 0, _, _, _, _, _, _, _, h => by simp [mkB] at h
  | .map _ _ _ _ :: r, y, 0, _, _, _, _, _, _, _, h => by simp [mkB] at h
  | .mat _ _ _ :: r, y, 0, _, _, _, _, _, _, _, h => by simpa [mkB] using h
  | .cells _ _ :: r, y, j + 1, _, _, _, _, _, _, _, h => by simp only [mkB, List.getElem?_cons_succ] at h ⊢; exact mkB_mat h
  | .row _ _ :: r, y, j + 1, _, _, _, _, _, _, _, h => by simp only [mkB, List.getElem?_cons_succ] at h ⊢; exact mkB_mat h
  | .map _ _ _ _ :: r, y, j + 1, _, _, _, _, _, _, _, h => by simp only [mkB, List.getElem?_cons_succ] at h ⊢; exact mkB_mat h
  | .mat _ _ _ :: r, y, j + 1, _, _, _, _, _, _, _, h => by simp only [mkB, List.getElem?_cons_succ] at h ⊢; exact mkB_mat h

theorem mkB_live {ids : List Nat} : ∀ {l : List BT} {y : BT.dens l} {j : Nat} {B : Blk}, (mkB ids l y)[j]? = some B → B.live = true
  | [], _, j, _, h => by simp [mkB] at h
  | .cells _ _ :: r, y, 0, _, h => by simp only [mkB, List.getElem?_cons_zero, Option.some.injEq] at h; subst h; rfl
  | .row _ _ :: r, y, 0, _, h => by simp only [mkB, List.getElem?_cons_zero, Option.some.injEq] at h; subst h; rfl
  | .cells _ _ :: r, y, j + 1, _, h => by simp only [mkB, List.getElem?_cons_succ] at h; exact mkB_live h
  | .row _ _ :: r, y, j + 1, _, h => by simp only [mkB, List.getElem?_cons_succ] at h; exact mkB_live h
  | .map _ _ _ _ :: r, y, 0, _, h => by simp only [mkB, List.getElem?_cons_zero, Option.some.injEq] at h; subst h; rfl
  | .map _ _ _ _ :: r, y, j + 1, _, h => by simp only [mkB, List.getElem?_cons_succ] at h; exact mkB_live h
  | .mat _ _ _ :: r, y, 0, _, h => by simp only [mkB, List.getElem?_cons_zero, Option.some.injEq] at h; subst h; rfl
  | .mat _ _ _ :: r, y, j + 1, _, h => by simp only [mkB, List.getElem?_cons_succ] at h; exact mkB_live h

theorem getD_upFrom {n b : Nat} (h : b < n) : (upFrom 0 n).getD b 0 = b := by
  have := get_upFrom (n := n) (s := 0) h
  simp [List.getD, this]

section
variable {P : Program} {o : Oper} {ρ : Operand → V} {bl : Nat → Option Blk} {β : Type} {r : β}

theorem killsOf_mem {S : Spec} {bl : Nat → Option Blk} {rds : List Nat} {p : Nat × Blk} (h : p ∈ killsOf S bl rds) : p.2 = .dead ∧ p.1 ∈ rds ∧ ∃ t e ver l, bl p.1 = some (.row t e ver l) := by
  unfold killsOf at h
  cases hf : (ST.flat S.res && BT.flat S.outs) with
  | true => rw [hf] at h; simp at h
  | false =>
    rw [hf, cond_false] at h
    obtain ⟨b, hb, hp⟩ := List.mem_filterMap.1 h
    split at hp
    · rename_i t e ver l hbl
      injection hp with hp
      subst hp
      exact ⟨rfl, hb, t, e, ver, l, hbl⟩
    · cases hp

theorem killsOf_all {S : Spec} {bl : Nat → Option Blk} {rds : List Nat} (hf : (ST.flat S.res && BT.flat S.outs) = false) {b : Nat} (hb : b ∈ rds) {t : TypeId} {e : Ty} {ver : Nat} {l : List e.den} (hbl : bl b = some (.row t e ver l)) : (b, Blk.dead) ∈ killsOf S bl rds := by
  unfold killsOf
  rw [hf, cond_false]
  exact List.mem_filterMap.2 ⟨b, hb, by rw [hbl]⟩

theorem updL_dead : ∀ {l : List (Nat × Blk)} {f : Nat → Option Blk} (i : Nat), (∀ p ∈ l, p.2 = Blk.dead) → (updL f l i = f i ∧ (∀ p ∈ l, p.1 ≠ i)) ∨ (updL f l i = some .dead ∧ ∃ p ∈ l, p.1 = i)
  | [], f, i, _ => .inl ⟨rfl, fun _ h => by simp at h⟩
  | (j, x) :: l, f, i, h => by
    have hx : x = .dead := h (j, x) (by simp)
    subst hx
    simp only [updL]
    rcases updL_dead (l := l) (f := upd f j .dead) i (fun p hp => h p (by simp [hp])) with ⟨h1, h2⟩ | ⟨h1, p, hp, h2⟩
    · by_cases hij : i = j
      · subst hij
        exact .inr ⟨by rw [h1]; simp [upd], (i, .dead), by simp, rfl⟩
      · refine .inl ⟨by rw [h1]; simp [upd, hij], fun p hp => ?_⟩
        rcases List.mem_cons.1 hp with e | hp
        · rw [e]; exact fun h => hij h.symm
        · exact h2 p hp
    · exact .inr ⟨h1, p, by simp [hp], h2⟩

theorem updL_append {f : Nat → Option Blk} : ∀ {l m : List (Nat × Blk)}, updL f (l ++ m) = updL (updL f l) m
  | [], _ => rfl
  | (j, x) :: l, m => by simp only [List.cons_append, updL]; exact updL_append

/-- A call of a Go function by its spec. 'hop': what the operation comes to. -/
theorem sound_rowRun {F : RowF} {f : FuncId} (hF : RowOk P f F) {kk : K β} {args : List V} (hk : rowRun F bl args kk = some r)
    (hop : ∀ (bl2 : Nat → Option Blk) (ok0 : Nat → Prop) (base : Nat) (pl : Nat → Option Pl) (w : World) (a : Act), RelB ok0 base pl bl2 w → (∀ x ∈ o.op.operands, VRep (envOf ok0 base pl bl2 w) (ρ x) (a.eval x)) →
      ∃ us, VReps (envOf ok0 base pl bl2 w) args us ∧ ((∃ fn, P.funcs[f]? = some fn ∧ (fn.name == "runtime.NumGoroutine") = false ∧ fn.body.isNone = false) → (execOp a.eval o).run P w = .ok (.enter f us.toArray) w)) : Sound P o ρ bl kk r := by
  unfold rowRun at hk
  split at hk
  · rename_i b ver
    split at hk
    · rename_i t e ver' l hbl
      cases hc : (Nat.beq ver ver' && Nat.beq t F.t) with
      | false => rw [hc] at hk; cases hk
      | true =>
        simp only [hc, cond_true] at hk
        obtain ⟨h1, h2⟩ := andB hc
        have h1 := Nat.eq_of_beq_eq_true h1
        have h2 := Nat.eq_of_beq_eq_true h2
        subst h1 h2
        split at hk
        · rename_i he
          subst he
          obtain ⟨hmax, hk⟩ := given_some hk
          have hmax := of_decide_eq_true hmax
          have main : ∀ (bl2 : Nat → Option Blk), bl2 b = bl b → ∀ (ok0 : Nat → Prop) (base : Nat) (pl : Nat → Option Pl) (w : World) (a : Act), RelB ok0 base pl bl2 w → (∀ x ∈ o.op.operands, VRep (envOf ok0 base pl bl2 w) (ρ x) (a.eval x)) →
              ∃ sv, pl b = some (.row sv []) ∧ (execOp a.eval o).run P w = .ok (.enter f #[sv]) w ∧ Calls P f #[sv] w fun e w' => ∃ sv', e = .returned (bif F.cut then sv' else .tuple #[]) ∧ w.grownBy w' sv.ownBlock ∧ (F.cut = false → sv' = sv) ∧
                (sv'.ownBlock = sv.ownBlock ∨ ∀ g, sv'.ownBlock = some g → w.heap.size ≤ g) ∧ ∃ xs', DList (fun x u => DRep w (fun _ => True) F.e x u) (F.run l) xs' ∧ w'.ownsRow base F.t F.e.size sv' (F.run l).length xs' := by
            intro bl2 hb2 ok0 base pl w a hr hxs
            obtain ⟨us, hus, hrun⟩ := hop bl2 ok0 base pl w a hr hxs
            have hrun := hrun hF.fn
            obtain ⟨u, us', rfl, ⟨_, sv, svs, hsv, hcur⟩, hn⟩ := hus
            have hn : us' = [] := hn
            subst hn
            have hbl2 : bl2 b = some (.row F.t F.e ver l) := hb2.trans hbl
            have hu := (hcur F.t F.e ver l hbl2).2 rfl
            subst hu
            obtain ⟨p, hp, hB⟩ := hr.blks b _ hbl2
            have : p = .row u svs := by have h2 : pl b = some (.row u svs) := hsv; rw [hp] at h2; injection h2
            subst this
            obtain ⟨h0, xs, hd, hown⟩ := hB
            subst h0
            exact ⟨u, hsv, hrun, hF.ok w base u l xs hmax (hd.mono fun x us hx => hx.flat hF.flat) hown⟩
          cases hcut : F.cut with
          | false =>
            rw [hcut] at hk
            simp only [cond_false] at hk
            refine ⟨_, _, _, hk, fun bl2 hb2 => ?_⟩
            have hbl2 : bl2 b = some (.row F.t F.e ver l) := (hb2 b (by simp)).trans hbl
            intro ok0 base pl w a hr hxs K Q hK
            obtain ⟨sv, hsv, hrun, hcall⟩ := main bl2 (hb2 b (by simp)) ok0 base pl w a hr hxs
            unfold Oper.wp
            rw [hrun]
            simp only [Oper.upon]
            refine hcall.mono fun e w' ⟨sv', he, hgb, hsv', hob, xs', hd', hown'⟩ => ?_
            have hsv' := hsv' hcut
            subst hsv'
            rw [hcut] at he
            simp only [cond_false] at he
            subst he
            simp only
            have hver : ver ≤ ver ∧ (ver = ver → sv' = sv' ∧ (F.run l).length = l.length) := ⟨Nat.le_refl _, fun _ => ⟨rfl, hF.len hcut l⟩⟩
            have hs := Step.grown (l' := F.run l) hr hbl2 hsv hgb hob hver
            refine hK (.tuple #[]) (upd pl b (.row sv' [])) w' (RelB.grown hr hbl2 hsv hgb hob hver ⟨rfl, xs', hd'.mono fun x u hu => hu.flat hF.flat, hown'⟩) hs ⟨[], rfl, rfl⟩
          | true =>
            rw [hcut] at hk
            simp only [cond_true] at hk
            refine ⟨_, _, _, hk, fun bl2 hb2 => ?_⟩
            have hbl2 : bl2 b = some (.row F.t F.e ver l) := (hb2 b (by simp)).trans hbl
            intro ok0 base pl w a hr hxs K Q hK
            obtain ⟨sv, hsv, hrun, hcall⟩ := main bl2 (hb2 b (by simp)) ok0 base pl w a hr hxs
            unfold Oper.wp
            rw [hrun]
            simp only [Oper.upon]
            refine hcall.mono fun e w' ⟨sv', he, hgb, hsv', hob, xs', hd', hown'⟩ => ?_
            rw [hcut] at he
            simp only [cond_true] at he
            subst he
            simp only
            have hver : ver ≤ ver + 1 ∧ (ver = ver + 1 → sv' = sv ∧ (F.run l).length = l.length) := ⟨Nat.le_succ _, fun h => by omega⟩
            have hs := Step.grown (l' := F.run l) hr hbl2 hsv hgb hob hver
            have hR := RelB.grown hr hbl2 hsv hgb hob hver ⟨rfl, xs', hd'.mono fun x u hu => hu.flat hF.flat, hown'⟩
            refine hK sv' (upd pl b (.row sv' [])) w' hR hs ⟨?_, sv', [], by simp [envOf, upd], fun t e ver2 l2 hb => ?_⟩
            · rcases hown'.2 with ⟨h, _⟩ | ⟨g, cap, cur, h, _⟩ <;> rw [h] <;> rfl
            · have hb : upd bl2 b (.row F.t F.e (ver + 1) (F.run l)) b = some (.row t e ver2 l2) := hb
              simp only [upd] at hb
              simp at hb
              exact ⟨by omega, fun _ => rfl⟩
        · cases hk
    · cases hk
  · cases hk

theorem hideM_some {bl : Nat → Option Blk} {i : Nat} {B : Blk} (h : hideM bl i = some B) : bl i = some B := by
  unfold hideM at h
  split at h
  · cases h
  · exact h

theorem hideM_mat {bl : Nat → Option Blk} {i : Nat} {t et : TypeId} {e : Ty} {ver iver : Nat} {hole : Option Nat} {l : List (List e.den)} : hideM bl i ≠ some (.mat t et e ver iver hole l) := by
  intro h
  have h2 := hideM_some h
  unfold hideM at h
  rw [h2] at h
  cases h

theorem rowsOfB_hide {bl : Nat → Option Blk} : ∀ {is : List Nat}, rowsOfB (hideM bl) is = rowsOfB bl is
  | [] => rfl
  | i :: is => by
    simp only [rowsOfB, rowsOfB_hide (is := is)]
    unfold hideM
    cases h : bl i with
    | none => rfl
    | some B => cases B <;> rfl

theorem sound_call {X : Ctx} (hΓ : ΓOk P X.Γ) {kk : K β} {nx : Nat} {f : FuncId} {args : List V} (hk : callRun X bl nx f args kk = some r)
    (hop : ∀ (bl2 : Nat → Option Blk) (ok0 : Nat → Prop) (base : Nat) (pl : Nat → Option Pl) (w : World) (a : Act), RelB ok0 base pl bl2 w → (∀ x ∈ o.op.operands, VRep (envOf ok0 base pl bl2 w) (ρ x) (a.eval x)) →
      ∃ us, VReps (envOf ok0 base pl bl2 w) args us ∧ ((∃ fn, P.funcs[f]? = some fn ∧ (fn.name == "runtime.NumGoroutine") = false ∧ fn.body.isNone = false) → (execOp a.eval o).run P w = .ok (.enter f us.toArray) w)) : Sound P o ρ bl kk r := by
  unfold callRun at hk
  split at hk
  · cases hk
  · rename_i F hF
    exact sound_rowRun (hΓ.rows f F hF) hk hop
  rename_i S hS
  have hspec := hΓ.spec f S hS
  split at hk
  · cases hk
  rename_i ids hids
  have hlen := idList_length hids
  split at hk
  · rename_i x y hx hy
    generalize hrds : rowsOfV args ++ rowsOfB bl ids = rds at hk
    generalize hnew : upFrom nx (S.outs.length - S.ins.length) = new at hk
    generalize hkills : killsOf S bl rds = kills at hk
    cases hc : callOk S bl ids new with
    | false => rw [hc] at hk; cases hk
    | true =>
      simp only [hc, cond_true] at hk
      unfold callOk at hc
      obtain ⟨c1, hc⟩ := andB hc
      obtain ⟨c3, hc⟩ := andB hc
      obtain ⟨c4, hc⟩ := andB hc
      obtain ⟨c5, c6⟩ := andB hc
      have c1 := nodupB_iff c1
      have c4 := Nat.le_of_ble_eq_true c4
      have c3 := allFree_spec c3
      obtain ⟨z, hz, hcall⟩ := hspec.ok (x, y) _ r hk
      refine ⟨_, _, _, hz, fun bl2 hb2 => ?_⟩
      have hids2 : ∀ i ∈ ids, bl2 i = bl i := fun i hi => hb2 i (by simp [hi])
      have hrds2 : ∀ i ∈ rds, bl2 i = bl i := fun i hi => hb2 i (by simp [hi])
      have hnew2 : ∀ i ∈ new, bl2 i = none := fun i hi => (hb2 i (by simp [hi])).trans (c3 i hi)
      intro ok0 base pl w a hr hxs K Q hK
      have hkl : ∀ p ∈ kills, p.2 = Blk.dead ∧ p.1 ∈ rds ∧ ∃ t e ver l, bl2 p.1 = some (.row t e ver l) := fun p hp => by
        rw [← hkills] at hp
        obtain ⟨h1, h2, t, e, ver, l, h3⟩ := killsOf_mem hp
        exact ⟨h1, h2, t, e, ver, l, by rw [hrds2 _ h2]; exact h3⟩
      rw [updL_append] at hK
      let blk : Nat → Option Blk := updL bl2 kills
      have hblk : ∀ i, blk i = bl2 i ∨ (blk i = some .dead ∧ i ∈ rds ∧ ∃ t e ver l, bl2 i = some (.row t e ver l)) := fun i => by
        rcases updL_dead (l := kills) (f := bl2) i (fun p hp => (hkl p hp).1) with ⟨h1, _⟩ | ⟨h1, p, hp, h2⟩
        · exact .inl h1
        · have := hkl p hp
          rw [h2] at this
          exact .inr ⟨h1, this.2⟩
      have hblkL : ∀ i B, blk i = some B → B.live = true → bl2 i = some B := fun i B hB hl => by
        rcases hblk i with h | ⟨h, _⟩
        · rw [← h]; exact hB
        · rw [h] at hB
          injection hB with hB
          subst hB
          cases hl
      obtain ⟨us, hus, hrun⟩ := hop bl2 ok0 base pl w a hr hxs
      have hrun := hrun hspec.fn
      -- the callee's state
      generalize hE : envOf ok0 base pl bl2 w = E at hus
      have hEw : E.w = w := by rw [← hE]; rfl
      have hEbl : E.bl = bl2 := by rw [← hE]; rfl
      have hEpl : E.pl = pl := by rw [← hE]; rfl
      have hEok : E.ok = fun g => (ok0 g ∨ base ≤ g) ∧ ¬ Own pl bl2 g := by rw [← hE]; rfl
      have hblks : BlksOk E := by rw [← hE]; exact hr.blksOk
      have hcells : ∀ i ∈ ids, ∃ t cs, bl2 i = some (.cells t cs) := fun i hi => by
        obtain ⟨t, cs, h⟩ := readB_cells hy i hi
        exact ⟨t, cs, by rw [hids2 i hi]; exact hideM_some h⟩
      let ok0c : Nat → Prop := fun g => E.ok g ∨ ∃ b ∈ rds, ∃ t e ver l sv, bl2 b = some (.row t e ver l) ∧ pl b = some (.row sv []) ∧ sv.ownBlock = some g
      let plc : Nat → Option Pl := fun b => (ids[b]?).bind pl
      let blc : Nat → Option Blk := fnBl (mkB (upFrom 0 S.ins.length) S.ins y)
      let Ec : Env := envOf ok0c w.heap.size plc blc w
      have hownc : ∀ g, Own plc blc g → ∃ i ∈ ids, pl i = some (.cells g) := by
        rintro g ⟨j, B, p, hB, hl, hp, hg⟩
        cases hj : ids[j]? with
        | none => simp [plc, hj] at hp
        | some i =>
          have hp' : pl i = some p := by simpa [plc, hj] using hp
          have hi := List.mem_of_getElem? hj
          obtain ⟨t, cs, hbl⟩ := hcells i hi
          obtain ⟨q, hq, hR⟩ := hr.blks i _ hbl
          rw [hp'] at hq
          injection hq with hq
          subst hq
          cases p with
          | row _ _ => exact hR.elim
          | cells g' =>
            have hg : g' = g := hg
            subst hg
            exact ⟨i, hi, hp'⟩
      have hownc2 : ∀ g, Own plc blc g → Own pl bl2 g := fun g h => by
        obtain ⟨i, hi, hp⟩ := hownc g h
        obtain ⟨t, cs, hbl⟩ := hcells i hi
        exact ⟨i, _, _, hbl, rfl, hp, rfl⟩
      have hokc : ∀ g, E.ok g → Ec.ok g := fun g h => ⟨.inl (.inl h), fun ho => by rw [hEok] at h; exact h.2 (hownc2 g ho)⟩
      have hrows : ∀ ids0 : List Nat, (∀ b ∈ ids0, b ∈ rds) → Rows E (hideM bl) Ec.ok ids0 := fun ids0 h0 => ⟨hokc, fun b hb t e ver l hbl => by
        have hbl2 : bl2 b = some (.row t e ver l) := by rw [hrds2 b (h0 b hb)]; exact hideM_some hbl
        refine ⟨by rw [hEbl]; exact hbl2, fun sv g hsv hg => ?_⟩
        rw [hEpl] at hsv
        refine ⟨.inl (.inr ⟨b, h0 b hb, t, e, ver, l, sv, hbl2, hsv, hg⟩), fun ho => ?_⟩
        obtain ⟨i, hi, hp⟩ := hownc g ho
        obtain ⟨t', cs, hbli⟩ := hcells i hi
        have hne : i ≠ b := by rintro rfl; rw [hbl2] at hbli; cases hbli
        exact hr.sep i b _ _ _ _ g hne hbli hbl2 rfl rfl hp hsv rfl (.inl hg), fun b hb t et e ver iver hole l hbl => absurd hbl hideM_mat⟩
      have hren : Ren E Ec ids (upFrom 0 S.ins.length) := by
        have key : ∀ b i, ids[b]? = some i → Ec.pl ((upFrom 0 S.ins.length).getD b 0) = pl i := by
          intro b i hi
          have hlt : b < S.ins.length := by rw [← hlen]; exact (List.getElem?_eq_some_iff.1 hi).1
          rw [getD_upFrom hlt]
          simp [Ec, envOf, plc, hi]
        refine ⟨fun b i g hi h => ?_, fun b i sv svs t e ver l hi _ h => ?_, fun b i sv svs t et e ver iver hole l hi _ h => ?_, fun b i hi h => ?_⟩
        · rw [key b i hi, ← hEpl]; exact h
        · rw [key b i hi, ← hEpl]; exact h
        · rw [key b i hi, ← hEpl]; exact h
        · obtain ⟨t, cs, hbl⟩ := hcells i (List.mem_of_getElem? hi)
          rw [hEbl, hbl] at h
          cases h
      have hagree : ∀ i ∈ ids, hideM bl i = E.bl i := fun i hi => by
        obtain ⟨t, cs, h⟩ := readB_cells hy i hi
        rw [hEbl, hids2 i hi, h, hideM_some h]
      have hargs := readS_rep hblks (show Ec.w = E.w from hEw.symm) hren hagree (hrows _ fun b hb => by rw [← hrds]; exact List.mem_append_left _ hb) hus hx
      obtain ⟨hlB, hinB⟩ := readB_rep hblks (show Ec.w = E.w from hEw.symm) hren hagree (hrows _ fun b hb => by rw [← hrds]; exact List.mem_append_right _ (by rw [rowsOfB_hide] at hb; exact hb)) (fun i hi => hi) hy
      have hrelc : RelB ok0c w.heap.size plc blc w := by
        refine ⟨Nat.le_refl _, fun i B hB => ?_, fun i j B C p q g hij hB hC hlB' hlC hp hq hpg => ?_, fun i hi => ?_⟩
        · have hlt : i < ids.length := by
            have := (List.getElem?_eq_some_iff.1 (show (mkB (upFrom 0 S.ins.length) S.ins y)[i]? = some B from hB)).1
            rw [length_mkB] at this
            omega
          obtain ⟨g, B', h1, h2, h3, _⟩ := hinB i ids[i] (List.getElem?_eq_getElem hlt)
          have hBB : B = B' := by
            have h4 : (mkB (upFrom 0 S.ins.length) S.ins y)[i]? = some B := hB
            rw [h2] at h4
            injection h4 with h4
            exact h4.symm
          rw [hEpl] at h1
          exact ⟨.cells g, by simp [plc, List.getElem?_eq_getElem hlt, h1], by rw [hBB]; exact h3⟩
        · cases hi : ids[i]? with
          | none => simp [plc, hi] at hp
          | some i' =>
            cases hj : ids[j]? with
            | none => simp [plc, hj] at hq
            | some j' =>
              have hp' : pl i' = some p := by simpa [plc, hi] using hp
              have hq' : pl j' = some q := by simpa [plc, hj] using hq
              have hne : i' ≠ j' := by
                rintro rfl
                have h1 := place_of c1 hi
                have h2 := place_of c1 hj
                rw [h1] at h2
                injection h2 with h2
                exact hij h2
              obtain ⟨t1, cs1, hb1⟩ := hcells i' (List.mem_of_getElem? hi)
              obtain ⟨t2, cs2, hb2'⟩ := hcells j' (List.mem_of_getElem? hj)
              exact hr.sep i' j' _ _ p q g hne hb1 hb2' rfl rfl hp' hq' hpg
        · have hge : ids.length ≤ i := by
            have h1 : (mkB (upFrom 0 S.ins.length) S.ins y)[i]? = none := hi
            rw [List.getElem?_eq_none_iff, length_mkB] at h1
            omega
          simp [plc, List.getElem?_eq_none hge]
      -- the call
      unfold Oper.wp
      rw [hrun]
      simp only [Oper.upon]
      refine (hcall ok0c plc w us hrelc hargs).mono fun e w' hpost => ?_
      obtain ⟨vals, pl', rfl, hR, hS, hT⟩ := hpost
      simp only
      -- the caller's state behind it
      generalize hids' : ids ++ new = ids' at *
      have hlen' : ids'.length = S.outs.length := by
        rw [← hids', List.length_append, ← hnew, length_upFrom, hlen]
        omega
      have hnod' : ids'.Nodup := by
        rw [← hids']
        refine List.nodup_append.2 ⟨c1, by rw [← hnew]; exact nodup_upFrom, fun x hx y hy hxy => ?_⟩
        subst hxy
        obtain ⟨t, cs, h⟩ := hcells x hx
        rw [hnew2 x hy] at h
        cases h
      let blo : Nat → Option Blk := fnBl (mkB (upFrom 0 S.outs.length) S.outs z.2)
      let Eo : Env := envOf ok0c w.heap.size pl' blo w'
      let pl2 : Nat → Option Pl := fun i => match place ids' i with | some b => pl' b | none => pl i
      have hbl' : ∀ i, updL (updL bl2 kills) (ids'.zip (mkB ids' S.outs z.2)) i = match place ids' i with | some b => (mkB ids' S.outs z.2)[b]? | none => blk i :=
        fun i => updL_zip i hnod' (by rw [length_mkB]; exact hlen')
      generalize hbl2' : updL (updL bl2 kills) (ids'.zip (mkB ids' S.outs z.2)) = bl3 at *
      have hpl2n : ∀ i, place ids' i = none → pl2 i = pl i := fun i h => by simp only [pl2, h]
      have hpl2s : ∀ i b, place ids' i = some b → pl2 i = pl' b := fun i b h => by simp only [pl2, h]
      have hbl3n : ∀ i, place ids' i = none → bl3 i = blk i := fun i h => by rw [hbl', h]
      have hbl3s : ∀ i b, place ids' i = some b → bl3 i = (mkB ids' S.outs z.2)[b]? := fun i b h => by rw [hbl', h]
      have hplb : ∀ i b, place ids' i = some b → b < S.outs.length := fun i b h => by rw [← hlen']; exact (List.getElem?_eq_some_iff.1 (place_some h)).1
      have hblo : ∀ b, b < S.outs.length → ∃ B, blo b = some B ∧ B.live = true := fun b hb => by
        have hb' : b < (mkB (upFrom 0 S.outs.length) S.outs z.2).length := by rw [length_mkB]; exact hb
        exact ⟨_, List.getElem?_eq_getElem hb', mkB_live (List.getElem?_eq_getElem hb')⟩
      -- what is owned now
      have hown2 : ∀ g, Own pl2 bl3 g → (Own pl bl2 g ∧ ∃ i B p, place ids' i = none ∧ bl2 i = some B ∧ B.live = true ∧ pl i = some p ∧ p.has g) ∨ Own pl' blo g := by
        rintro g ⟨i, B, p, hB, hl, hp, hg⟩
        cases hpi : place ids' i with
        | none =>
          rw [hbl3n i hpi] at hB
          rw [hpl2n i hpi] at hp
          have hB := hblkL i B hB hl
          exact .inl ⟨⟨i, B, p, hB, hl, hp, hg⟩, i, B, p, hpi, hB, hl, hp, hg⟩
        | some b =>
          rw [hpl2s i b hpi] at hp
          obtain ⟨B', hB', hl'⟩ := hblo b (hplb i b hpi)
          exact .inr ⟨b, B', p, hB', hl', hp, hg⟩
      -- a block of the caller's that was not lent: the callee has left it alone
      have hkept : ∀ i B p g, place ids' i = none → bl2 i = some B → B.live = true → pl i = some p → p.has g → w'.heap[g]? = w.heap[g]? ∧ ¬ Own pl' blo g := by
        intro i B p g hpi hB hl hp hg
        have hlt : g < w.heap.size := Own.lt hr ⟨i, B, p, hB, hl, hp, hg⟩
        refine hS.out g hlt fun ho => ?_
        obtain ⟨j, hj, hpj⟩ := hownc g ho
        obtain ⟨t, cs, hbj⟩ := hcells j hj
        have hne : i ≠ j := by
          rintro rfl
          obtain ⟨b, hb⟩ := List.getElem?_of_mem (show i ∈ ids' by rw [← hids']; exact List.mem_append_left _ hj)
          rw [place_of hnod' hb] at hpi
          cases hpi
        exact hr.sep i j _ _ _ _ g hne hB hbj hl rfl hp hpj hg rfl
      have hstep : Step pl bl2 w pl2 bl3 w' := by
        refine ⟨hS.os, hS.tape, hS.output, hS.size, fun g hlt ho => ?_, fun b g hb => ?_, fun b sv svs hb => ?_⟩
        · obtain ⟨h1, h2⟩ := hS.out g hlt fun h => ho (hownc2 g h)
          refine ⟨h1, fun h => ?_⟩
          rcases hown2 g h with h | h
          · exact ho h.1
          · exact h2 h
        · cases hpi : place ids' b with
          | none => rw [hpl2n b hpi]; exact hb
          | some j =>
            rw [hpl2s b j hpi]
            have hj := place_some hpi
            rw [← hids'] at hj
            by_cases hjl : j < ids.length
            · rw [List.getElem?_append_left hjl] at hj
              exact hS.cells j g (by omega) (by simp only [plc, hj, Option.bind_some]; exact hb)
            · rw [List.getElem?_append_right (by omega)] at hj
              have := hr.fresh b (hnew2 b (List.mem_of_getElem? hj))
              rw [this] at hb
              cases hb
        · have hpi : place ids' b = none := by
            cases hpi : place ids' b with
            | none => rfl
            | some j =>
              have hj := List.mem_of_getElem? (place_some hpi)
              rw [← hids'] at hj
              rcases List.mem_append.1 hj with hj | hj
              · obtain ⟨t, cs, h⟩ := hcells b hj
                obtain ⟨q, hq, hR⟩ := hr.blks b _ h
                rw [hb] at hq
                injection hq with hq
                subst hq
                exact hR.elim
              · have := hr.fresh b (hnew2 b hj)
                rw [this] at hb
                cases hb
          exact ⟨sv, svs, by rw [hpl2n b hpi]; exact hb, KeepR.of_live (fun C h hC => by rw [hbl3n b hpi] at h; exact hblkL b _ h (by cases C <;> first | rfl | exact absurd rfl hC)) _ _⟩
      have hdat : ∀ (τ : Ty) (x : τ.den) (us : List Value), ((ST.flat S.res && BT.flat S.outs) = false ∨ τ.flat = true) → DRep Eo.w Eo.ok τ x us → DRep (envOf ok0 base pl2 bl3 w').w (envOf ok0 base pl2 bl3 w').ok τ x us := by
        intro τ x us hor hd
        rcases hor with hemp | hflat
        · refine hd.mono fun g hg _ => ⟨?_, rfl⟩
          obtain ⟨h1, h2⟩ := hg
          rcases h1 with (h1 | ⟨b, hb, t, e, ver, l, sv, hbl2b, hplb', hsvg⟩) | h1
          · rw [hEok] at h1
            refine ⟨h1.1, fun ho => ?_⟩
            rcases hown2 g ho with h | h
            · exact h1.2 h.1
            · exact h2 h
          · -- a row that the call has kept
            refine ⟨.inr ?_, fun ho => ?_⟩
            · obtain ⟨p, hp, hB⟩ := hr.blks b _ hbl2b
              rw [hplb'] at hp
              injection hp with hp
              subst hp
              obtain ⟨_, xs, _, hrow⟩ := hB
              rcases hrow.2 with ⟨h3, _⟩ | ⟨g', cap, cur, h3, h4, _⟩
              · rw [h3] at hsvg; simp [Value.ownBlock] at hsvg
              · rw [h3] at hsvg
                simp only [Value.ownBlock, Option.some.injEq] at hsvg
                subst hsvg
                exact h4
            · rcases hown2 g ho with ⟨_, i, B, p, hpi, hBi, hl, hpi', hpg⟩ | h
              · by_cases hib : i = b
                · subst hib
                  -- it is dead, so it owns nothing
                  have hmem : (i, Blk.dead) ∈ kills := by
                    rw [← hkills]
                    exact killsOf_all hemp hb (by rw [← hrds2 i hb]; exact hbl2b)
                  obtain ⟨j, B', p', hB', hl', hp', hg'⟩ := ho
                  cases hpj : place ids' j with
                  | none =>
                    rw [hbl3n j hpj] at hB'
                    rw [hpl2n j hpj] at hp'
                    have hB2 := hblkL j B' hB' hl'
                    by_cases hji : j = i
                    · subst hji
                      rcases updL_dead (l := kills) (f := bl2) j (fun p hp => (hkl p hp).1) with ⟨_, h5⟩ | ⟨h5, _⟩
                      · exact h5 _ hmem rfl
                      · rw [show blk j = some .dead from h5] at hB'
                        injection hB' with hB'
                        subst hB'
                        cases hl'
                    · exact hr.sep j i B' _ p' (.row sv []) g hji hB2 hbl2b hl' rfl hp' hplb' hg' (.inl hsvg)
                  | some q =>
                    rw [hpl2s j q hpj] at hp'
                    obtain ⟨Bq, hBq, hlq⟩ := hblo q (hplb j q hpj)
                    exact h2 ⟨q, Bq, p', hBq, hlq, hp', hg'⟩
                · exact hr.sep i b B _ p (.row sv []) g hib hBi hbl2b hl rfl hpi' hplb' hpg (.inl hsvg)
              · exact h2 h
          · refine ⟨.inr (Nat.le_trans hr.baseLe h1), fun ho => ?_⟩
            rcases hown2 g ho with h | h
            · have := Own.lt hr h.1; omega
            · exact h2 h
        · exact hd.flat hflat
      have hren2 : Ren2 S.outs.length Eo (envOf ok0 base pl2 bl3 w') (upFrom 0 S.outs.length) ids' := by
        have key : ∀ b, b < S.outs.length → pl2 (ids'.getD b 0) = pl' b ∧ bl3 (ids'.getD b 0) = (mkB ids' S.outs z.2)[b]? := by
          intro b hb
          have hb' : b < ids'.length := by omega
          have hget : ids'[b]? = some ids'[b] := List.getElem?_eq_getElem hb'
          have hgd : ids'.getD b 0 = ids'[b] := by simp [List.getD, hget]
          have hpb := place_of hnod' hget
          rw [hgd]
          exact ⟨hpl2s _ b hpb, hbl3s _ b hpb⟩
        refine ⟨fun b g hb h => ?_, fun b sv svs hb h => ?_⟩
        · rw [getD_upFrom hb] at h
          show pl2 _ = _
          rw [(key b hb).1]
          exact h
        · rw [getD_upFrom hb] at h ⊢
          refine ⟨?_, fun t e ver l h2 => ?_, fun t et e ver iver hole l h2 => ?_⟩
          · show pl2 _ = _
            rw [(key b hb).1]
            exact h
          · have h3 : bl3 (ids'.getD b 0) = some (.row t e ver l) := h2
            rw [(key b hb).2] at h3
            exact mkB_row h3
          · have h3 : bl3 (ids'.getD b 0) = some (.mat t et e ver iver hole l) := h2
            rw [(key b hb).2] at h3
            exact mkB_mat h3
      have hfl : (ST.flat S.res && BT.flat S.outs) = false ∨ (ST.flat S.res = true ∧ BT.flat S.outs = true) := by
        cases hf : (ST.flat S.res && BT.flat S.outs) with
        | false => exact .inl rfl
        | true => exact .inr (andB hf)
      refine hK (retVal vals) pl2 w' ?_ hstep ?_
      · refine ⟨Nat.le_trans hr.baseLe hS.size, fun i B hB => ?_, fun i j B C p q g hij hB hC hlB' hlC hp hq hpg => ?_, fun i hi => ?_⟩
        · cases hpi : place ids' i with
          | none =>
            rw [hbl3n i hpi] at hB
            cases hl : B.live with
            | false =>
              have hex : ∃ B0, bl2 i = some B0 := by
                rcases hblk i with h | ⟨_, _, t, e, ver, l, h⟩
                · exact ⟨B, by rw [← h]; exact hB⟩
                · exact ⟨_, h⟩
              obtain ⟨B0, hB0⟩ := hex
              obtain ⟨p, hp, _⟩ := hr.blks i B0 hB0
              refine ⟨p, by rw [hpl2n i hpi]; exact hp, ?_⟩
              cases B <;> first | exact trivial | simp [Blk.live] at hl
            | true =>
              have hB := hblkL i B hB hl
              obtain ⟨p, hp, hBR⟩ := hr.blks i B hB
              refine ⟨p, by rw [hpl2n i hpi]; exact hp, ?_⟩
              exact BRep.mono hstep.ext hBR fun g hg => (hkept i B p g hpi hB hl hp hg).1
          | some b =>
            obtain ⟨Bo, hBo, hlo⟩ := hblo b (hplb i b hpi)
            obtain ⟨p, hp, hBR⟩ := hR.blks b Bo hBo
            obtain ⟨B', h1, h2, _, _, _⟩ := mkB_ren hren2 (hr.baseLe) hdat rfl c6 (hfl.imp id (·.2)) hBo hBR
            rw [hbl3s i b hpi, h1] at hB
            injection hB with hB
            subst hB
            exact ⟨p, by rw [hpl2s i b hpi]; exact hp, h2⟩
        · cases hpi : place ids' i with
          | none =>
            rw [hbl3n i hpi] at hB
            have hB := hblkL i B hB hlB'
            rw [hpl2n i hpi] at hp
            cases hpj : place ids' j with
            | none =>
              rw [hbl3n j hpj] at hC
              have hC := hblkL j C hC hlC
              rw [hpl2n j hpj] at hq
              exact hr.sep i j B C p q g hij hB hC hlB' hlC hp hq hpg
            | some b =>
              rw [hpl2s j b hpj] at hq
              intro hqg
              obtain ⟨Bo, hBo, hlo⟩ := hblo b (hplb j b hpj)
              exact (hkept i B p g hpi hB hlB' hp hpg).2 ⟨b, Bo, q, hBo, hlo, hq, hqg⟩
          | some b =>
            rw [hpl2s i b hpi] at hp
            obtain ⟨Bo, hBo, hlo⟩ := hblo b (hplb i b hpi)
            cases hpj : place ids' j with
            | none =>
              rw [hbl3n j hpj] at hC
              have hC := hblkL j C hC hlC
              rw [hpl2n j hpj] at hq
              intro hqg
              exact (hkept j C q g hpj hC hlC hq hqg).2 ⟨b, Bo, p, hBo, hlo, hp, hpg⟩
            | some b' =>
              rw [hpl2s j b' hpj] at hq
              obtain ⟨Bo', hBo', hlo'⟩ := hblo b' (hplb j b' hpj)
              have hbb : b ≠ b' := by
                rintro rfl
                have h1 := place_some hpi
                have h2 := place_some hpj
                rw [h1] at h2
                injection h2 with h2
                exact hij h2
              exact hR.sep b b' _ _ p q g hbb hBo hBo' hlo hlo' hp hq hpg
        · cases hpi : place ids' i with
          | none =>
            rw [hbl3n i hpi] at hi
            rw [hpl2n i hpi]
            rcases hblk i with h | ⟨h, _⟩
            · exact hr.fresh i (by rw [← h]; exact hi)
            · rw [h] at hi; cases hi
          | some b =>
            rw [hbl3s i b hpi] at hi
            have := hplb i b hpi
            rw [List.getElem?_eq_none_iff, length_mkB] at hi
            omega
      · exact TReps.res (mkS_ren hren2 hdat c5 (hfl.imp id (·.1)) hT)
  · cases hk
end
end Go.Lift
