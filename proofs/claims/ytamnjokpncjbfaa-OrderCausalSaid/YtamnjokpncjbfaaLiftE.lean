/- The lifter, part E: the operations that make no call. -/
import Derived.Test.YtamnjokpncjbfaaLiftD
namespace Go.Lift
open Go.RowKit

theorem andB {a b : Bool} (h : (a && b) = true) : a = true ∧ b = true := by simpa using h

theorem given_some {β : Type} {c : Bool} {x : Option β} {r : β} (h : given c x = some r) : c = true ∧ x = some r := by
  cases c with
  | false => cases h
  | true => exact ⟨rfl, h⟩

/-! ### Reading a datum off cells -/
/-- The cells may be read: what the rows among them need. -/
structure Rows (E : Env) (blp : Nat → Option Blk) (okp : Nat → Prop) (ids : List Nat) : Prop where
  ok : ∀ g, E.ok g → okp g
  row : ∀ b ∈ ids, ∀ t e ver l, blp b = some (.row t e ver l) → E.bl b = some (.row t e ver l) ∧ ∀ sv g, E.pl b = some (.row sv []) → sv.ownBlock = some g → okp g
  mat : ∀ b ∈ ids, ∀ t et e ver iver hole l, blp b = some (.mat t et e ver iver hole l) → E.bl b = some (.mat t et e ver iver hole l) ∧ ∀ sv svs g, E.pl b = some (.row sv svs) → (Pl.row sv svs).has g → okp g

theorem DList.take {w : World} {ok : Nat → Prop} {e : Ty} : ∀ {l : List e.den} {xs : List Value} (n : Nat), DList (fun x u => DRep w ok e x u) l xs → DList (fun x u => DRep w ok e x u) (l.take n) (xs.take (n * e.size))
  | [], _, n, h => by simp only [DList] at h; subst h; simp [DList]
  | _ :: _, _, 0, h => by simp [DList]
  | x :: l, xs, n + 1, ⟨u, v, e1, hr, ht⟩ => by
    refine ⟨u, v.take (n * e.size), ?_, hr, DList.take n ht⟩
    have hu := hr.length
    rw [e1, Nat.succ_mul, List.take_append, List.take_of_length_le (by omega)]
    congr 2
    omega

theorem DList.drop {w : World} {ok : Nat → Prop} {e : Ty} : ∀ {l : List e.den} {xs : List Value} (n : Nat), DList (fun x u => DRep w ok e x u) l xs → DList (fun x u => DRep w ok e x u) (l.drop n) (xs.drop (n * e.size))
  | [], _, n, h => by simp only [DList] at h; subst h; simp [DList]
  | _ :: _, _, 0, h => by simpa using h
  | x :: l, xs, n + 1, ⟨u, v, e1, hr, ht⟩ => by
    have hu := hr.length
    have h2 := DList.drop n ht
    have e2 : xs.drop ((n + 1) * e.size) = v.drop (n * e.size) := by
      rw [e1, Nat.succ_mul, List.drop_append, List.drop_of_length_le (l := u) (by omega), List.nil_append]
      congr 1
      omega
    rw [e2]
    simpa using h2

theorem rowIds_cons_mem {c : C} {cs : List C} {b : Nat} (h : b ∈ rowIds cs) : b ∈ rowIds (c :: cs) := by
  cases c <;> simp_all [rowIds]

theorem Rows.tail {E : Env} {blp : Nat → Option Blk} {okp : Nat → Prop} {c : C} {cs : List C} (h : Rows E blp okp (rowIds (c :: cs))) : Rows E blp okp (rowIds cs) :=
  ⟨h.ok, fun b hb => h.row b (rowIds_cons_mem hb), fun b hb => h.mat b (rowIds_cons_mem hb)⟩

theorem Rows.sub {E : Env} {blp : Nat → Option Blk} {okp : Nat → Prop} {a b : List Nat} (h : Rows E blp okp a) (hs : ∀ x ∈ b, x ∈ a) : Rows E blp okp b := ⟨h.ok, fun x hx => h.row x (hs x hx), fun x hx => h.mat x (hs x hx)⟩

theorem rowIds_append : ∀ (cs ds : List C), rowIds (cs ++ ds) = rowIds cs ++ rowIds ds
  | [], _ => rfl
  | c :: cs, ds => by cases c <;> simp [rowIds, rowIds_append cs ds]

def BlksOk (E : Env) : Prop := ∀ i B, E.bl i = some B → ∃ p, E.pl i = some p ∧ BRep E B p

theorem rowOf_get {E : Env} {blp : Nat → Option Blk} (hb : BlksOk E) {b ver : Nat} {e : Ty} {l : List e.den} (hsub : ∀ t e ver l, blp b = some (.row t e ver l) → E.bl b = some (.row t e ver l)) (h : rowOf blp b ver e = some l) :
    ∃ t sv xs, blp b = some (.row t e ver l) ∧ E.bl b = some (.row t e ver l) ∧ E.pl b = some (.row sv []) ∧ DList (fun x u => DRep E.w E.ok e x u) l xs ∧ E.w.ownsRow E.base t e.size sv l.length xs := by
  unfold rowOf at h
  split at h
  · rename_i t e' ver' l' hbl0
    have hbl := hsub _ _ _ _ hbl0
    cases hver : Nat.beq ver ver' with
    | false => rw [hver] at h; cases h
    | true =>
      have : ver = ver' := Nat.eq_of_beq_eq_true hver
      subst this
      simp only [hver, cond_true] at h
      split at h
      · rename_i he
        subst he
        simp only [Option.some.injEq] at h
        subst h
        obtain ⟨p, hp', hB⟩ := hb b _ hbl
        cases p with
        | cells _ => exact hB.elim
        | row sv svs =>
          obtain ⟨h0, xs, hd, ho⟩ := hB
          subst h0
          exact ⟨t, sv, xs, hbl0, hbl, hp', hd, ho⟩
      · cases h
  · cases h

theorem rowOf_rep {E : Env} {blp : Nat → Option Blk} (hb : BlksOk E) {b ver : Nat} {e : Ty} {l : List e.den} (hsub : ∀ t e ver l, blp b = some (.row t e ver l) → E.bl b = some (.row t e ver l)) (h : rowOf blp b ver e = some l) {v : Value} (hv : CRep E (.row b ver) v) :
    ∃ t sv xs, E.bl b = some (.row t e ver l) ∧ E.pl b = some (.row sv []) ∧ v = sv ∧ DList (fun x u => DRep E.w E.ok e x u) l xs ∧ E.w.ownsRow E.base t e.size sv l.length xs := by
  obtain ⟨t, sv, xs, _, hbl, hp, hd, ho⟩ := rowOf_get hb hsub h
  obtain ⟨h1, sv2, svs2, hp2, hcur⟩ := hv
  rw [hp] at hp2
  injection hp2 with hp2
  injection hp2 with hp2 _
  subst hp2
  exact ⟨t, sv, xs, hbl, hp, (hcur t e ver l hbl).2 rfl, hd, ho⟩

/-- A part of a row, as what it is in memory. -/
theorem subRow_core {w : World} {okI : Nat → Prop} {base : Nat} {t : TypeId} {e : Ty} {l : List e.den} {sv v : Value} {xs : List Value} {i j : Nat} (hij : i ≤ j ∧ j ≤ l.length ∧
    ∃ A A' n c, sv = .slice A n c ∧ v = .slice A' (j - i) (c - i) ∧ (i < j → A' = A.map (·.add (i * e.size))) ∧ (i = 0 → A' = A)) (hd : DList (fun x u => DRep w okI e x u) l xs) (ho : w.ownsRow base t e.size sv l.length xs) :
    ∃ A c ys, v = .slice A ((l.take j).drop i).length c ∧ ((l.take j).drop i).length ≤ c ∧ c ≤ maxLen ∧ DList (fun x u => DRep w okI e x u) ((l.take j).drop i) ys ∧
      ∀ k u, ys[k]? = some u → ∃ ad, A = some ad ∧ sv.ownBlock = some ad.block ∧ w.cell? (ad.add k) = some u := by
  obtain ⟨h1, h2, A, A', n, c, hsv, hv, hA, _⟩ := hij
  have hlen : ((l.take j).drop i).length = j - i := by simp; omega
  have hown := ho
  have hc : l.length ≤ c ∧ c ≤ maxLen := by
    rcases ho.2 with ⟨e1, hn⟩ | ⟨g, cap, cur, e1, hbase, hh, hnc, hcm, hcs, htake⟩
    · rw [hsv] at e1
      injection e1 with _ _ e3
      subst e3
      exact ⟨by omega, by simp [maxLen]⟩
    · rw [hsv] at e1
      injection e1 with _ _ e3
      subst e3
      exact ⟨hnc, hcm⟩
  refine ⟨A', c - i, (xs.take (j * e.size)).drop (i * e.size), by rw [hv, hlen], by rw [hlen]; omega, by omega, (hd.take j).drop i, fun k u hk => ?_⟩
  rw [List.getElem?_drop, List.getElem?_take] at hk
  split at hk
  · rename_i hlt
    have hij : i < j := by
      rcases Nat.lt_or_ge i j with h | h
      · exact h
      · have : j * e.size ≤ i * e.size := Nat.mul_le_mul_right _ h
        omega
    rcases ho.2 with ⟨e1, hn⟩ | ⟨g, cap, cur, e1, hbase, hh, hnc, hcm, hcs, htake⟩
    · have : l = [] := List.eq_nil_of_length_eq_zero hn
      subst this
      simp at h2
      omega
    · rw [hsv] at e1
      injection e1 with e1 _ _
      subst e1
      refine ⟨(⟨g, 0, none⟩ : Addr).add (i * e.size), hA hij, by rw [hsv, block_of_add]; rfl, ?_⟩
      rw [add_of_add]
      exact hown.cells (g := g) (by rw [hsv]; rfl) _ _ hk
  · cases hk

theorem DList_of_get {α : Type} {R : α → List Value → Prop} : ∀ {l : List α} {vs : List Value}, vs.length = l.length → (∀ (i : Nat) x v, l[i]? = some x → vs[i]? = some v → R x [v]) → DList R l vs
  | [], vs, h, _ => by simp only [DList]; exact List.eq_nil_of_length_eq_zero h
  | x :: l, vs, h, hr => by
    cases vs with
    | nil => simp at h
    | cons v vs => exact ⟨[v], vs, rfl, hr 0 x v rfl rfl, DList_of_get (by simpa using h) fun i y u hy hu => hr (i + 1) y u (by simpa using hy) (by simpa using hu)⟩

/-- A row of one's own, its elements as data. -/
theorem ownsRow_repO {w : World} {base : Nat} {okp : Nat → Prop} {t : TypeId} {e : Ty} {l : List e.den} {sv : Value} {xs : List Value} {n : Nat}
    (hg : ∀ g, sv.ownBlock = some g → okp g) (hd : DList (fun x u => DRep w okp e x u) l xs) (ho : w.ownsRow base t n sv l.length xs) : DRep w okp (.slice e) l [sv] := by
  simp only [DRep]
  have hown := ho
  rcases ho.2 with ⟨rfl, hn⟩ | ⟨g, cap, cur, rfl, hbase, hh, hnc, hcm, hcs, htake⟩
  · have hl : l = [] := List.eq_nil_of_length_eq_zero hn
    subst hl
    simp only [DList] at hd
    subst hd
    exact ⟨none, 0, [], rfl, by simp, by simp [maxLen], rfl, by simp⟩
  · refine ⟨some ⟨g, 0, none⟩, cap, xs, rfl, hnc, hcm, hd, fun j u hj => ⟨_, rfl, hg g rfl, hown.cells (g := g) rfl j u hj⟩⟩

theorem ownsRow_rep {E : Env} {okp : Nat → Prop} (hok : ∀ g, E.ok g → okp g) {t : TypeId} {e : Ty} {l : List e.den} {sv : Value} {xs : List Value}
    (hg : ∀ g, sv.ownBlock = some g → okp g) (hd : DList (fun x u => DRep E.w E.ok e x u) l xs) (ho : E.w.ownsRow E.base t e.size sv l.length xs) : DRep E.w okp (.slice e) l [sv] := by
  simp only [DRep]
  have hd' : DList (fun x u => DRep E.w okp e x u) l xs := hd.mono fun x u hu => hu.mono (fun g h1 _ => ⟨hok g h1, rfl⟩)
  have hown := ho
  rcases ho.2 with ⟨rfl, hn⟩ | ⟨g, cap, cur, rfl, hbase, hh, hnc, hcm, hcs, htake⟩
  · have hl : l = [] := List.eq_nil_of_length_eq_zero hn
    subst hl
    simp only [DList] at hd'
    subst hd'
    exact ⟨none, 0, [], rfl, by simp, by simp [maxLen], rfl, by simp⟩
  · refine ⟨some ⟨g, 0, none⟩, cap, xs, rfl, hnc, hcm, hd', fun j u hj => ⟨_, rfl, hg g rfl, hown.cells (g := g) rfl j u hj⟩⟩

theorem matAs_rep {E : Env} {blp : Nat → Option Blk} {okp : Nat → Prop} (hok : ∀ g, E.ok g → okp g) (hb : BlksOk E) {b ver : Nat} {e : Ty} {l : List e.den}
    (hsub : ∀ t et e ver iver hole l, blp b = some (.mat t et e ver iver hole l) → E.bl b = some (.mat t et e ver iver hole l) ∧ ∀ sv svs g, E.pl b = some (.row sv svs) → (Pl.row sv svs).has g → okp g) (h : matAs blp b ver e = some l) {v : Value} (hv : CRep E (.mat b ver) v) :
    DRep E.w okp (.slice e) l [v] := by
  cases e with
  | slice e =>
    simp only [matAs] at h
    unfold matOf at h
    split at h
    · rename_i t et e' ver' iver l' hbl0
      cases hver : Nat.beq ver ver' with
      | false => rw [hver] at h; cases h
      | true =>
        have : ver = ver' := Nat.eq_of_beq_eq_true hver
        subst this
        simp only [hver, cond_true] at h
        split at h
        · rename_i he
          subst he
          simp only [Option.some.injEq] at h
          subst h
          obtain ⟨hbl, hgs⟩ := hsub _ _ _ _ _ _ _ hbl0
          obtain ⟨h1, sv, svs, hp, hcur⟩ := hv
          have hvs := (hcur _ _ _ _ _ _ _ hbl).2 rfl
          subst hvs
          obtain ⟨p, hp', hB⟩ := hb b _ hbl
          rw [hp] at hp'
          injection hp' with hp'
          subst hp'
          have hM : MatOk E t et e' none l' v svs := hB
          obtain ⟨vs, ho, hvs⟩ := hM.outer
          have hget : ∀ i, i < l'.length → ∃ s, svs[i]? = some (some s) := fun i hi => by
            have hi2 : i < svs.length := by rw [hM.len]; exact hi
            have h2 : svs[i]? = some svs[i] := List.getElem?_eq_getElem hi2
            cases hs : svs[i] with
            | some s => exact ⟨s, by rw [h2, hs]⟩
            | none => rw [hs] at h2; exact absurd (hM.hole i h2) (by simp)
          have hvl : vs.length = l'.length := by rw [ho.1, Nat.mul_one]
          have hd : DList (fun (x : List e'.den) u => DRep E.w okp (.slice e') x u) l' vs := DList_of_get hvl fun i x u hx hu => by
            have hi := (List.getElem?_eq_some_iff.1 hx).1
            obtain ⟨s, hs⟩ := hget i hi
            have := hvs i s hs
            rw [hu] at this
            injection this with this
            subst this
            obtain ⟨xs, hd, ho⟩ := hM.inner i u x hs hx
            exact ownsRow_rep hok (fun g hg => hgs _ _ g hp (.inr ⟨i, u, hs, hg⟩)) hd ho
          have hd2 : DList (fun x u => DRep E.w okp (.slice e') x u) l' vs := hd
          exact ownsRow_repO (fun g hg => hgs _ _ g hp (.inl hg)) hd2 ho
        · cases h
    · cases h
  | _ => simp [matAs] at h

theorem pack_rep {E : Env} {blp : Nat → Option Blk} {okp : Nat → Prop} (hb : BlksOk E) : ∀ {τ : Ty} {cs : List C} {vs : List Value} {x : τ.den} {r : List C}, Rows E blp okp (rowIds cs) → CReps E cs vs → pack blp τ cs = some (x, r) →
    ∃ us ws, vs = us ++ ws ∧ DRep E.w okp τ x us ∧ CReps E r ws ∧ (∃ ds, cs = ds ++ r)
  | .bool, cs, vs, x, r, hr, h, hp => by
    cases cs with
    | nil => simp [pack] at hp
    | cons c cs =>
      cases c <;> simp only [pack] at hp <;> try (cases hp; done)
      simp only [Option.some.injEq, Prod.mk.injEq] at hp
      obtain ⟨hp1, hp2⟩ := hp
      subst hp1 hp2
      obtain ⟨v, vs', e, h1, h2⟩ := h
      simp only [CRep] at h1
      subst e h1
      exact ⟨[_], vs', rfl, rfl, h2, ⟨[_], rfl⟩⟩
  | .int k, cs, vs, x, r, hr, h, hp => by
    cases cs with
    | nil => simp [pack] at hp
    | cons c cs =>
      cases c <;> simp only [pack] at hp <;> try (cases hp; done)
      rename_i k' n
      split at hp
      · rename_i hk
        subst hk
        simp only [Option.some.injEq, Prod.mk.injEq] at hp
        obtain ⟨hp1, hp2⟩ := hp
        subst hp1 hp2
        obtain ⟨v, vs', e, h1, h2⟩ := h
        simp only [CRep] at h1
        subst e h1
        exact ⟨[_], vs', rfl, rfl, h2, ⟨[_], rfl⟩⟩
      · cases hp
  | .str, cs, vs, x, r, hr, h, hp => by
    cases cs with
    | nil => simp [pack] at hp
    | cons c cs =>
      cases c <;> simp only [pack] at hp <;> try (cases hp; done)
      simp only [Option.some.injEq, Prod.mk.injEq] at hp
      obtain ⟨hp1, hp2⟩ := hp
      subst hp1 hp2
      obtain ⟨v, vs', e, h1, h2⟩ := h
      simp only [CRep] at h1
      subst e h1
      exact ⟨[_], vs', rfl, rfl, h2, ⟨[_], rfl⟩⟩
  | .unit, cs, vs, x, r, hr, h, hp => by
    simp only [pack, Option.some.injEq, Prod.mk.injEq] at hp
    obtain ⟨_, hp2⟩ := hp
    subst hp2
    exact ⟨[], vs, rfl, rfl, h, ⟨[], rfl⟩⟩
  | .prod a b, cs, vs, x, r, hr, h, hp => by
    simp only [pack] at hp
    split at hp
    · cases hp
    · rename_i y r1 h1
      split at hp
      · cases hp
      · rename_i z r2 h2
        simp only [Option.some.injEq, Prod.mk.injEq] at hp
        obtain ⟨hp1, hp2⟩ := hp
        subst hp1 hp2
        obtain ⟨us, ws, e1, d1, c1, ds1, hc1⟩ := pack_rep hb hr h h1
        have hr1 : Rows E blp okp (rowIds r1) := hr.sub fun b hbm => by rw [hc1, rowIds_append]; exact List.mem_append_right _ hbm
        obtain ⟨us2, ws2, e2, d2, c2, ds2, hc2⟩ := pack_rep hb hr1 c1 h2
        refine ⟨us ++ us2, ws2, by rw [e1, e2, List.append_assoc], ?_, c2, ⟨ds1 ++ ds2, by rw [hc1, hc2, List.append_assoc]⟩⟩
        simp only [DRep]
        exact ⟨us, us2, rfl, d1, d2⟩
  | .slice e, cs, vs, x, r, hr, h, hp => by
    cases cs with
    | nil => simp [pack] at hp
    | cons c cs =>
      obtain ⟨v, vs', e1, h1, h2⟩ := h
      subst e1
      cases c <;> simp only [pack] at hp <;> try (cases hp; done)
      · rename_i e' l
        split at hp
        · rename_i he
          subst he
          simp only [Option.some.injEq, Prod.mk.injEq] at hp
          obtain ⟨hp1, hp2⟩ := hp
          subst hp1 hp2
          exact ⟨[v], vs', rfl, DRep.mono (τ := .slice _) (fun g hg _ => ⟨hr.ok g hg, rfl⟩) h1, h2, ⟨[_], rfl⟩⟩
        · cases hp
      · simp only [Option.some.injEq, Prod.mk.injEq] at hp
        obtain ⟨hp1, hp2⟩ := hp
        subst hp1 hp2
        simp only [CRep] at h1
        subst h1
        refine ⟨[_], vs', rfl, ?_, h2, ⟨[_], rfl⟩⟩
        simp only [DRep]
        exact ⟨none, 0, [], rfl, by simp, by simp [maxLen], rfl, by simp⟩
      · rename_i b ver
        split at hp
        · cases hp
        · rename_i l hl
          simp only [Option.some.injEq, Prod.mk.injEq] at hp
          obtain ⟨hp1, hp2⟩ := hp
          subst hp1 hp2
          have hmem : b ∈ rowIds (C.row b ver :: cs) := by simp [rowIds]
          obtain ⟨t, sv, xs, hbl, hpl, rfl, hd, ho⟩ := rowOf_rep hb (fun t e ver l hB => (hr.row b hmem t e ver l hB).1) hl h1
          have hbp : ∃ t e ver l, blp b = some (.row t e ver l) := by
            unfold rowOf at hl
            split at hl
            · rename_i h0; exact ⟨_, _, _, _, h0⟩
            · cases hl
          obtain ⟨t', e', ver', l', hB⟩ := hbp
          exact ⟨[v], vs', rfl, ownsRow_rep hr.ok (fun g hg => (hr.row b hmem t' e' ver' l' hB).2 v g hpl hg) hd ho, h2, ⟨[_], rfl⟩⟩
      · rename_i b ver
        split at hp
        · cases hp
        · rename_i l hl
          simp only [Option.some.injEq, Prod.mk.injEq] at hp
          obtain ⟨hp1, hp2⟩ := hp
          subst hp1 hp2
          have hmem : b ∈ rowIds (C.mat b ver :: cs) := by simp [rowIds]
          exact ⟨[v], vs', rfl, matAs_rep hr.ok hb (hr.mat b hmem) hl h1, h2, ⟨[_], rfl⟩⟩
      · rename_i b ver i j
        split at hp
        · cases hp
        · rename_i l hl
          simp only [Option.some.injEq, Prod.mk.injEq] at hp
          obtain ⟨hp1, hp2⟩ := hp
          subst hp1 hp2
          have hmem : b ∈ rowIds (C.sub b ver i j :: cs) := by simp [rowIds]
          obtain ⟨t, sv, xs, hB, hbl, hpl, hd, ho⟩ := rowOf_get hb (fun t e ver l hB => (hr.row b hmem t e ver l hB).1) hl
          obtain ⟨_, sv2, svs2, hpl2, hcur⟩ := h1
          rw [hpl] at hpl2
          injection hpl2 with hpl2
          injection hpl2 with hpl2 _
          subst hpl2
          obtain ⟨A, c, ys, q1, q2, q3, q4, q5⟩ := subRow_core ((hcur _ _ _ _ hbl).2 rfl) hd ho
          refine ⟨[v], vs', rfl, ?_, h2, ⟨[_], rfl⟩⟩
          simp only [DRep]
          refine ⟨A, c, ys, by rw [q1], q2, q3, q4.mono fun x u hu => hu.mono (fun g h1 _ => ⟨hr.ok g h1, rfl⟩), fun k u hk => ?_⟩
          obtain ⟨ad, r1, r2, r3⟩ := q5 k u hk
          exact ⟨ad, r1, (hr.row b hmem _ _ _ _ hB).2 sv _ hpl r2, r3⟩

theorem pack1_rep {E : Env} {blp : Nat → Option Blk} {okp : Nat → Prop} (hb : BlksOk E) {τ : Ty} {cs : List C} {vs : List Value} {x : τ.den} (hr : Rows E blp okp (rowIds cs)) (h : CReps E cs vs) (hp : pack1 blp τ cs = some x) : DRep E.w okp τ x vs := by
  unfold pack1 at hp
  split at hp
  · rename_i y hy
    simp only [Option.some.injEq] at hp
    subst hp
    obtain ⟨us, ws, e, d, c, _⟩ := pack_rep hb hr h hy
    simp only [CReps] at c
    subst c
    simpa [e] using d
  · cases hp

theorem packs_rep {E : Env} {blp : Nat → Option Blk} {okp : Nat → Prop} (hb : BlksOk E) {e : Ty} : ∀ {n : Nat} {cs : List C} {vs : List Value} {l : List e.den}, Rows E blp okp (rowIds cs) → CReps E cs vs → packs blp e n cs = some l →
    DList (fun x u => DRep E.w okp e x u) l vs ∧ l.length = n
  | 0, [], vs, l, _, h, hp => by
    simp only [packs, Option.some.injEq] at hp
    subst hp
    simp only [CReps] at h
    exact ⟨h, rfl⟩
  | 0, _ :: _, _, _, _, _, hp => by simp [packs] at hp
  | n + 1, cs, vs, l, hr, h, hp => by
    simp only [packs] at hp
    split at hp
    · rename_i x r hx
      split at hp
      · rename_i l' hl'
        simp only [Option.some.injEq] at hp
        subst hp
        obtain ⟨us, ws, e1, d1, c1, ds, hc⟩ := pack_rep hb hr h hx
        have hr1 : Rows E blp okp (rowIds r) := hr.sub fun b hbm => by rw [hc, rowIds_append]; exact List.mem_append_right _ hbm
        obtain ⟨h1, h2⟩ := packs_rep hb hr1 c1 hl'
        exact ⟨⟨us, ws, e1, d1, h1⟩, by simp [h2]⟩
      · cases hp
    · cases hp

theorem RelB.blksOk {ok0 : Nat → Prop} {base : Nat} {pl : Nat → Option Pl} {bl : Nat → Option Blk} {w : World} (h : RelB ok0 base pl bl w) : BlksOk (envOf ok0 base pl bl w) := h.blks

theorem Rows.none (E : Env) (ids : List Nat) : Rows E (fun _ => none) E.ok ids := ⟨fun _ h => h, fun _ _ _ _ _ _ h => (by cases h), fun _ _ _ _ _ _ _ _ _ h => (by cases h)⟩

/-! ### The operations -/
section
variable {P : Program} {o : Oper} {ρ : Operand → V} {bl : Nat → Option Blk} {β : Type} {r : β}

/-- What the evaluator's word on one operation is worth. -/
def Sound (P : Program) (o : Oper) (ρ : Operand → V) (bl : Nat → Option Blk) (kk : K β) (r : β) : Prop :=
  ∃ v rd wr, kk v rd wr = some r ∧ ∀ bl2, (∀ b ∈ rd, bl2 b = bl b) → OpOk P o ρ bl2 v wr

theorem Sound.pure {kk : K β} {v : V} {rd : List Nat} (hk : kk v rd [] = some r) (h : ∀ bl2, (∀ b ∈ rd, bl2 b = bl b) → ∀ (ok0 : Nat → Prop) (base : Nat) (pl : Nat → Option Pl) (w : World) (a : Act), RelB ok0 base pl bl2 w →
    (∀ x ∈ o.op.operands, VRep (envOf ok0 base pl bl2 w) (ρ x) (a.eval x)) → ∃ val, (execOp a.eval o).run P w = .ok (.value val) w ∧ VRep (envOf ok0 base pl bl2 w) v val) : Sound P o ρ bl kk r :=
  ⟨v, rd, [], hk, fun bl2 hb => OpOk.of_pure (h bl2 hb)⟩

theorem sound_move {kk : K β} {x : Operand} (ho : o.op = .move x ∨ o.op = .assign x) (hk : kk (ρ x) [] [] = some r) : Sound P o ρ bl kk r := by
  refine Sound.pure hk fun bl2 _ ok0 base pl w a hr hx => ⟨a.eval x, ?_, hx x ?_⟩
  · rcases ho with ho | ho <;> simp [execOp, ho]
  · rcases ho with ho | ho <;> simp [ho, Op.operands]

theorem sound_pick {kk : K β} {c a b : Operand} (ho : o.op = .pick c a b) {g : Bool} (hc : ρ c = .c (.bool g)) (hk : cond g (kk (ρ a) [] []) (kk (ρ b) [] []) = some r) : Sound P o ρ bl kk r := by
  have hrun : ∀ (bl2 : Nat → Option Blk) (ok0 : Nat → Prop) (base : Nat) (pl : Nat → Option Pl) (w : World) (act : Act), (∀ x ∈ o.op.operands, VRep (envOf ok0 base pl bl2 w) (ρ x) (act.eval x)) →
      (execOp act.eval o).run P w = .ok (.value (if g then act.eval a else act.eval b)) w := by
    intro bl2 ok0 base pl w act hx
    have h1 := hx c (by simp [ho, Op.operands])
    rw [hc] at h1
    have h2 : act.eval c = .bool g := h1
    simp [execOp, ho, h2, asBool]
  cases g with
  | true =>
    exact Sound.pure hk fun bl2 _ ok0 base pl w act hr hx => ⟨_, hrun bl2 ok0 base pl w act hx, by simpa using hx a (by simp [ho, Op.operands])⟩
  | false =>
    exact Sound.pure hk fun bl2 _ ok0 base pl w act hr hx => ⟨_, hrun bl2 ok0 base pl w act hx, by simpa using hx b (by simp [ho, Op.operands])⟩

/-- A new block of cells. -/
theorem sound_newCells {kk : K β} {nx : Nat} {t : TypeId} {cs : List C} (hk : allocRun bl nx t cs kk = some r)
    (hrun : ∀ (bl2 : Nat → Option Blk) (ok0 : Nat → Prop) (base : Nat) (pl : Nat → Option Pl) (w : World) (a : Act), RelB ok0 base pl bl2 w → (∀ x ∈ o.op.operands, VRep (envOf ok0 base pl bl2 w) (ρ x) (a.eval x)) →
      ∃ vs : List Value, (execOp a.eval o).run P w = .ok (.value (.pointer (some ⟨w.heap.size, 0, none⟩))) (w.alloc (.cells vs.toArray t)) ∧ CReps (envOf ok0 base pl bl2 w) cs vs) : Sound P o ρ bl kk r := by
  unfold allocRun at hk
  split at hk
  · rename_i hn
    refine ⟨_, _, _, hk, fun bl2 hb => ?_⟩
    have hn2 : bl2 nx = none := (hb nx (by simp)).trans hn
    intro ok0 base pl w a hr hx K Q hK
    obtain ⟨vs, h1, h2⟩ := hrun bl2 ok0 base pl w a hr hx
    have hg : w.grownBy (w.alloc (.cells vs.toArray t)) none := World.grownBy_alloc w _ none
    have hp : ∀ g, (Pl.cells w.heap.size).has g → w.heap.size ≤ g := fun g hgg => Nat.le_of_eq hgg
    have hs : Step pl bl2 w (upd pl nx (.cells w.heap.size)) (upd bl2 nx (.cells t cs)) (w.alloc (.cells vs.toArray t)) := Step.new hr hn2 hg hp
    refine wp_of_value h1 (hK _ (upd pl nx (.cells w.heap.size)) _ ?_ hs ?_)
    · exact RelB.new hr hn2 hg hp ⟨vs, heap_alloc_new w _, h2.mono hs.ext⟩
    · exact ⟨w.heap.size, by simp [envOf, upd], rfl⟩
  · cases hk

theorem sound_alloc {T : TypeId → Option TI} (hT : TOk P T) {kk : K β} {nx : Nat} {t : TypeId} (ho : o.op = .alloc t) {ti : TI} (ht : T t = some ti) (hk : allocRun bl nx t ti.zero kk = some r) : Sound P o ρ bl kk r := by
  obtain ⟨i, d, z, f⟩ := hT.facts ht
  refine sound_newCells hk fun bl2 ok0 base pl w a hr hx => ⟨z.cells.toList, ?_, ?_⟩
  · simp [execOp, ho, Instr.alloc, zeroValue, typeInfo, f.info, f.zero, newVar, newRow]
  · rw [f.zeroC]
    exact zeroCs_rep f.one

theorem sound_box {kk : K β} {nx : Nat} {t : TypeId} {x : Operand} (ho : o.op = .box t x) {cs : List C} (hc : (ρ x).cells = some cs) (hk : allocRun bl nx t cs kk = some r) : Sound P o ρ bl kk r := by
  refine sound_newCells hk fun bl2 ok0 base pl w a hr hx => ⟨(a.eval x).cells.toList, ?_, ?_⟩
  · simp [execOp, ho, Instr.box, newVar, newRow]
  · exact VRep.cells_of hc (hx x (by simp [ho, Op.operands]))
end
end Go.Lift
