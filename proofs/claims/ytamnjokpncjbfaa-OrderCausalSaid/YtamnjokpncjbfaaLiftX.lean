/- The lifter, part X: arguments read as pure data, whatever their types; a law's claim. -/
import Derived.Test.YtamnjokpncjbfaaLiftW
import Derived.Deep.Slices
import Derived.Deep.Fields
import Derived.ChangeSame
import Derived.OpenShut
import Derived.WalkKit
import Derived.ProofKit
namespace Go.Lift
open Go.RowKit Go.ChangeShapes Go.WideShapes Go.Deep

/-! ### Does a Go type fit a type of pure data? -/
def fitF (P : Program) (F : TypeId → Ty → Bool) : List Field → Nat → Ty → Bool
  | [], _, .unit => true
  | [f], o, τ => Nat.beq f.offset o && (Nat.beq (P.cellsOf f.type) τ.size && F f.type τ)
  | f :: g :: r, o, .prod a b => Nat.beq f.offset o && (Nat.beq (P.cellsOf f.type) a.size && (F f.type a && fitF P F (g :: r) (o + a.size) b))
  | _, _, _ => false

def fitA (C : Nat) (F : Ty → Bool) : Nat → Ty → Bool
  | 0, .unit => true
  | 1, τ => Nat.beq C τ.size && F τ
  | m + 2, .prod a b => Nat.beq C a.size && (F a && fitA C F (m + 1) b)
  | _, _ => false

def tyFits (P : Program) : Nat → TypeId → Ty → Bool
  | 0, _, _ => false
  | n + 1, t, τ =>
    match P.underlying t with
    | some .bool => match τ with | .bool => true | _ => false
    | some (.int k) => match τ with | .int k' => decide (k = k') | _ => false
    | some .string => match τ with | .str => true | _ => false
    | some (.slice e) => match τ with | .slice ε => Nat.beq (P.cellsOf e) ε.size && tyFits P n e ε | _ => false
    | some (.struct fs) => Nat.beq (P.cellsOf t) τ.size && fitF P (tyFits P n) fs.toList 0 τ
    | some (.array m e) => Nat.beq (P.cellsOf t) τ.size && fitA (P.cellsOf e) (tyFits P n e) m τ
    | _ => false

/-- What is true of all data that a call can get. -/
def Wf : (τ : Ty) → τ.den → Prop
  | .int k, n => (Lit.int k n).wf = true
  | .str, s => s.length ≤ maxLen
  | .prod a b, x => Wf a x.1 ∧ Wf b x.2
  | .slice e, l => l.length ≤ maxLen ∧ ∀ x ∈ l, Wf e x
  | .bool, _ => True
  | .unit, _ => True

section
variable {H : Type} {enc : TypeId × Value → H} {P : Program} {w : World}

theorem open_fields {F : TypeId → Ty → Bool} {cs : List Value} (hF : ∀ {t : TypeId} {τ : Ty} {c : List Value}, F t τ = true → (∃ n sp hd y, DataW.trod enc P w 0 sp hd n t c = some y) → ∃ d : τ.den, DRep w (fun _ => True) τ d c ∧ Wf τ d) :
    ∀ (fs : List Field) (o : Nat) (τ : Ty), fitF P F fs o τ = true → (∀ f ∈ fs, ∃ n sp hd y, DataW.trod enc P w 0 sp hd n f.type ((cs.drop f.offset).take (P.cellsOf f.type)) = some y) → o + τ.size = cs.length →
      ∃ d : τ.den, DRep w (fun _ => True) τ d (cs.drop o) ∧ Wf τ d
  | [], o, τ, hf, _, hl => by
    cases τ <;> simp only [fitF] at hf <;> first | (cases hf; done) | skip
    refine ⟨(), ?_, trivial⟩
    simp only [DRep]
    simp only [Ty.size] at hl
    exact List.drop_eq_nil_of_le (by omega)
  | [f], o, τ, hf, h, hl => by
    simp only [fitF, Bool.and_eq_true] at hf
    obtain ⟨h1, h2, h3⟩ := hf
    have h1 := Nat.eq_of_beq_eq_true h1
    have h2 := Nat.eq_of_beq_eq_true h2
    obtain ⟨n, sp, hd, y, hy⟩ := h f (by simp)
    rw [h1, h2, List.take_of_length_le (by rw [List.length_drop]; omega)] at hy
    exact hF h3 ⟨n, sp, hd, y, hy⟩
  | f :: g :: r, o, τ, hf, h, hl => by
    cases τ with
    | prod a b =>
      simp only [fitF, Bool.and_eq_true] at hf
      obtain ⟨h1, h2, h3, h4⟩ := hf
      have h1 := Nat.eq_of_beq_eq_true h1
      have h2 := Nat.eq_of_beq_eq_true h2
      simp only [Ty.size] at hl
      obtain ⟨n, sp, hd, y, hy⟩ := h f (by simp)
      rw [h1, h2] at hy
      obtain ⟨d1, k1, w1⟩ := hF h3 ⟨n, sp, hd, y, hy⟩
      obtain ⟨d2, k2, w2⟩ := open_fields hF (g :: r) (o + a.size) b h4 (fun f' hf' => h f' (by simp at hf' ⊢; right; exact hf')) (by omega)
      refine ⟨(d1, d2), ?_, w1, w2⟩
      simp only [DRep]
      refine ⟨_, _, ?_, k1, k2⟩
      rw [← List.drop_drop, List.take_append_drop]
    | bool => simp [fitF] at hf
    | int k => simp [fitF] at hf
    | str => simp [fitF] at hf
    | unit => simp [fitF] at hf
    | slice e => simp [fitF] at hf

theorem open_array {C : Nat} {e : TypeId} {F : Ty → Bool} {cs : List Value} (hF : ∀ {τ : Ty} {c : List Value}, F τ = true → (∃ n sp hd y, DataW.trod enc P w 0 sp hd n e c = some y) → ∃ d : τ.den, DRep w (fun _ => True) τ d c ∧ Wf τ d) :
    ∀ (m i : Nat) (τ : Ty), fitA C F m τ = true → (∀ j, i ≤ j → j < i + m → ∃ n sp hd y, DataW.trod enc P w 0 sp hd n e ((cs.drop (j * C)).take C) = some y) → i * C + τ.size = cs.length →
      ∃ d : τ.den, DRep w (fun _ => True) τ d (cs.drop (i * C)) ∧ Wf τ d
  | 0, i, τ, hf, _, hl => by
    cases τ <;> simp only [fitA] at hf <;> first | (cases hf; done) | skip
    refine ⟨(), ?_, trivial⟩
    simp only [DRep]
    simp only [Ty.size] at hl
    exact List.drop_eq_nil_of_le (by omega)
  | 1, i, τ, hf, h, hl => by
    simp only [fitA, Bool.and_eq_true] at hf
    obtain ⟨h2, h3⟩ := hf
    have h2 := Nat.eq_of_beq_eq_true h2
    obtain ⟨n, sp, hd, y, hy⟩ := h i (Nat.le_refl _) (by omega)
    rw [List.take_of_length_le (by rw [List.length_drop]; omega)] at hy
    exact hF h3 ⟨n, sp, hd, y, hy⟩
  | m + 2, i, τ, hf, h, hl => by
    cases τ with
    | prod a b =>
      simp only [fitA, Bool.and_eq_true] at hf
      obtain ⟨h2, h3, h4⟩ := hf
      have h2 := Nat.eq_of_beq_eq_true h2
      simp only [Ty.size] at hl
      obtain ⟨n, sp, hd, y, hy⟩ := h i (Nat.le_refl _) (by omega)
      obtain ⟨d1, k1, w1⟩ := hF h3 ⟨n, sp, hd, y, hy⟩
      have hs : (i + 1) * C = i * C + C := Nat.succ_mul _ _
      obtain ⟨d2, k2, w2⟩ := open_array hF (m + 1) (i + 1) b h4 (fun j hj hj' => h j (by omega) (by omega)) (by omega)
      refine ⟨(d1, d2), ?_, w1, w2⟩
      simp only [DRep]
      refine ⟨_, _, ?_, k1, k2⟩
      rw [hs, ← List.drop_drop, List.take_append_drop]
    | bool => simp [fitA] at hf
    | int k => simp [fitA] at hf
    | str => simp [fitA] at hf
    | unit => simp [fitA] at hf
    | slice e => simp [fitA] at hf

theorem open_row {ε : Ty} {a : Addr} {C : Nat} (hC : C = ε.size) : ∀ (len : Nat), (∀ i, i < len → ∃ cs' : List Value, cs'.length = C ∧ (∀ j, j < C → w.cell? ((a.add (i * C)).add j) = cs'[j]?) ∧ ∃ d : ε.den, DRep w (fun _ => True) ε d cs' ∧ Wf ε d) →
    ∃ (l : List ε.den) (xs : List Value), l.length = len ∧ xs.length = len * C ∧ DList (fun x u => DRep w (fun _ => True) ε x u) l xs ∧ (∀ j v, xs[j]? = some v → w.cell? (a.add j) = some v) ∧ ∀ x ∈ l, Wf ε x
  | 0, _ => ⟨[], [], rfl, by simp, rfl, by simp, by simp⟩
  | len + 1, h => by
    obtain ⟨l, xs, h1, h2, h3, h4, h5⟩ := open_row hC len fun i hi => h i (by omega)
    obtain ⟨cs', k1, k2, d, k3, k4⟩ := h len (by omega)
    refine ⟨l ++ [d], xs ++ cs', by simp [h1], by rw [List.length_append, h2, k1, Nat.succ_mul], DList.append h3 ⟨cs', [], by simp, k3, rfl⟩, fun j v hj => ?_, ?_⟩
    · rw [List.getElem?_append] at hj
      split at hj
      · exact h4 j v hj
      · rename_i hlt
        obtain ⟨hlt2, _⟩ := List.getElem?_eq_some_iff.1 hj
        have := k2 (j - xs.length) (by omega)
        rw [add_of_add, ← h2, show xs.length + (j - xs.length) = j by omega] at this
        rw [this, hj]
    · intro x hx
      rcases List.mem_append.1 hx with hx | hx
      · exact h5 x hx
      · simp only [List.mem_singleton] at hx
        subst hx
        exact k4

theorem open_ty : ∀ (n : Nat) {t : TypeId} {τ : Ty} {cs : List Value}, tyFits P n t τ = true → (∃ m sp hd y, DataW.trod enc P w 0 sp hd m t cs = some y) → ∃ d : τ.den, DRep w (fun _ => True) τ d cs ∧ Wf τ d
  | 0, _, _, _, h, _ => by simp [tyFits] at h
  | n + 1, t, τ, cs, hf, ⟨m, sp, hd, y, hy⟩ => by
    simp only [tyFits] at hf
    split at hf
    · rename_i hu
      cases τ <;> simp only at hf <;> first | (cases hf; done) | skip
      obtain ⟨b, rfl, -⟩ := DataW.trod_bool hu hy
      exact ⟨b, rfl, trivial⟩
    · rename_i k hu
      cases τ <;> simp only at hf <;> first | (cases hf; done) | skip
      obtain rfl := of_decide_eq_true hf
      obtain ⟨b, rfl, -, hw⟩ := DataW.trod_int hu hy
      exact ⟨b, rfl, hw⟩
    · rename_i hu
      cases τ <;> simp only at hf <;> first | (cases hf; done) | skip
      obtain ⟨s, rfl, -, hs⟩ := DataW.trod_string hu hy
      exact ⟨s.data.toList, by simp only [DRep], by show s.data.toList.length ≤ maxLen; rw [Array.length_toList]; exact hs⟩
    · rename_i e hu
      cases τ <;> simp only at hf <;> first | (cases hf; done) | skip
      rename_i ε
      simp only [Bool.and_eq_true] at hf
      obtain ⟨h1, h2⟩ := hf
      have h1 := Nat.eq_of_beq_eq_true h1
      rcases open_slice hu hy with ⟨rfl, -⟩ | ⟨a, len, cap, m', n', D, Pl, rfl, hb, hl, hm, hmm, -, hi⟩
      · refine ⟨[], ?_, Nat.zero_le _, by simp⟩
        simp only [DRep]
        exact ⟨none, 0, [], rfl, Nat.le_refl _, Nat.zero_le _, rfl, by simp⟩
      · obtain ⟨l, xs, k1, k2, k3, k4, k5⟩ := open_row (w := w) (ε := ε) (a := a) h1 len (fun i hil => by
          have him : i < m' := by rw [hmm]; split <;> omega
          obtain ⟨cs', c1, c2⟩ := hi i him
          obtain ⟨-, q1, q2⟩ := World.cells?_some c1
          exact ⟨cs', q1, q2, open_ty n h2 ⟨_, _, _, _, c2⟩⟩)
        refine ⟨l, ?_, ?_, k5⟩
        · simp only [DRep]
          exact ⟨some a, cap, xs, by rw [k1], by omega, hm, k3, fun j v hj => ⟨a, rfl, trivial, k4 j v hj⟩⟩
        · show l.length ≤ maxLen
          omega
    · rename_i fs hu
      simp only [Bool.and_eq_true] at hf
      obtain ⟨h1, h2⟩ := hf
      have h1 := Nat.eq_of_beq_eq_true h1
      obtain ⟨xs, m', -, -, hlen, hxs, hg⟩ := DataW.trod_struct hu hy
      have := open_fields (enc := enc) (P := P) (w := w) (cs := cs) (fun {t τ c} h1 h2 => open_ty n h1 h2) fs.toList 0 τ h2 (fun f hf => by
        obtain ⟨i, hi, rfl⟩ := List.getElem_of_mem hf
        have := hg i fs[i] (by simp at hi; simp [hi])
        simp at hi
        rw [List.getElem?_eq_getElem (by omega)] at this
        exact ⟨_, _, _, _, this⟩) (by omega)
      simpa using this
    · rename_i k e hu
      simp only [Bool.and_eq_true] at hf
      obtain ⟨h1, h2⟩ := hf
      have h1 := Nat.eq_of_beq_eq_true h1
      obtain ⟨xs, m', -, -, hlen, hxs, hg⟩ := DataW.trod_array hu hy
      have := open_array (enc := enc) (P := P) (w := w) (C := P.cellsOf e) (e := e) (cs := cs) (fun {τ c} h1 h2 => open_ty n h1 h2) k 0 τ h2 (fun j _ hj => by
        have := hg j (by omega)
        rw [List.getElem?_eq_getElem (by omega)] at this
        exact ⟨_, _, _, _, this⟩) (by omega)
      simpa using this
    · cases hf

/-! ### All arguments of a call -/
def isAgg (P : Program) (t : TypeId) : Bool :=
  match P.underlying t with
  | some (.struct _) => true
  | some (.array _ _) => true
  | _ => false

def fitP (P : Program) : List TypeId → List (Bool × List CT) → Bool
  | [], [] => true
  | t :: ts, (g, [.data τ]) :: ps => (g == isAgg P t) && (tyFits P 12 t τ && fitP P ts ps)
  | _, _ => false

def WfC : (l : List CT) → CT.dens l → Prop
  | [], _ => True
  | .data τ :: r, x => Wf τ x.1 ∧ WfC r x.2
  | .ptr _ _ :: r, x => WfC r x
  | .rowh _ :: r, x => WfC r x
  | .fn _ _ :: r, x => WfC r x
  | .maph _ :: r, x => WfC r x
  | .math _ :: r, x => WfC r x
  | .nilc :: r, x => WfC r x
  | .lsome _ :: r, x => WfC r x.2
  | .junk :: r, x => WfC r x

def WfS : (l : List (Bool × List CT)) → ST.dens l → Prop
  | [], _ => True
  | p :: r, x => WfC p.2 x.1 ∧ WfS r x.2

theorem cells_of_okWide {n base : Nat} {t : TypeId} {v : Value} (h : Value.okWide P w .any base t v) (hf : ∃ τ, tyFits P (n + 1) t τ = true) : if isAgg P t = true then v = .agg v.cells.toList.toArray else v.cells.toList = [v] := by
  obtain ⟨τ, hf⟩ := hf
  simp only [tyFits] at hf
  split at hf
  · rename_i hu
    rw [show isAgg P t = false by simp only [isAgg, hu]]
    simp only [Value.okWide, hu] at h
    cases v with
    | agg cs => simp only [Cell.okWide, Cell.ok, hu] at h
    | _ => rfl
  · rename_i k hu
    rw [show isAgg P t = false by simp only [isAgg, hu]]
    simp only [Value.okWide, hu] at h
    cases v with
    | agg cs => simp only [Cell.okWide, Cell.ok, hu] at h
    | _ => rfl
  · rename_i hu
    rw [show isAgg P t = false by simp only [isAgg, hu]]
    simp only [Value.okWide, hu] at h
    cases v with
    | agg cs => simp only [Cell.okWide, Cell.ok, hu] at h
    | _ => rfl
  · rename_i e hu
    rw [show isAgg P t = false by simp only [isAgg, hu]]
    simp only [Value.okWide, hu] at h
    cases v with
    | agg cs => simp only [Cell.okWide, Cell.ok, hu] at h
    | _ => rfl
  · rename_i fs hu
    rw [show isAgg P t = true by simp only [isAgg, hu]]
    simp only [Value.okWide, hu] at h
    obtain ⟨cs, rfl, -⟩ := h
    rfl
  · rename_i k e hu
    rw [show isAgg P t = true by simp only [isAgg, hu]]
    simp only [Value.okWide, hu] at h
    obtain ⟨cs, rfl, -⟩ := h
    rfl
  · cases hf

theorem open_all {base : Nat} : ∀ {ts : List TypeId} {ps : List (Bool × List CT)} {vs : List Value} {ds : List (DataW H)} {pl : List MemPlace}, fitP P ts ps = true → DataW.TrodAll enc P w 0 (fun _ => true) true ts vs ds pl →
    (∀ (j : Nat) t v, ts[j]? = some t → vs[j]? = some v → Value.okWide P w .any base t v) → ∃ x : ST.dens ps, TReps (env0 w) (mkS [] ps x) vs ∧ WfS ps x
  | [], [], vs, ds, pl, _, h, _ => by
    cases vs with
    | nil => exact ⟨(), rfl, trivial⟩
    | cons v vs => cases ds <;> simp [DataW.TrodAll] at h
  | [], _ :: _, _, _, _, hf, _, _ => by simp [fitP] at hf
  | _ :: _, [], _, _, _, hf, _, _ => by simp [fitP] at hf
  | t :: ts, (g, cts) :: ps, vs, ds, pl, hf, h, hok => by
    match cts, hf with
    | [.data τ], hf =>
      simp only [fitP, Bool.and_eq_true, beq_iff_eq] at hf
      obtain ⟨hg, h1, h2⟩ := hf
      obtain ⟨v, vs', d, ds', p, q, rfl, rfl, rfl, hd, hrest⟩ := trodAll_cons h
      obtain ⟨x2, r2, w2⟩ := open_all (base := base) h2 hrest fun j t v hj hv => hok (j + 1) t v (by simpa using hj) (by simpa using hv)
      obtain ⟨m, hm⟩ := hd
      obtain ⟨x1, r1, w1⟩ := open_ty (enc := enc) (P := P) (w := w) 12 h1 ⟨m, _, _, _, hm⟩
      have hv := cells_of_okWide (n := 11) (hok 0 t v rfl rfl) ⟨τ, h1⟩
      refine ⟨((x1, ()), x2), ⟨v, vs', rfl, ?_, r2⟩, ⟨w1, trivial⟩, w2⟩
      have hreps : CReps (env0 w) (cells τ x1 ++ []) v.cells.toList := by
        rw [List.append_nil]
        refine cells_rep ?_
        refine DRep.mono ?_ r1
        exact fun g hg hlt => ⟨⟨.inl trivial, fun ⟨i, B, p, hB, _⟩ => by cases hB⟩, rfl⟩
      refine ⟨v.cells.toList, hreps, ?_⟩
      rw [← hg] at hv
      exact hv
    | [], hf => simp [fitP] at hf
    | [.ptr _ _], hf => simp [fitP] at hf
    | [.rowh _], hf => simp [fitP] at hf
    | [.fn _ _], hf => simp [fitP] at hf
    | [.maph _], hf => simp [fitP] at hf
    | [.math _], hf => simp [fitP] at hf
    | [.nilc], hf => simp [fitP] at hf
    | [.lsome _], hf => simp [fitP] at hf
    | [.junk], hf => simp [fitP] at hf
    | .data _ :: _ :: _, hf => simp [fitP] at hf
    | .ptr _ _ :: _ :: _, hf => simp [fitP] at hf
    | .rowh _ :: _ :: _, hf => simp [fitP] at hf
    | .fn _ _ :: _ :: _, hf => simp [fitP] at hf
    | .maph _ :: _ :: _, hf => simp [fitP] at hf
    | .math _ :: _ :: _, hf => simp [fitP] at hf
    | .nilc :: _ :: _, hf => simp [fitP] at hf
    | .lsome _ :: _ :: _, hf => simp [fitP] at hf
    | .junk :: _ :: _, hf => simp [fitP] at hf

/-! ### A law's claim -/
theorem post_of_below {f : Func} {s : ChangeSpec} {apart fresh handsOn again : Bool} {W W' : World} {args : Array Value} {v : Value} {ds gs : List (DataW H)} {before pa pv : List MemPlace}
    (hW : DataW.Whole enc P f.params.toList s.vars apart W args.toList ds gs before)
    (hres : ∀ (b : Nat) (sp : Nat → Bool) (hd : Bool), DataW.TrodAll enc P W' b sp hd f.resultTypes.toList (v.resultList f.resultTypes.size) (s.fn H (ds ++ gs)).results [])
    (hargs : ∀ sp : Nat → Bool, (∀ p ∈ before, sp p.block = true) → DataW.TrodAll enc P W' 0 sp true f.params.toList args.toList (s.fn H (ds ++ gs)).args pa)
    (hvars : ∀ sp : Nat → Bool, (∀ p ∈ before, sp p.block = true) → DataW.TrodVars enc P W' sp s.vars (s.fn H (ds ++ gs)).vars pv)
    (hps : before = pa ++ pv) (hb : Below W.heap.size W W')
    (hok : ∀ (j : Nat) (t : TypeId) (r : Value), f.resultTypes[j]? = some t → (v.resultList f.resultTypes.size)[j]? = some r → Value.okWide P W' .any 0 t r) :
    s.post enc P f apart fresh handsOn again W args v W' := by
  have hlt : ∀ p ∈ before, p.block < W.heap.size := fun p hp => hW.lt p hp
  have hold : ∀ p ∈ before, (fun b => decide (b < W.heap.size)) p.block = true := fun p hp => by simpa using hlt p hp
  refine ⟨ds, gs, before, [], pa, pv, hW, hres _ _ _, hargs _ hold, hvars _ hold, World.keptBut_mono (fun p hp => ⟨hp, ?_⟩) (hb.frame (· ∈ before)), fun _ => ?_⟩
  · rw [hps, List.mem_append] at hp
    exact Or.inr hp
  · obtain ⟨_, _, _, _, _, hz, hn⟩ := hW
    refine ⟨hok, _, _, ([] ++ pa) ++ pv, ⟨[] ++ pa, pv, trodAll_append (hargs _ (fun _ _ => rfl)) (hres _ _ _), hvars _ (fun _ _ => rfl), rfl, ?_, ?_⟩, ?_⟩
    · intro b off hp
      have hin : MemPlace.cell b off ∈ before := by rw [hps]; simpa using hp
      rw [hb.frozen (hlt _ hin)]
      exact hz b off hin
    · intro ha
      have := hn ha
      rw [hps] at this
      simpa using this
    · intro p hp _
      rw [hps]
      simpa using hp

theorem trodAll_stays (hl : laidOutB P = true) {W W' : World} {sp : Nat → Bool} : ∀ {ts : List TypeId} {vs : List Value} {ds : List (DataW H)} {ps : List MemPlace}, (ts.all fun t => P.readableRec t && Nat.blt t P.types.size) = true →
    DataW.TrodAll enc P W 0 (fun _ => true) true ts vs ds ps → Below W.heap.size W W' → (∀ x ∈ ps, x.block < W.heap.size) → (∀ x ∈ ps, sp x.block = true) → DataW.TrodAll enc P W' 0 sp true ts vs ds ps
  | [], vs, ds, ps, _, h, _, _, _ => by cases vs <;> cases ds <;> simp_all [DataW.TrodAll]
  | t :: ts, vs, ds, ps, hr, h, hb, hlt, hsp => by
    obtain ⟨v, vs', d, ds', p, q, rfl, rfl, rfl, hd, hrest⟩ := trodAll_cons h
    simp only [List.all_cons, Bool.and_eq_true] at hr
    refine ⟨p, q, WideElems.Trod_stays hl hr.1.1 (Nat.blt_eq ▸ hr.1.2) hd (fun x hx => hb.same (hlt x (by simp [hx]))) (fun x hx => hsp x (by simp [hx])), ?_, rfl⟩
    exact trodAll_stays hl (by simpa using hr.2) hrest hb (fun x hx => hlt x (by simp [hx])) (fun x hx => hsp x (by simp [hx]))

/-- A law that answers true at all data: its contract. -/
theorem law_calls {f : FuncId} {fn : Func} {s : ChangeSpec} {S : Spec} {apart fresh handsOn again : Bool} {tb : TypeId} (hS : SpecOk P f S) (hi : S.ins = []) (_hr : S.res = [(false, [.data .bool])]) (ho : S.outs = [])
    (hfit : fitP P fn.params.toList S.params = true) (hl : laidOutB P = true) (hrd : (fn.params.toList.all fun t => P.readableRec t && Nat.blt t P.types.size) = true)
    (hrt : fn.resultTypes = #[tb]) (htb : P.underlying tb = some .bool) (hvars : s.vars = [])
    (hfn : ∀ ds : List (DataW H), ds.length = fn.params.size → (s.fn H (ds ++ [])).results = [.lit (.bool true)] ∧ (s.fn H (ds ++ [])).args = ds ∧ (s.fn H (ds ++ [])).vars = [])
    (hlaw : ∀ {β : Type} (x : ST.dens S.params) (y : BT.dens S.ins) (k : ST.dens S.res × BT.dens S.outs → Option β), WfS S.params x → ∃ z, mkS [] S.res z.1 = [(false, [.bool true])] ∧ S.run (x, y) k = k z)
    {W : World} {base : Nat} {args : Array Value} {ds gs : List (DataW H)} {before : List MemPlace}
    (hval : ∀ (j : Nat) t v, fn.params[j]? = some t → args[j]? = some v → Value.okWide P W .any base t v)
    (hW : DataW.Whole enc P fn.params.toList s.vars apart W args.toList ds gs before) :
    Calls P f args W fun e W' => ∃ v, e = .returned v ∧ s.post enc P fn apart fresh handsOn again W args v W' := by
  have hW' := hW
  obtain ⟨p, q, hA, hV, rfl, hfz, hnd⟩ := hW'
  rw [hvars] at hV
  obtain ⟨rfl, rfl⟩ : gs = [] ∧ q = [] := by
    cases gs with
    | nil => exact ⟨rfl, hV⟩
    | cons g gs => simp [DataW.TrodVars] at hV
  obtain ⟨x, hx, hwf⟩ := open_all (base := base) hfit hA (fun j t v hj hv => hval j t v (by simpa using hj) (by simpa using hv))
  have hy : BT.dens S.ins := by rw [hi]; exact ()
  obtain ⟨z, hz, hrun⟩ := hlaw x hy (fun z => some z) hwf
  have hc := hS.call0 hi (x, hy) z hrun W args.toList hx
  have hlen : ds.length = fn.params.size := by
    have : ∀ {ts : List TypeId} {vs : List Value} {ds : List (DataW H)} {ps : List MemPlace}, DataW.TrodAll enc P W 0 (fun _ => true) true ts vs ds ps → ds.length = ts.length := by
      intro ts
      induction ts with
      | nil => intro vs ds ps h; cases vs <;> cases ds <;> simp_all [DataW.TrodAll]
      | cons t ts ih =>
        intro vs ds ps h
        obtain ⟨v, vs', d, ds', p, q, rfl, rfl, rfl, hd, hrest⟩ := trodAll_cons h
        simp [ih hrest]
    simpa using this hA
  obtain ⟨f1, f2, f3⟩ := hfn ds hlen
  refine hc.mono fun e W' ⟨vals, pl', he, hb, ht⟩ => ?_
  have hids : upFrom 0 S.outs.length = [] := by rw [ho]; rfl
  rw [hids, hz] at ht
  obtain rfl := TReps.bool ht
  refine ⟨.bool true, he, post_of_below (pa := p) (pv := []) hW (fun b sp hd => ?_) (fun sp hsp => ?_) (fun sp hsp => ?_) rfl hb ?_⟩
  · rw [f1, hrt]
    exact trodAll_cons_mk (shut_bool htb _) trodAll_mk0
  · rw [f2]
    exact trodAll_stays hl hrd hA hb (fun x hx => hW.lt x (by simpa using hx)) (fun x hx => hsp x (by simpa using hx))
  · rw [f3, hvars]; rfl
  · exact ok_one hrt rfl (okWide_bool_mk htb _)
end

theorem wf_u8 {n : Int} (h : (Lit.int .u8 n).wf = true) : 0 ≤ n ∧ n ≤ 255 := by
  simp [Lit.wf, IntKind.min, IntKind.max, IntKind.signed, IntKind.bits] at h; omega
theorem wf_u16 {n : Int} (h : (Lit.int .u16 n).wf = true) : 0 ≤ n ∧ n ≤ 65535 := by
  simp [Lit.wf, IntKind.min, IntKind.max, IntKind.signed, IntKind.bits] at h; omega
theorem wf_u32 {n : Int} (h : (Lit.int .u32 n).wf = true) : 0 ≤ n ∧ n ≤ 4294967295 := by
  simp [Lit.wf, IntKind.min, IntKind.max, IntKind.signed, IntKind.bits] at h; omega
theorem wf_i64 {n : Int} (h : (Lit.int .i64 n).wf = true) : -9223372036854775808 ≤ n ∧ n ≤ 9223372036854775807 := by
  simp [Lit.wf, IntKind.min, IntKind.max, IntKind.signed, IntKind.bits] at h; omega
theorem wf_u64 {n : Int} (h : (Lit.int .u64 n).wf = true) : 0 ≤ n ∧ n ≤ 18446744073709551615 := by
  simp [Lit.wf, IntKind.min, IntKind.max, IntKind.signed, IntKind.bits] at h; omega
end Go.Lift
