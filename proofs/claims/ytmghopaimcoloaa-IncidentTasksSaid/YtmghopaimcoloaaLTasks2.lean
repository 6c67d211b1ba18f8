/- IncidentTasks in plain Lean: the loops and the law. -/
import Derived.Test.YtmghopaimcoloaaFn0
import Derived.Test.YtmghopaimcoloaaLBase
import Derived.Test.YtmghopaimcoloaaLDice
import Derived.Test.YtmghopaimcoloaaLTasks
namespace Go.Lift
open Go.RowKit Go.IntWalk
noncomputable section
set_option linter.unusedVariables false
set_option linter.unusedSimpArgs false
set_option maxRecDepth 10000

/-! ### The map -/
theorem mHas_put (l : List (Int × Int)) (k v j : Int) : mHas (.int .i64) (mPut (.int .i64) l k v) j = (decide (k = j) || mHas (.int .i64) l j) := by
  induction l with
  | nil => simp [mPut, mHas, keyEq]
  | cons y l ih =>
    by_cases h : y.1 = k
    · subst h
      by_cases hj : y.1 = j <;> simp [mPut, mHas, keyEq, hj]
    · by_cases hj : y.1 = j
      · subst hj
        simp [mPut, mHas, keyEq, h]
      · simp [mPut, mHas, keyEq, h, hj, ih]

theorem mGet_put (l : List (Int × Int)) (k v j z : Int) : mGet (.int .i64) (mPut (.int .i64) l k v) j z = if k = j then v else mGet (.int .i64) l j z := by
  induction l with
  | nil => by_cases hj : k = j <;> simp [mPut, mGet, keyEq, hj]
  | cons y l ih =>
    by_cases h : y.1 = k
    · subst h
      by_cases hj : y.1 = j <;> simp [mPut, mGet, keyEq, hj]
    · by_cases hj : y.1 = j
      · have : k ≠ j := fun e => h (hj.trans e.symm)
        subst hj
        simp [mPut, mGet, keyEq, h, this]
      · simp [mPut, mGet, keyEq, h, hj, ih]

abbrev td : api_Task := ([], (0, (0, 0)))

structure MapOk (ts : List api_Task) (done : List (Int × Int)) : Prop where
  has : ∀ j : Int, mHas (.int .i64) done j = true ↔ (0 ≤ j ∧ j < ts.length ∧ (ts.getD j.toNat td).2.2.2 ≠ -1)
  get : ∀ j : Int, mHas (.int .i64) done j = true → mGet (.int .i64) done j 0 = (ts.getD j.toNat td).2.2.2

/-! ### One round -/
section
variable {β : Type} {c1 : T_incident_Add} {c2 : T_incident_Finish} {c3 : T_made_Dice_Next} {rec : Int → Int → (List Int) → Int → Int → Int → Int → Int → (List UInt8) → Int → Int → Int → (List Int) → (List api_Task) → (List api_Update) → (List Int) → (List (Int × (Int × Int))) → Int → (List (Int × Int)) → Option β}
  {k1 : law37_IncidentTasks_p1_K1 β} {k2 : law37_IncidentTasks_p1_K2 β} {n i d2 : Int} {d : List Int} {ts : List api_Task} {done : List (Int × Int)} {r1 r3 : Int} {m1 m2 m3 : List Int × Int}

theorem round_add (hi : 0 ≤ i ∧ i < 14) (hn : n = ts.length) (hl : ts.length < 16) (b1 : 0 ≤ r1 ∧ r1 < 300) (b3 : 0 ≤ r3 ∧ r3 < 5)
    (h1 : ∀ k, (c3 300 (d, d2) k : Option β) = k r1 m1) (h2 : ∀ k, (c3 2 m1 k : Option β) = k 0 m2) (h3 : ∀ k, (c3 5 m2 k : Option β) = k r3 m3)
    (h4 : ∀ k, (c1 (inc ts) (864000 + r1) (r3 - 1) chk k : Option β) = k (inc (ts ++ [(chk, (r3 - 1, (864000 + r1, -1)))])) 0) :
    law37_IncidentTasks_p1_s c1 c2 c3 rec k1 k2 n i d d2 3 0 1 864000 dsk (-1) (-1) (-1) [5] ts [] [] [] 0 done =
      rec (n + 1) (i + 1) m3.1 m3.2 3 0 1 864000 dsk (-1) (-1) (-1) [5] (ts ++ [(chk, (r3 - 1, (864000 + r1, -1)))]) [] [] [] 0 done := by
  have hlast : (ts ++ [((chk, (r3 - 1, (864000 + r1, -1))) : api_Task)]).getD (n + 1 - 1).toNat td = (chk, (r3 - 1, (864000 + r1, -1))) := by
    have : (n + 1 - 1).toNat = ts.length := by omega
    rw [this]
    simp [List.getD]
  have hlen : ((ts ++ [((chk, (r3 - 1, (864000 + r1, -1))) : api_Task)]).length : Int) = n + 1 := by simp; omega
  have e1 : IntKind.i64.wrap (864000 + r1) = 864000 + r1 := i64_in _ (by omega)
  have e2 : IntKind.i64.wrap (r3 - 1) = r3 - 1 := i64_in _ (by omega)
  have e3 : IntKind.i64.wrap (n + 1) = n + 1 := i64_in _ (by omega)
  have e4 : IntKind.i64.wrap (n + 1 - 1) = n + 1 - 1 := i64_in _ (by omega)
  have e5 : IntKind.i64.wrap (i + 1) = i + 1 := i64_in _ (by omega)
  unfold law37_IncidentTasks_p1_s
  refine (c_pos (by omega)).trans ?_
  refine (h1 _).trans ?_
  refine (h2 _).trans ?_
  refine (c_pos (p := (0 : Int) = 0) rfl).trans ?_
  refine (h3 _).trans ?_
  simp only [e1, e2]
  refine (h4 _).trans ?_
  refine (c_npos (p := (0 : Int) = 0) rfl).trans ?_
  simp only [e3, e4]
  refine (c_npos hlen).trans ?_
  refine (c_inb (by rw [hlen]; omega)).trans ?_
  refine (c_npos (by rw [hlast])).trans ?_
  refine (c_inb (by rw [hlen]; omega)).trans ?_
  refine (c_npos (by rw [hlast])).trans ?_
  simp only [e5]

theorem round_none (hi : 0 ≤ i ∧ i < 14) (hn : n = ts.length) (hl : ts.length ≤ 16) (b1 : 0 ≤ r1 ∧ r1 < 300) {r2 : Int} (b2 : r2 ≠ 0) {x : api_Incident} (hb : n ≤ r3)
    (h1 : ∀ k, (c3 300 (d, d2) k : Option β) = k r1 m1) (h2 : ∀ k, (c3 2 m1 k : Option β) = k r2 m2) (h3 : ∀ k, (c3 (n + 1) m2 k : Option β) = k r3 m3)
    (h4 : ∀ k, (c2 (inc ts) r3 (864000 + r1) k : Option β) = k x 3) :
    law37_IncidentTasks_p1_s c1 c2 c3 rec k1 k2 n i d d2 3 0 1 864000 dsk (-1) (-1) (-1) [5] ts [] [] [] 0 done =
      rec n (i + 1) m3.1 m3.2 3 0 1 864000 dsk (-1) (-1) (-1) [5] ts [] [] [] 0 done := by
  have e1 : IntKind.i64.wrap (864000 + r1) = 864000 + r1 := i64_in _ (by omega)
  have e3 : IntKind.i64.wrap (n + 1) = n + 1 := i64_in _ (by omega)
  have e5 : IntKind.i64.wrap (i + 1) = i + 1 := i64_in _ (by omega)
  unfold law37_IncidentTasks_p1_s
  simp only [e1, e3, e5]
  refine (c_pos (by omega)).trans ?_
  refine (h1 _).trans ?_
  simp only [e1]
  refine (h2 _).trans ?_
  refine (c_neg b2).trans ?_
  refine (h3 _).trans ?_
  refine (h4 _).trans ?_
  refine (c_pos hb).trans ?_
  exact c_npos rfl

theorem round_twice (hi : 0 ≤ i ∧ i < 14) (hn : n = ts.length) (hl : ts.length ≤ 16) (b1 : 0 ≤ r1 ∧ r1 < 300) {r2 : Int} (b2 : r2 ≠ 0) {x : api_Incident} (hb : r3 < n) (hh : mHas (.int .i64) done r3 = true)
    (h1 : ∀ k, (c3 300 (d, d2) k : Option β) = k r1 m1) (h2 : ∀ k, (c3 2 m1 k : Option β) = k r2 m2) (h3 : ∀ k, (c3 (n + 1) m2 k : Option β) = k r3 m3)
    (h4 : ∀ k, (c2 (inc ts) r3 (864000 + r1) k : Option β) = k x 9) :
    law37_IncidentTasks_p1_s c1 c2 c3 rec k1 k2 n i d d2 3 0 1 864000 dsk (-1) (-1) (-1) [5] ts [] [] [] 0 done =
      rec n (i + 1) m3.1 m3.2 3 0 1 864000 dsk (-1) (-1) (-1) [5] ts [] [] [] 0 done := by
  have e1 : IntKind.i64.wrap (864000 + r1) = 864000 + r1 := i64_in _ (by omega)
  have e3 : IntKind.i64.wrap (n + 1) = n + 1 := i64_in _ (by omega)
  have e5 : IntKind.i64.wrap (i + 1) = i + 1 := i64_in _ (by omega)
  unfold law37_IncidentTasks_p1_s
  simp only [e1, e3, e5]
  refine (c_pos (by omega)).trans ?_
  refine (h1 _).trans ?_
  simp only [e1]
  refine (h2 _).trans ?_
  refine (c_neg b2).trans ?_
  refine (h3 _).trans ?_
  refine (h4 _).trans ?_
  refine (c_neg (by omega)).trans ?_
  simp only [hh, c_t]
  exact c_npos trivial

theorem round_early (hi : 0 ≤ i ∧ i < 14) (hn : n = ts.length) (hl : ts.length ≤ 16) (b1 : 0 ≤ r1 ∧ r1 < 300) {r2 : Int} (b2 : r2 ≠ 0) {x : api_Incident} (hb : 0 ≤ r3 ∧ r3 < n) (hh : mHas (.int .i64) done r3 = false)
    (ht : 864000 + r1 < (ts.getD r3.toNat td).2.2.1)
    (h1 : ∀ k, (c3 300 (d, d2) k : Option β) = k r1 m1) (h2 : ∀ k, (c3 2 m1 k : Option β) = k r2 m2) (h3 : ∀ k, (c3 (n + 1) m2 k : Option β) = k r3 m3)
    (h4 : ∀ k, (c2 (inc ts) r3 (864000 + r1) k : Option β) = k x 1) :
    law37_IncidentTasks_p1_s c1 c2 c3 rec k1 k2 n i d d2 3 0 1 864000 dsk (-1) (-1) (-1) [5] ts [] [] [] 0 done =
      rec n (i + 1) m3.1 m3.2 3 0 1 864000 dsk (-1) (-1) (-1) [5] ts [] [] [] 0 done := by
  have e1 : IntKind.i64.wrap (864000 + r1) = 864000 + r1 := i64_in _ (by omega)
  have e3 : IntKind.i64.wrap (n + 1) = n + 1 := i64_in _ (by omega)
  have e5 : IntKind.i64.wrap (i + 1) = i + 1 := i64_in _ (by omega)
  unfold law37_IncidentTasks_p1_s
  simp only [e1, e3, e5]
  refine (c_pos (by omega)).trans ?_
  refine (h1 _).trans ?_
  simp only [e1]
  refine (h2 _).trans ?_
  refine (c_neg b2).trans ?_
  refine (h3 _).trans ?_
  refine (h4 _).trans ?_
  refine (c_neg (by omega)).trans ?_
  simp only [hh, c_f]
  refine (c_inb (by omega)).trans ?_
  refine (c_pos ht).trans ?_
  exact c_npos trivial

theorem round_done (hi : 0 ≤ i ∧ i < 14) (hn : n = ts.length) (hl : ts.length ≤ 16) (b1 : 0 ≤ r1 ∧ r1 < 300) {r2 : Int} (b2 : r2 ≠ 0) {ts' : List api_Task} (hb : 0 ≤ r3 ∧ r3 < n) (hh : mHas (.int .i64) done r3 = false)
    (ht : ¬ 864000 + r1 < (ts.getD r3.toNat td).2.2.1)
    (h1 : ∀ k, (c3 300 (d, d2) k : Option β) = k r1 m1) (h2 : ∀ k, (c3 2 m1 k : Option β) = k r2 m2) (h3 : ∀ k, (c3 (n + 1) m2 k : Option β) = k r3 m3)
    (h4 : ∀ k, (c2 (inc ts) r3 (864000 + r1) k : Option β) = k (inc ts') 0) :
    law37_IncidentTasks_p1_s c1 c2 c3 rec k1 k2 n i d d2 3 0 1 864000 dsk (-1) (-1) (-1) [5] ts [] [] [] 0 done =
      rec n (i + 1) m3.1 m3.2 3 0 1 864000 dsk (-1) (-1) (-1) [5] ts' [] [] [] 0 (mPut (.int .i64) done r3 (864000 + r1)) := by
  have e1 : IntKind.i64.wrap (864000 + r1) = 864000 + r1 := i64_in _ (by omega)
  have e3 : IntKind.i64.wrap (n + 1) = n + 1 := i64_in _ (by omega)
  have e5 : IntKind.i64.wrap (i + 1) = i + 1 := i64_in _ (by omega)
  unfold law37_IncidentTasks_p1_s
  simp only [e1, e3, e5]
  refine (c_pos (by omega)).trans ?_
  refine (h1 _).trans ?_
  simp only [e1]
  refine (h2 _).trans ?_
  refine (c_neg b2).trans ?_
  refine (h3 _).trans ?_
  refine (h4 _).trans ?_
  refine (c_neg (by omega)).trans ?_
  simp only [hh, c_f]
  refine (c_inb (by omega)).trans ?_
  refine (c_neg ht).trans ?_
  exact c_npos trivial
end

/-! ### All rounds -/
abbrev TSt := Int × (List Int × Int) × List api_Task × List (Int × Int)
structure TInv (i : Nat) (s : TSt) : Prop where
  n : s.1 = s.2.2.1.length
  le : s.2.2.1.length ≤ i
  dice : DiceOk s.2.1
  ok : ∀ t ∈ s.2.2.1, TaskOk t
  map : MapOk s.2.2.1 s.2.2.2

theorem getD_app {ts : List api_Task} {t d : api_Task} {j : Nat} (h : j < ts.length) : (ts ++ [t]).getD j d = ts.getD j d := by
  simp [List.getD, List.getElem?_append_left h]

theorem map_add {ts : List api_Task} {done : List (Int × Int)} (h : MapOk ts done) {t : api_Task} (ht : t.2.2.2 = -1) : MapOk (ts ++ [t]) done := by
  refine ⟨fun j => ?_, fun j hj => ?_⟩
  · rw [h.has j]
    simp only [List.length_append, List.length_cons, List.length_nil]
    constructor
    · rintro ⟨h1, h2, h3⟩
      rw [getD_app (by omega)]
      exact ⟨h1, by omega, h3⟩
    · rintro ⟨h1, h2, h3⟩
      by_cases he : j = ts.length
      · subst he
        exfalso
        apply h3
        simp [List.getD, ht]
      · rw [getD_app (by omega)] at h3
        exact ⟨h1, by omega, h3⟩
  · have h1 := (h.has j).1 hj
    rw [getD_app (by omega)]
    exact h.get j hj

theorem setDone_getD {ts : List api_Task} {j i : Nat} {a : Int} (hj : j < ts.length) : ((setDone ts j a).getD i td) = if j = i then ((ts.getD j td).1, ((ts.getD j td).2.1, ((ts.getD j td).2.2.1, a))) else ts.getD i td := by
  unfold setDone
  by_cases h : j = i
  · subst h
    simp [List.getD, hj]
  · simp [List.getD, List.getElem?_set_ne h, h]

theorem map_done {ts : List api_Task} {done : List (Int × Int)} (h : MapOk ts done) {j a : Int} (hj : 0 ≤ j ∧ j < ts.length) (ha : a ≠ -1) : MapOk (setDone ts j.toNat a) (mPut (.int .i64) done j a) := by
  have hlen : (setDone ts j.toNat a).length = ts.length := by simp [setDone]
  have hjn : j.toNat < ts.length := by omega
  refine ⟨fun i => ?_, fun i hi => ?_⟩
  · rw [mHas_put, hlen, setDone_getD hjn]
    by_cases he : j = i
    · subst he
      simp only [decide_true, Bool.true_or, if_true, true_iff]
      exact ⟨hj.1, hj.2, ha⟩
    · rw [decide_eq_false he, Bool.false_or, h.has i]
      constructor
      · rintro ⟨h1, h2, h3⟩
        rw [if_neg (by omega)]
        exact ⟨h1, h2, h3⟩
      · rintro ⟨h1, h2, h3⟩
        rw [if_neg (by omega)] at h3
        exact ⟨h1, h2, h3⟩
  · rw [mGet_put, setDone_getD hjn]
    rw [mHas_put] at hi
    by_cases he : j = i
    · subst he
      simp
    · rw [decide_eq_false he, Bool.false_or] at hi
      have h1 := (h.has i).1 hi
      rw [if_neg he, if_neg (by omega)]
      exact h.get i hi

theorem setDone_ok {ts : List api_Task} (h : ∀ t ∈ ts, TaskOk t) {j : Nat} {a : Int} (hj : j < ts.length) (ha : ¬ a < (ts.getD j td).2.2.1) (hb : a < 864300) : ∀ t ∈ setDone ts j a, TaskOk t := by
  intro t ht
  have h0 := getD_ok h hj td
  rcases List.mem_or_eq_of_mem_set ht with h1 | h1
  · exact h t h1
  · subst h1
    exact ⟨h0.1, h0.2.1, h0.2.2.1, .inr ⟨by show (ts.getD j td).2.2.1 ≤ a; omega, hb⟩⟩

abbrev TF {β : Type} (K : law37_IncidentTasks_p1_K1 β × law37_IncidentTasks_p1_K2 β) (m : Nat) (i : Int) (s : TSt) : Option β :=
  law37_IncidentTasks_p1_n m K.1 K.2 s.1 i s.2.1.1 s.2.1.2 3 0 1 864000 dsk (-1) (-1) (-1) [5] s.2.2.1 [] [] [] 0 s.2.2.2

theorem rounds (s : TSt) (h0 : TInv 0 s) : ∃ r : TSt, TInv 14 r ∧ ∀ {β : Type} (K : law37_IncidentTasks_p1_K1 β × law37_IncidentTasks_p1_K2 β), TF K fuel 0 s = K.2 r.1 3 0 1 864000 dsk (-1) (-1) (-1) [5] r.2.2.1 [] [] [] 0 r.2.2.2 := by
  refine count_loop (Kt := fun β => law37_IncidentTasks_p1_K1 β × law37_IncidentTasks_p1_K2 β) (fun {β} K m i s => TF K m i s)
    (fun {β} K r => K.2 r.1 3 0 1 864000 dsk (-1) (-1) (-1) [5] r.2.2.1 [] [] [] 0 r.2.2.2) 14 TInv (TInv 14) ?_ ?_ fuel (lt_fuel (by omega)) s h0
  · rintro i ⟨n, d, ts, done⟩ hi ⟨hn, hle, hd, hok, hm⟩
    simp only at hn hle hd hok hm
    obtain ⟨r1, m1, g1, g2, hd1, f1⟩ := next_ok (n := 300) hd (by omega)
    obtain ⟨r2, m2, g3, g4, hd2, f2⟩ := next_ok (n := 2) hd1 (by omega)
    left
    by_cases h2 : r2 = 0
    · subst h2
      obtain ⟨r3, m3, g5, g6, hd3, f3⟩ := next_ok (n := 5) hd2 (by omega)
      refine ⟨(n + 1, m3, ts ++ [(chk, (r3 - 1, (864000 + r1, -1)))], done), ⟨?_, ?_, hd3, ?_, map_add hm rfl⟩, fun {β} K m => ?_⟩
      · simp; omega
      · simp; omega
      · intro t ht
        rcases List.mem_append.1 ht with h | h
        · exact hok t h
        · simp only [List.mem_cons, List.not_mem_nil, or_false] at h
          subst h
          exact ⟨rfl, ⟨by show (-1 : Int) ≤ r3 - 1; omega, by show r3 - 1 ≤ 3; omega⟩, ⟨by show (864000 : Int) ≤ 864000 + r1; omega, by show 864000 + r1 < 864300; omega⟩, .inl rfl⟩
      · refine (law37_IncidentTasks_p1_step ..).trans ?_
        exact round_add (n := n) (ts := ts) (by omega) hn (by omega) (by omega) (by omega) (fun k => f1 k) (fun k => f2 k) (fun k => f3 k) (fun k => add_t hok (by omega) (by omega) (by omega) k)
    · obtain ⟨r3, m3, g5, g6, hd3, f3⟩ := next_ok (n := n + 1) hd2 (by omega)
      by_cases hb : n ≤ r3
      · refine ⟨(n, m3, ts, done), ⟨hn, by show ts.length ≤ i + 1; omega, hd3, hok, hm⟩, fun {β} K m => ?_⟩
        refine (law37_IncidentTasks_p1_step ..).trans ?_
        exact round_none (n := n) (ts := ts) (by omega) hn (by omega) (by omega) h2 hb (fun k => f1 k) (fun k => f2 k) (fun k => f3 k) (fun k => finish_none hok (by omega) (by omega) (by omega) k)
      · have hr3 : r3.toNat < ts.length := by omega
        cases hh : mHas (.int .i64) done r3 with
        | true =>
          have h3 := (hm.has r3).1 hh
          refine ⟨(n, m3, ts, done), ⟨hn, by show ts.length ≤ i + 1; omega, hd3, hok, hm⟩, fun {β} K m => ?_⟩
          refine (law37_IncidentTasks_p1_step ..).trans ?_
          exact round_twice (n := n) (ts := ts) (by omega) hn (by omega) (by omega) h2 (by omega) hh (fun k => f1 k) (fun k => f2 k) (fun k => f3 k) (fun k => finish_twice hok (by omega) (by omega) (by omega) h3.2.2 k)
        | false =>
          have h3 : (ts.getD r3.toNat td).2.2.2 = -1 := by
            refine Classical.byContradiction fun hne => ?_
            have := (hm.has r3).2 ⟨g5, by omega, hne⟩
            rw [hh] at this
            cases this
          by_cases ht : 864000 + r1 < (ts.getD r3.toNat td).2.2.1
          · refine ⟨(n, m3, ts, done), ⟨hn, by show ts.length ≤ i + 1; omega, hd3, hok, hm⟩, fun {β} K m => ?_⟩
            refine (law37_IncidentTasks_p1_step ..).trans ?_
            exact round_early (n := n) (ts := ts) (by omega) hn (by omega) (by omega) h2 (by omega) hh ht (fun k => f1 k) (fun k => f2 k) (fun k => f3 k) (fun k => finish_early hok (by omega) (by omega) (by omega) h3 ht k)
          · refine ⟨(n, m3, setDone ts r3.toNat (864000 + r1), mPut (.int .i64) done r3 (864000 + r1)), ⟨?_, ?_, hd3, setDone_ok hok hr3 ht (by omega), map_done hm (by omega) (by omega)⟩, fun {β} K m => ?_⟩
            · simp only [setDone, List.length_set]; exact hn
            · simp only [setDone, List.length_set]; omega
            · refine (law37_IncidentTasks_p1_step ..).trans ?_
              exact round_done (n := n) (ts := ts) (by omega) hn (by omega) (by omega) h2 (by omega) hh ht (fun k => f1 k) (fun k => f2 k) (fun k => f3 k) (fun k => finish_t hok (by omega) (by omega) (by omega) h3 ht k)
  · rintro ⟨n, d, ts, done⟩ h
    refine ⟨(n, d, ts, done), h, fun {β} K m => ?_⟩
    refine (law37_IncidentTasks_p1_step ..).trans ?_
    unfold law37_IncidentTasks_p1_s
    exact c_neg (by omega)

/-- The last look. -/
theorem marks {ts : List api_Task} {done : List (Int × Int)} (hm : MapOk ts done) (hl : ts.length ≤ 16) {β : Type} (k1 : law37_IncidentTasks_p2_K1 β) (k2 : law37_IncidentTasks_p2_K2 β) {x x2 x3 x4 x5 x6 x7 x8 x9 x10 x11 x12 x13 x14} :
    law37_IncidentTasks_p2 k1 k2 ts (ts.length : Int) 0 x x2 x3 x4 x5 x6 x7 x8 x9 x10 x11 x12 x13 x14 done = k2 x x2 x3 x4 x5 x6 x7 x8 x9 x10 x11 x12 x13 x14 := by
  refine fold_loop (σ := Unit) (fun m i _ => law37_IncidentTasks_p2_n m k1 k2 ts (ts.length : Int) i x x2 x3 x4 x5 x6 x7 x8 x9 x10 x11 x12 x13 x14 done)
    (fun _ _ => ()) (fun _ => k2 x x2 x3 x4 x5 x6 x7 x8 x9 x10 x11 x12 x13 x14) td ts () fuel (lt_fuel (by omega)) (fun m i s hi => ?_) (fun m s => ?_)
  · have h1 := hm.has i
    have h2 := hm.get i
    have e5 : IntKind.i64.wrap ((i : Int) + 1) = i + 1 := i64_in _ (by omega)
    simp only [Int.toNat_natCast] at h1 h2
    simp only [law37_IncidentTasks_p2_step, law37_IncidentTasks_p2_s, e5]
    refine (c_pos (by omega)).trans ?_
    refine (c_inb (by omega)).trans ?_
    simp only [Int.toNat_natCast]
    cases hh : mHas (.int .i64) done (i : Int) with
    | true =>
      simp only [c_t, Bool.not_true, c_f]
      exact c_npos (h2 hh).symm
    | false =>
      have h3 : (ts.getD i td).2.2.2 = -1 := by
        refine Classical.byContradiction fun hne => ?_
        have := h1.2 ⟨by omega, by omega, hne⟩
        rw [hh] at this
        cases this
      simp only [c_f, Bool.not_false, c_t]
      exact c_npos h3
  · simp only [law37_IncidentTasks_p2_step, law37_IncidentTasks_p2_s]
    rw [c_neg (by omega)]

theorem tasks_gen {β : Type} {c1 : T_incident_Open} {c2 : T_law37_sane} {c3 : T_made_Light} {c4 : T_made_Roll} {c5 : T_ref37_Check} {p1 : law37_IncidentTasks_p1_T} {p2 : law37_IncidentTasks_p2_T} {t : List Int} {k : Bool → Option β} {n : Int} {ts : List api_Task} {done : List (Int × Int)}
    (h1 : ∀ k, (c3 t k : Option β) = k true) (h2 : ∀ k, (c4 t k : Option β) = k (t, 0)) (h3 : ∀ k, (c1 3 864000 1 dsk 5 k : Option β) = k (inc []) 0)
    (h4 : ∀ k1 k2, (p1 k1 k2 0 0 t 0 3 0 1 864000 dsk (-1) (-1) (-1) [5] [] [] [] [] 0 [] : Option β) = k2 n 3 0 1 864000 dsk (-1) (-1) (-1) [5] ts [] [] [] 0 done) (hn : n = ts.length)
    (h5 : ∀ k1 k2, (p2 k1 k2 ts (ts.length : Int) 0 3 0 1 864000 dsk (-1) (-1) (-1) [5] ts [] [] [] 0 done : Option β) = k2 3 0 1 864000 dsk (-1) (-1) (-1) [5] ts [] [] [] 0)
    (h6 : ∀ k, (c5 (inc ts) k : Option β) = k true) (h7 : ∀ k, (c2 k : Option β) = k true) : law37_IncidentTasks_s c1 c2 c3 c4 c5 p1 p2 t k = k true := by
  unfold law37_IncidentTasks_s
  refine (h1 _).trans ?_
  refine (h2 _).trans ?_
  refine (h3 _).trans ?_
  refine (h4 _ _).trans ?_
  refine (c_npos hn.symm).trans ?_
  refine (h5 _ _).trans ?_
  refine (h6 _).trans ?_
  exact h7 _

theorem tasks_heavy {β : Type} {c1 : T_incident_Open} {c2 : T_law37_sane} {c3 : T_made_Light} {c4 : T_made_Roll} {c5 : T_ref37_Check} {p1 : law37_IncidentTasks_p1_T} {p2 : law37_IncidentTasks_p2_T} {t : List Int} {k : Bool → Option β}
    (h1 : ∀ k, (c3 t k : Option β) = k false) (h7 : ∀ k, (c2 k : Option β) = k true) : law37_IncidentTasks_s c1 c2 c3 c4 c5 p1 p2 t k = k true := by
  unfold law37_IncidentTasks_s
  exact (h1 _).trans (h7 _)

theorem incidentTasks {β : Type} (t : List Int) (k : Bool → Option β) : law37_IncidentTasks t k = k true := by
  unfold law37_IncidentTasks
  by_cases hl : (t.length : Int) ≤ 500
  · obtain ⟨⟨n, d, ts, done⟩, ⟨hn, hle, hd, hok, hm⟩, hr⟩ := rounds (0, (t, 0), [], []) ⟨rfl, Nat.le_refl _, roll_ok hl, by simp, ⟨fun j => ⟨fun h => by simp [mHas] at h, fun ⟨h1, h2, _⟩ => by simp at h2; omega⟩, fun j h => by simp [mHas] at h⟩⟩
    simp only at hn hle hok hm
    have h4 : ∀ (k1 : law37_IncidentTasks_p1_K1 β) (k2 : law37_IncidentTasks_p1_K2 β), law37_IncidentTasks_p1 k1 k2 0 0 t 0 3 0 1 864000 dsk (-1) (-1) (-1) [5] [] [] [] [] 0 [] = k2 n 3 0 1 864000 dsk (-1) (-1) (-1) [5] ts [] [] [] 0 done := by
      intro k1 k2
      have := hr (k1, k2)
      unfold TF at this
      unfold law37_IncidentTasks_p1
      exact this
    have h1 : ∀ k : Bool → Option β, made_Light t k = k true := fun k => (light_eq t k).trans (by rw [decide_eq_true hl])
    exact tasks_gen (c1 := @incident_Open) (c2 := @law37_sane) (c3 := @made_Light) (c4 := @made_Roll) (c5 := @ref37_Check) (p1 := @law37_IncidentTasks_p1) (p2 := @law37_IncidentTasks_p2) h1 (fun k => roll_eq t k) (fun k => open_t) h4 hn (fun k1 k2 => marks hm (by omega) k1 k2) (fun k => rcheck_t hok (by omega) k) (fun k => sane37 k)
  · exact tasks_heavy (c3 := @made_Light) (c2 := @law37_sane) (fun k => (light_eq t k).trans (by rw [decide_eq_false hl])) (fun k => sane37 k)
end
end Go.Lift
