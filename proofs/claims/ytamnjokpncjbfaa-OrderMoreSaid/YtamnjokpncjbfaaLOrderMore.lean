/- OrderMore in plain Lean. -/
import Derived.Test.YtamnjokpncjbfaaFn2
import Derived.Test.YtamnjokpncjbfaaLOrder5
namespace Go.Lift
open Go.RowKit Go.IntWalk
noncomputable section
set_option linter.unusedVariables false
set_option linter.unusedSimpArgs false
set_option maxRecDepth 10000

theorem whenR_more (hosts : List Host) (syncs : List Sync) (s : Sync) (e : List Event) (l l' : List Link) (h c : Int) :
    (whenR (hosts, syncs, e, l) h c).1 ≤ (whenR (hosts, syncs ++ [s], e, l') h c).1 ∧ (whenR (hosts, syncs ++ [s], e, l') h c).2 ≤ (whenR (hosts, syncs, e, l) h c).2 := by
  unfold whenR
  simp only [List.foldl_append, List.foldl_cons, List.foldl_nil]
  cases decide (s.1 = h) with
  | false => exact ⟨Int.le_refl _, Int.le_refl _⟩
  | true =>
    simp only [cond_true]
    rw [meet2_eq]
    simp only
    omega

/-- Whoever fits more fits less. -/
theorem sol_more {r : Rec} (hv : valid r = true) {s : Sync} {ls : List Link} (hv' : valid (r.1, r.2.1 ++ [s], r.2.2.1, r.2.2.2 ++ ls) = true) {x : Nat → Int} (h : SolR (r.1, r.2.1 ++ [s], r.2.2.1, r.2.2.2 ++ ls) x) : SolR r x := by
  refine ⟨fun i hi => ?_, h.pair, fun y hy => h.link y (List.mem_append_left _ hy)⟩
  have h1 := h.ev i hi
  rw [whenAt_eq hv' hi] at h1
  rw [whenAt_eq hv hi]
  have h2 := whenR_more r.1 r.2.1 s r.2.2.1 r.2.2.2 (r.2.2.2 ++ ls) (evAt r i).1 (evAt r i).2.1
  have e : evAt (r.1, r.2.1 ++ [s], r.2.2.1, r.2.2.2 ++ ls) i = evAt r i := rfl
  rw [e] at h1
  have e2 : (r.1, r.2.1, r.2.2.1, r.2.2.2) = r := rfl
  rw [e2] at h2
  simp only at h1 ⊢
  omega

theorem ClosedR.mono {r r' : Rec} {m m' : Mat} (h : ClosedR r m) (h' : ClosedR r' m') (hn : nE r' = nE r) (hs : ∀ x, SolR r' x → SolR r x) {i j : Nat} (hi : i < nE r + 1) (hj : j < nE r + 1) : at2 m' i j ≤ at2 m i j := by
  rw [h'.le_iff (by omega) (by omega)]
  intro x s
  exact h.sol (hs x s) hi hj

theorem ClosedR.bef_mono {r r' : Rec} {m m' : Mat} (h : ClosedR r m) (h' : ClosedR r' m') (hn : nE r' = nE r) (hs : ∀ x, SolR r' x → SolR r x) {i j : Nat} (hi : i < nE r) (hj : j < nE r) (hb : Go.Lift.bef m i j = true) : Go.Lift.bef m' i j = true := by
  unfold Go.Lift.bef at hb ⊢
  have := of_decide_eq_true hb
  have := h.mono h' hn hs (i := j + 1) (j := i + 1) (by omega) (by omega)
  exact decide_eq_true (by omega)

section
variable {β : Type} {r r' : Rec} {m m' : Mat}

theorem more_p1 (hm : ClosedR r m) (hm' : ClosedR r' m') (hnn : nE r' = nE r) (hs : ∀ x, SolR r' x → SolR r x) (hn : nE r ≤ 7) (k1 : law40_OrderMore_p1_K1 β) (k2 : law40_OrderMore_p1_K2 β) {i : Nat} (hi : i < nE r) (x y : List (Int × Int)) :
    law40_OrderMore_p1 k1 k2 (nE r : Int) (i : Int) 0 r.1 r.2.1 r.2.2.1 r.2.2.2 r'.1 r'.2.2.1 r'.2.2.2 x y r'.2.1 = k2 (nE r : Int) (i : Int) r.1 r.2.1 r.2.2.1 r.2.2.2 r'.1 r'.2.2.1 r'.2.2.2 x y r'.2.1 := by
  have key := pass_loop (nE r) (fun f j => law40_OrderMore_p1_n f k1 k2 (nE r : Int) (i : Int) j r.1 r.2.1 r.2.2.1 r.2.2.2 r'.1 r'.2.2.1 r'.2.2.2 x y r'.2.1) (k2 (nE r : Int) (i : Int) r.1 r.2.1 r.2.2.1 r.2.2.2 r'.1 r'.2.2.1 r'.2.2.2 x y r'.2.1) fuel (lt_fuel (by omega))
    (fun f j hj => by
      have e1 : IntKind.i64.wrap ((j : Int) + 1) = j + 1 := i64_in _ (by omega)
      rw [law40_OrderMore_p1_step]
      unfold law40_OrderMore_p1_s
      simp only [e1]
      refine (c_pos (by omega)).trans ?_
      refine (Compare_eq hm.eq (hm.matB hn) hi hj _).trans ?_
      refine (Compare_eq hm'.eq (hm'.matB (by omega)) (by omega) (by omega) _).trans ?_
      by_cases h0 : cmpN m i j = 0
      · exact c_npos h0
      · refine (c_nneg h0).trans ?_
        refine c_npos ?_
        rcases cmpN_cases m i j with h1 | h1 | h1
        · rw [h1]
          exact (cmpN_before.2 (hm.bef_mono hm' hnn hs hi hj (cmpN_before.1 h1))).symm
        · exact absurd h1 h0
        · rw [h1]
          exact ((hm'.cmp_after (by omega) (by omega)).2 (hm.bef_mono hm' hnn hs hj hi ((hm.cmp_after hi hj).1 h1))).symm)
    (fun f => by
      rw [law40_OrderMore_p1_step]
      unfold law40_OrderMore_p1_s
      exact c_neg (by omega))
  unfold law40_OrderMore_p1
  exact key

theorem more_p2 (hm : ClosedR r m) (hm' : ClosedR r' m') (hnn : nE r' = nE r) (hs : ∀ x, SolR r' x → SolR r x) (hn : nE r ≤ 7) (k1 : law40_OrderMore_p2_K1 β) (k2 : law40_OrderMore_p2_K2 β) :
    law40_OrderMore_p2 k1 k2 (nE r : Int) 0 r.1 r.2.1 r.2.2.1 r.2.2.2 r'.1 r'.2.2.1 r'.2.2.2 (whensN (nE r) m) (whensN (nE r) m') r'.2.1 = k2 () := by
  have hw : ∀ m, (whensN (nE r) m).length = nE r := fun m => by unfold whensN; simp
  have key := pass_loop (nE r) (fun f j => law40_OrderMore_p2_n f k1 k2 (nE r : Int) j r.1 r.2.1 r.2.2.1 r.2.2.2 r'.1 r'.2.2.1 r'.2.2.2 (whensN (nE r) m) (whensN (nE r) m') r'.2.1) (k2 ()) fuel (lt_fuel (by omega))
    (fun f j hj => by
      have e1 : IntKind.i64.wrap ((j : Int) + 1) = j + 1 := i64_in _ (by omega)
      have w1 := hw m
      have w2 := hw m'
      have g1 := hm.mono hm' hnn hs (i := j + 1) (j := 0) (by omega) (by omega)
      have g2 := hm.mono hm' hnn hs (i := 0) (j := j + 1) (by omega) (by omega)
      have r1 : (rangeN m j).1 ≤ (rangeN m' j).1 := by unfold rangeN; simp only; omega
      have r2 : (rangeN m' j).2 ≤ (rangeN m j).2 := by unfold rangeN; simp only; omega
      rw [law40_OrderMore_p2_step]
      unfold law40_OrderMore_p2_s
      simp only [Int.toNat_natCast, whensN_getD hj]
      refine (c_pos (by omega)).trans ?_
      refine (c_inb (by omega)).trans ?_
      refine (c_inb (by omega)).trans ?_
      refine (c_neg (by omega)).trans ?_
      refine (c_inb (by omega)).trans ?_
      refine (c_inb (by omega)).trans ?_
      refine (c_neg (by omega)).trans ?_
      refine (more_p1 hm hm' hnn hs hn _ _ hj _ _).trans ?_
      simp only [e1])
    (fun f => by
      rw [law40_OrderMore_p2_step]
      unfold law40_OrderMore_p2_s
      exact c_neg (by omega))
  unfold law40_OrderMore_p2
  exact key

theorem more_p3 (hm : ClosedR r m) (hm' : ClosedR r' m') (hnn : nE r' = nE r) (hs : ∀ x, SolR r' x → SolR r x) (hn : nE r ≤ 7) (k1 : law40_OrderMore_p3_K1 β) :
    law40_OrderMore_p3 k1 (nE r : Int) r.1 r.2.1 r.2.2.1 r.2.2.2 r'.1 r'.2.2.1 r'.2.2.2 r'.2.1 = k1 true := by
  have hw : ∀ m, (whensN (nE r) m).length = nE r := fun m => by unfold whensN; simp
  have w1 := hw m
  have w2 := hw m'
  unfold law40_OrderMore_p3 law40_OrderMore_p3_u law40_OrderMore_p3_s
  refine (When_some hm.eq (hm.matB hn) _).trans ?_
  refine (When_some hm'.eq (hm'.matB (by omega)) _).trans ?_
  refine c_nt.trans ?_
  refine c_nt.trans ?_
  rw [hnn]
  refine (c_npos (by omega)).trans ?_
  refine (c_npos (by omega)).trans ?_
  refine (more_p2 hm hm' hnn hs hn _ _).trans ?_
  exact sane40_eq _

theorem RecOk.more {n : Int} {ahead times : List Int} (h : RecOk n r ahead times) (hS : r.2.1.length ≤ 4) (hL : r.2.2.2.length ≤ 3) {a : Nat} (ha : a < nE r) {u v : Int} (hu : 0 ≤ u ∧ u ≤ 4) (hv : 0 ≤ v ∧ v ≤ 4) {ls : List Link} (hls : ls.length ≤ 1) (hl : ∀ l ∈ ls, LinkOk times l) :
    RecOk n (r.1, r.2.1 ++ [((evAt r a).1, ((evAt r a).2.1, (times.getD a 0 - u, times.getD a 0 + v)))], r.2.2.1, r.2.2.2 ++ ls) ahead times := by
  obtain ⟨a1, a2, a3, a4, a5⟩ := h.evOk ha
  refine ⟨h.hosts, h.some_, by simp; omega, fun s hs => ?_, h.lenE, h.fewE, h.events, by simp; omega, fun l hl' => ?_⟩
  · rcases List.mem_append.1 hs with hs | hs
    · exact h.syncs s hs
    · simp only [List.mem_cons, List.not_mem_nil, or_false] at hs
      subst hs
      exact ⟨a1, a2, times.getD a 0, a3, by omega, a5, by simp only; omega, by simp only; omega, by simp only; omega, by simp only; omega⟩
  · rcases List.mem_append.1 hl' with hl' | hl'
    · exact h.links l hl'
    · exact hl l hl'

theorem orderMore {t : List Int} (k : Bool → Option β) : law40_OrderMore t k = k true := by
  unfold law40_OrderMore law40_OrderMore_s
  refine (light_eq _ _).trans ?_
  by_cases hl : (t.length : Int) ≤ 500
  · refine (c_npos hl).trans ?_
    refine (roll_eq _ _).trans ?_
    obtain ⟨r, d, times, ahead, hr, hd, ⟨hS, hL⟩, f1⟩ := record_ok4 6 (by omega) (roll_ok hl)
    refine (f1 _).trans ?_
    obtain ⟨m, hm⟩ := hr.closed (by omega)
    have hn : nE r ≤ 6 := by have := hr.nE_le; omega
    have hnE : r.2.2.1.length = nE r := rfl
    have hlen : times.length = nE r := hr.lenE
    by_cases h2 : (times.length : Int) < 2
    · refine (c_pos h2).trans ?_
      exact sane40_eq _
    · refine (c_neg h2).trans ?_
      obtain ⟨a, d1, ha0, ha1, hd1, f2⟩ := next_ok (n := (times.length : Int)) hd (by omega)
      refine (f2 _).trans ?_
      obtain ⟨b, d2, hb0, hb1, hd2, f3⟩ := next_ok (n := (times.length : Int)) hd1 (by omega)
      refine (f3 _).trans ?_
      obtain ⟨a, rfl⟩ : ∃ a' : Nat, a = a' := ⟨a.toNat, by omega⟩
      obtain ⟨b, rfl⟩ : ∃ a' : Nat, b = a' := ⟨b.toNat, by omega⟩
      have ha : a < nE r := by omega
      have hb : b < nE r := by omega
      have ta := hr.times_bd ha
      have tb := hr.times_bd hb
      refine (c_room (by omega)).trans ?_
      refine (c_inb (by omega)).trans ?_
      refine (c_inb (by omega)).trans ?_
      refine (c_inb (by omega)).trans ?_
      obtain ⟨u, d3, hu0, hu1, hd3, f4⟩ := next_ok (n := 5) hd2 (by omega)
      refine (f4 _).trans ?_
      refine (c_inb (by omega)).trans ?_
      obtain ⟨v, d4, hv0, hv1, hd4, f5⟩ := next_ok (n := 5) hd3 (by omega)
      refine (f5 _).trans ?_
      refine (c_room (by simp only [List.length_cons, List.length_nil]; omega)).trans ?_
      have e1 : IntKind.i64.wrap (times.getD a 0 - u) = times.getD a 0 - u := i64_in _ (by omega)
      have e2 : IntKind.i64.wrap (times.getD a 0 + v) = times.getD a 0 + v := i64_in _ (by omega)
      have e3 : IntKind.i64.wrap (times.getD b 0 - times.getD a 0) = times.getD b 0 - times.getD a 0 := i64_in _ (by omega)
      simp only [Int.toNat_natCast, e1, e2]
      -- with any links that hold
      have fin : ∀ (ls : List Link), ls.length ≤ 1 → (∀ l ∈ ls, LinkOk times l) → (law40_OrderMore_p3 (fun (t2 : Bool) => k t2) (times.length : Int) r.1 r.2.1 r.2.2.1 r.2.2.2 r.1 r.2.2.1 (r.2.2.2 ++ ls)
          (r.2.1 ++ [((evAt r a).1, ((evAt r a).2.1, (times.getD a 0 - u, times.getD a 0 + v)))]) : Option β) = k true := by
        intro ls h3 h4
        have hr' := hr.more hS hL ha (u := u) (v := v) (by omega) (by omega) h3 h4
        obtain ⟨m', hm'⟩ := hr'.closed (by omega)
        rw [hlen]
        exact more_p3 (r' := (r.1, r.2.1 ++ [((evAt r a).1, ((evAt r a).2.1, (times.getD a 0 - u, times.getD a 0 + v)))], r.2.2.1, r.2.2.2 ++ ls)) hm hm' rfl (fun x s => sol_more hm.valid hm'.valid s) (by omega) _
      have fin0 : (law40_OrderMore_p3 (fun (t2 : Bool) => k t2) (times.length : Int) r.1 r.2.1 r.2.2.1 r.2.2.2 r.1 r.2.2.1 r.2.2.2
          (r.2.1 ++ [((evAt r a).1, ((evAt r a).2.1, (times.getD a 0 - u, times.getD a 0 + v)))]) : Option β) = k true := by
        have := fin [] (by simp) (by simp)
        rw [List.append_nil] at this
        exact this
      have p4f : ∀ (K : law40_OrderMore_p4_K1 β) (b3 : List Sync), law40_OrderMore_p4 K (times.length : Int) (a : Int) (b : Int) false r.1 r.2.1 r.2.2.1 r.2.2.2 times r.1 r.2.2.1 r.2.2.2 b3 = K (times.length : Int) r.1 r.2.1 r.2.2.1 r.2.2.2 r.1 r.2.2.1 r.2.2.2 b3 := fun K b3 => rfl
      by_cases hab : (a : Int) = b
      · refine (c_npos hab).trans ?_
        refine (p4f _ _).trans ?_
        exact fin0
      · refine (c_nneg hab).trans ?_
        refine (c_inb (by omega)).trans ?_
        refine (c_inb (by omega)).trans ?_
        by_cases hlt : times.getD a 0 < times.getD b 0
        · rw [decide_eq_true hlt]
          unfold law40_OrderMore_p4 law40_OrderMore_p4_u law40_OrderMore_p4_s
          refine c_t.trans ?_
          refine (c_room (by omega)).trans ?_
          refine (c_inb (by omega)).trans ?_
          refine (c_inb (by omega)).trans ?_
          refine (c_room (by simp only [List.length_cons, List.length_nil]; omega)).trans ?_
          simp only [Int.toNat_natCast, e3]
          refine fin [((a : Int), ((b : Int), times.getD b 0 - times.getD a 0))] (by simp) (fun l hl => ?_)
          simp only [List.mem_cons, List.not_mem_nil, or_false] at hl
          subst hl
          unfold LinkOk
          simp only [Int.toNat_natCast]
          omega
        · rw [decide_eq_false hlt]
          refine (p4f _ _).trans ?_
          exact fin0
  · refine (c_nneg hl).trans ?_
    exact sane40_eq _
end
end
end Go.Lift
