/- OrderOpens in plain Lean. -/
import Derived.Test.YtamnjokpncjbfaaFn2
import Derived.Test.YtamnjokpncjbfaaLOrder4
namespace Go.Lift
open Go.RowKit Go.IntWalk
noncomputable section
set_option linter.unusedVariables false
set_option linter.unusedSimpArgs false
set_option maxRecDepth 10000

section
variable {β : Type} {n : Int} {r : Rec} {ahead times : List Int} {m : Mat}

theorem opens_p1 (k1 : law40_OrderOpens_p1_K1 β) (a b x : Int) (ok : Bool) (l : List (Int × Int)) (hl : l.length ≤ 10000) (f1 : List Host) (f2 : List Sync) (f3 : List Event) (g1 : List Host) (g2 : List Sync) (g3 : List Event) (b3 b4 : List Link) :
    law40_OrderOpens_p1 k1 a b x ok false (l.length : Int) 0 f1 f2 f3 g1 g2 g3 l b3 b4 =
      k1 x ok (l.any (fun p => decide (p.1 = (if b < a then b else a)) && (decide (p.2 = (if b > a then b else a)) && true))) f1 f2 f3 g1 g2 g3 b3 b4 := by
  have key := fold_loop (fun f j (s : Bool) => law40_OrderOpens_p1_n f k1 a b x ok s (l.length : Int) j f1 f2 f3 g1 g2 g3 l b3 b4)
    (fun s p => s || (decide (p.1 = (if b < a then b else a)) && (decide (p.2 = (if b > a then b else a)) && true))) (fun s => k1 x ok s f1 f2 f3 g1 g2 g3 b3 b4) ((0 : Int), (0 : Int)) l false fuel (lt_fuel (by omega))
    (fun f j s hj => by
      have e1 : IntKind.i64.wrap ((j : Int) + 1) = j + 1 := i64_in _ (by omega)
      rw [law40_OrderOpens_p1_step]
      unfold law40_OrderOpens_p1_s
      refine (c_pos (by omega)).trans ?_
      refine (c_inb (by omega)).trans ?_
      simp only [Int.toNat_natCast, e1]
      cases s <;> rfl)
    (fun f s => by
      rw [law40_OrderOpens_p1_step]
      unfold law40_OrderOpens_p1_s
      exact c_neg (by omega))
  unfold law40_OrderOpens_p1
  rw [key]
  have : ∀ (l : List (Int × Int)) (p : Int × Int → Bool) (s : Bool), l.foldl (fun s x => s || p x) s = (s || l.any p) := by
    intro l p
    induction l with
    | nil => intro s; simp
    | cons x l ih => intro s; simp only [List.foldl_cons, List.any_cons]; rw [ih, Bool.or_assoc]
  rw [this, Bool.false_or]

theorem orderOpens {t : List Int} (k : Bool → Option β) : law40_OrderOpens t k = k true := by
  unfold law40_OrderOpens law40_OrderOpens_s
  refine (light_eq _ _).trans ?_
  by_cases hl : (t.length : Int) ≤ 500
  · refine (c_npos hl).trans ?_
    refine (roll_eq _ _).trans ?_
    obtain ⟨r, d, times, ahead, hr, hd, f1⟩ := record_ok 6 (by omega) (roll_ok hl)
    refine (f1 _).trans ?_
    obtain ⟨m, hm⟩ := hr.closed (by omega)
    have hn : nE r ≤ 7 := by have := hr.nE_le; omega
    have hnE : r.2.2.1.length = nE r := rfl
    by_cases h2 : (r.2.2.1.length : Int) < 2
    · refine (c_pos h2).trans ?_
      exact sane40_eq _
    · refine (c_neg h2).trans ?_
      obtain ⟨a, d1, ha0, ha1, hd1, f2⟩ := next_ok (n := (r.2.2.1.length : Int)) hd (by omega)
      refine (f2 _).trans ?_
      have e1 : IntKind.i64.wrap ((r.2.2.1.length : Int) - 1) = (r.2.2.1.length : Int) - 1 := i64_in _ (by omega)
      obtain ⟨c, d2, hc0, hc1, hd2, f3⟩ := next_ok (n := (r.2.2.1.length : Int) - 1) hd1 (by omega)
      rw [e1]
      refine (f3 _).trans ?_
      refine (c_nneg (by omega)).trans ?_
      have e2 : IntKind.i64.wrap (IntKind.i64.wrap (a + 1) + c) = a + 1 + c := by
        rw [i64_in (a + 1) (by omega), i64_in _ (by omega)]
      rw [e2]
      obtain ⟨a, rfl⟩ : ∃ a' : Nat, a = a' := ⟨a.toNat, by omega⟩
      obtain ⟨b, hb⟩ : ∃ b' : Nat, Int.tmod ((a : Int) + 1 + c) (r.2.2.1.length : Int) = b' ∧ b' < nE r ∧ a ≠ b' := by
        have h1 := Int.tmod_nonneg (a := (a : Int) + 1 + c) (r.2.2.1.length : Int) (by omega)
        have h3 := Int.tmod_lt_of_pos ((a : Int) + 1 + c) (show (0 : Int) < (r.2.2.1.length : Int) by omega)
        refine ⟨(Int.tmod ((a : Int) + 1 + c) (r.2.2.1.length : Int)).toNat, by omega, by omega, ?_⟩
        intro he
        have h4 := Int.mul_tdiv_add_tmod ((a : Int) + 1 + c) (r.2.2.1.length : Int)
        generalize Int.tdiv ((a : Int) + 1 + c) (r.2.2.1.length : Int) = q at h4
        generalize hN : (r.2.2.1.length : Int) = N at *
        have h5 : N * q = 1 + c := by omega
        rcases Int.lt_or_le q 1 with hq | hq
        · have : N * q ≤ N * 0 := Int.mul_le_mul_of_nonneg_left (by omega) (by omega)
          omega
        · have : N * 1 ≤ N * q := Int.mul_le_mul_of_nonneg_left hq (by omega)
          omega
      obtain ⟨hb1, hb2, hab⟩ := hb
      rw [hb1]
      have ha : a < nE r := by omega
      have hfl := hr.fewL
      refine (Compare_eq hm.eq (hm.matB hn) ha hb2 _).trans ?_
      refine (c_room (by omega)).trans ?_
      refine (c_room (by simp only [List.length_cons, List.length_nil]; omega)).trans ?_
      refine (c_room (by omega)).trans ?_
      refine (c_room (by simp only [List.length_cons, List.length_nil]; omega)).trans ?_
      refine (Open_eq hm.eq (hm.matB hn) _).trans ?_
      have ho := openW_len (nE r) m
      have ho' : nE r * nE r ≤ 49 := Nat.mul_le_mul hn hn
      refine (opens_p1 _ _ _ _ _ _ (by omega) _ _ _ _ _ _ _ _).trans ?_
      rw [openW_any ha hb2 hab]
      refine c_nt.trans ?_
      refine (c_nbeq ?_).trans ?_
      · rw [Bool.eq_iff_iff, decide_eq_true_iff]
        exact (hm.cmp_open ha hb2).symm
      refine (consistent_eq (r := withLinks r (r.2.2.2 ++ [((a : Int), ((b : Int), (0 : Int)))])) (by rw [nE_withLinks]; omega) _).trans ?_
      refine (c_beq ?_).trans ?_
      · rw [hm.linked hn (by omega) ha hb2 hab]
        congr 1
        rw [Bool.eq_iff_iff, decide_eq_true_iff]
        exact (hm.cmp_after ha hb2).symm
      refine (consistent_eq (r := withLinks r (r.2.2.2 ++ [((b : Int), ((a : Int), (0 : Int)))])) (by rw [nE_withLinks]; omega) _).trans ?_
      refine (c_beq ?_).trans ?_
      · rw [hm.linked hn (by omega) hb2 ha (fun h => hab h.symm)]
        congr 1
        rw [Bool.eq_iff_iff, decide_eq_true_iff]
        exact cmpN_before.symm
      exact sane40_eq _
  · refine (c_nneg hl).trans ?_
    exact sane40_eq _
end
end
end Go.Lift
