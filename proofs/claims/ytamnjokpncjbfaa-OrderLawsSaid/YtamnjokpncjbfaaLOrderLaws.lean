/- OrderLaws in plain Lean. -/
import Derived.Test.YtamnjokpncjbfaaFn2
import Derived.Test.YtamnjokpncjbfaaLOrder3
namespace Go.Lift
open Go.RowKit Go.IntWalk
noncomputable section
set_option linter.unusedVariables false
set_option linter.unusedSimpArgs false
set_option maxRecDepth 10000

def cPart (n : Nat) (m : Mat) (i k : Nat) : Mat := (List.range n).map fun a => if a < i then (List.range n).map (cmpN m a) else if a = i then (List.range k).map (cmpN m a) else []
theorem cPart_len (n : Nat) (m : Mat) (i k : Nat) : (cPart n m i k).length = n := by simp [cPart]
theorem cPart_at {n : Nat} {m : Mat} {i k a : Nat} (ha : a < n) : (cPart n m i k).getD a [] = if a < i then (List.range n).map (cmpN m a) else if a = i then (List.range k).map (cmpN m a) else [] := by
  simp [cPart, List.getD, ha]
theorem cPart_self {n : Nat} {m : Mat} {i k : Nat} (hi : i < n) : (cPart n m i k).getD i [] = (List.range k).map (cmpN m i) := by
  rw [cPart_at hi, if_neg (by omega), if_pos rfl]
theorem cPart_set {n : Nat} {m : Mat} {i k : Nat} (hi : i < n) : (cPart n m i k).set i ((cPart n m i k).getD i [] ++ [cmpN m i k]) = cPart n m i (k + 1) := by
  rw [cPart_self hi]
  apply List.ext_getElem
  · simp [cPart]
  · intro a h1 h2
    rw [List.getElem_set]
    split
    · rename_i e
      subst e
      simp [cPart, List.range_succ]
    · rename_i e
      have e' : ¬ a = i := fun h => e h.symm
      simp [cPart, e']
theorem cPart_next {n : Nat} {m : Mat} {i : Nat} (hi : i < n) : cPart n m i n = cPart n m (i + 1) 0 := by
  unfold cPart
  apply List.map_congr_left
  intro a ha
  by_cases h1 : a < i
  · rw [if_pos h1, if_pos (by omega)]
  · by_cases h2 : a = i
    · rw [if_neg h1, if_pos h2, if_pos (show a < i + 1 by omega)]
    · rw [if_neg h1, if_neg h2, if_neg (show ¬ a < i + 1 by omega)]
      split <;> rfl
theorem cPart_zero {n : Nat} {m : Mat} : cPart n m 0 0 = List.replicate n [] := by
  unfold cPart
  rw [List.eq_replicate_iff]
  refine ⟨by simp, fun b hb => ?_⟩
  simp only [List.mem_map] at hb
  obtain ⟨a, ha, rfl⟩ := hb
  rw [if_neg (by omega)]
  split <;> rfl
theorem cFull_at {n : Nat} {m : Mat} {a b : Nat} (ha : a < n) (hb : b < n) : ((cPart n m n 0).getD a []).getD b 0 = cmpN m a b := by
  rw [cPart_at ha, if_pos ha]
  simp [List.getD, hb]
theorem cFull_len {n : Nat} {m : Mat} {a : Nat} (ha : a < n) : ((cPart n m n 0).getD a []).length = n := by
  rw [cPart_at ha, if_pos ha]
  simp

section
variable {β : Type} {n : Int} {r : Rec} {ahead times : List Int} {m : Mat}

theorem laws_p2 (hm : ClosedR r m) (hn : nE r ≤ 7) (k1 : law40_OrderLaws_p2_K1 β) (k2 : law40_OrderLaws_p2_K2 β) {i : Nat} (hi : i < nE r) :
    law40_OrderLaws_p2 k1 k2 (nE r : Int) (i : Int) 0 r.1 r.2.1 r.2.2.1 r.2.2.2 (cPart (nE r) m i 0) = k2 (nE r : Int) (i : Int) r.1 r.2.1 r.2.2.1 r.2.2.2 (cPart (nE r) m (i + 1) 0) := by
  have key := range_state (nE r) (cPart (nE r) m i) (fun f j c => law40_OrderLaws_p2_n f k1 k2 (nE r : Int) (i : Int) j r.1 r.2.1 r.2.2.1 r.2.2.2 c) (k2 (nE r : Int) (i : Int) r.1 r.2.1 r.2.2.1 r.2.2.2 (cPart (nE r) m (i + 1) 0)) fuel (lt_fuel (by omega))
    (fun f j hj => by
      have e1 : IntKind.i64.wrap ((j : Int) + 1) = j + 1 := i64_in _ (by omega)
      have hc := hm.cmp_neg hi hj
      have hcc := cmpN_cases m i j
      have e2 : IntKind.i64.wrap (0 - cmpN m j i) = cmpN m i j := (i64_in _ (by omega)).trans (by omega)
      have hp : ∀ (c : Mat), c = cPart (nE r) m i j → (law40_OrderLaws_p1 (fun (n2 : Int) (i_2 : Int) (k_2 : Int) (r_5 : List Host) (r_6 : List Sync) (r_7 : List Event) (r_8 : List Link) (c2 : Mat) =>
          law40_OrderLaws_p2_n f k1 k2 n2 i_2 (IntKind.i64.wrap (k_2 + (1 : Int))) r_5 r_6 r_7 r_8 c2) (nE r : Int) (i : Int) (j : Int) (cmpN m i j) r.1 r.2.1 r.2.2.1 r.2.2.2 c : Option β) =
          law40_OrderLaws_p2_n f k1 k2 (nE r : Int) (i : Int) ((j : Int) + 1) r.1 r.2.1 r.2.2.1 r.2.2.2 (cPart (nE r) m i (j + 1)) := by
        intro c hc
        subst hc
        have hl := cPart_len (nE r) m i j
        have hl2 : ((cPart (nE r) m i j).getD i []).length = j := by rw [cPart_self hi]; simp
        unfold law40_OrderLaws_p1 law40_OrderLaws_p1_u law40_OrderLaws_p1_s
        simp only [Int.toNat_natCast, e1]
        refine (c_inb (by omega)).trans ?_
        refine (c_room (by simp only [List.length_cons, List.length_nil]; omega)).trans ?_
        refine (c_inb (by omega)).trans ?_
        refine (c_pos (p := True) trivial).trans ?_
        rw [cPart_set hi]
      rw [law40_OrderLaws_p2_step]
      unfold law40_OrderLaws_p2_s
      refine (c_pos (by omega)).trans ?_
      refine (Compare_eq hm.eq (hm.matB hn) hi hj _).trans ?_
      refine (Compare_eq hm.eq (hm.matB hn) hj hi _).trans ?_
      refine c_nt.trans ?_
      refine c_nt.trans ?_
      rw [e2]
      refine (c_npos rfl).trans ?_
      by_cases hij : (i : Int) = j
      · refine (c_pos hij).trans ?_
        have h0 : cmpN m i j = 0 := by
          have : i = j := by omega
          subst this
          omega
        refine (c_npos h0).trans ?_
        exact hp _ rfl
      · refine (c_neg hij).trans ?_
        exact hp _ rfl)
    (fun f => by
      rw [law40_OrderLaws_p2_step]
      unfold law40_OrderLaws_p2_s
      refine (c_neg (by omega)).trans ?_
      rw [cPart_next hi])
  unfold law40_OrderLaws_p2
  exact key

theorem laws_p3 (hm : ClosedR r m) (hn : nE r ≤ 7) (k1 : law40_OrderLaws_p3_K1 β) (k2 : law40_OrderLaws_p3_K2 β) :
    law40_OrderLaws_p3 k1 k2 (nE r : Int) 0 r.1 r.2.1 r.2.2.1 r.2.2.2 (cPart (nE r) m 0 0) = k2 (nE r : Int) r.1 r.2.1 r.2.2.1 r.2.2.2 (cPart (nE r) m (nE r) 0) := by
  have key := range_state (nE r) (fun i => cPart (nE r) m i 0) (fun f j c => law40_OrderLaws_p3_n f k1 k2 (nE r : Int) j r.1 r.2.1 r.2.2.1 r.2.2.2 c) (k2 (nE r : Int) r.1 r.2.1 r.2.2.1 r.2.2.2 (cPart (nE r) m (nE r) 0)) fuel (lt_fuel (by omega))
    (fun f j hj => by
      have e1 : IntKind.i64.wrap ((j : Int) + 1) = j + 1 := i64_in _ (by omega)
      rw [law40_OrderLaws_p3_step]
      unfold law40_OrderLaws_p3_s
      refine (c_pos (by omega)).trans ?_
      refine (laws_p2 hm hn _ _ hj).trans ?_
      simp only [e1])
    (fun f => by
      rw [law40_OrderLaws_p3_step]
      unfold law40_OrderLaws_p3_s
      exact c_neg (by omega))
  unfold law40_OrderLaws_p3
  exact key

theorem laws_p4 (hm : ClosedR r m) (hn : nE r ≤ 7) (k1 : law40_OrderLaws_p4_K1 β) (k2 : law40_OrderLaws_p4_K2 β) {i k : Nat} (hi : i < nE r) (hk : k < nE r) :
    law40_OrderLaws_p4 k1 k2 (nE r : Int) (i : Int) (k : Int) 0 r.1 r.2.1 r.2.2.1 r.2.2.2 (cPart (nE r) m (nE r) 0) = k2 (nE r : Int) (i : Int) (k : Int) r.1 r.2.1 r.2.2.1 r.2.2.2 (cPart (nE r) m (nE r) 0) := by
  have l0 := cPart_len (nE r) m (nE r) 0
  have li := cFull_len (m := m) hi
  have lk := cFull_len (m := m) hk
  have key := pass_loop (nE r) (fun f j => law40_OrderLaws_p4_n f k1 k2 (nE r : Int) (i : Int) (k : Int) j r.1 r.2.1 r.2.2.1 r.2.2.2 (cPart (nE r) m (nE r) 0)) (k2 (nE r : Int) (i : Int) (k : Int) r.1 r.2.1 r.2.2.1 r.2.2.2 (cPart (nE r) m (nE r) 0)) fuel (lt_fuel (by omega))
    (fun f j hj => by
      have e1 : IntKind.i64.wrap ((j : Int) + 1) = j + 1 := i64_in _ (by omega)
      rw [law40_OrderLaws_p4_step]
      unfold law40_OrderLaws_p4_s
      simp only [Int.toNat_natCast, e1, cFull_at hi hk, cFull_at hk hj, cFull_at hi hj]
      refine (c_pos (by omega)).trans ?_
      refine (c_inb (by omega)).trans ?_
      refine (c_inb (by omega)).trans ?_
      by_cases h1 : cmpN m i k = -1
      · refine (c_pos h1).trans ?_
        refine (c_inb (by omega)).trans ?_
        refine (c_inb (by omega)).trans ?_
        by_cases h2 : cmpN m k j = -1
        · refine (c_pos h2).trans ?_
          refine (c_inb (by omega)).trans ?_
          refine (c_inb (by omega)).trans ?_
          exact c_npos (cmpN_before.2 (hm.bef_trans hi hk hj (cmpN_before.1 h1) (cmpN_before.1 h2)))
        · exact c_neg h2
      · exact c_neg h1)
    (fun f => by
      rw [law40_OrderLaws_p4_step]
      unfold law40_OrderLaws_p4_s
      exact c_neg (by omega))
  unfold law40_OrderLaws_p4
  exact key

theorem laws_p5 (hm : ClosedR r m) (hn : nE r ≤ 7) (k1 : law40_OrderLaws_p5_K1 β) (k2 : law40_OrderLaws_p5_K2 β) {i : Nat} (hi : i < nE r) :
    law40_OrderLaws_p5 k1 k2 (nE r : Int) (i : Int) 0 r.1 r.2.1 r.2.2.1 r.2.2.2 (cPart (nE r) m (nE r) 0) = k2 (nE r : Int) (i : Int) r.1 r.2.1 r.2.2.1 r.2.2.2 (cPart (nE r) m (nE r) 0) := by
  have l0 := cPart_len (nE r) m (nE r) 0
  have li := cFull_len (m := m) hi
  have key := pass_loop (nE r) (fun f j => law40_OrderLaws_p5_n f k1 k2 (nE r : Int) (i : Int) j r.1 r.2.1 r.2.2.1 r.2.2.2 (cPart (nE r) m (nE r) 0)) (k2 (nE r : Int) (i : Int) r.1 r.2.1 r.2.2.1 r.2.2.2 (cPart (nE r) m (nE r) 0)) fuel (lt_fuel (by omega))
    (fun f j hj => by
      have e1 : IntKind.i64.wrap ((j : Int) + 1) = j + 1 := i64_in _ (by omega)
      have hbi := valid_ev hm.valid hi
      have e2 : IntKind.i64.wrap ((evAt r i).2.1 + 2) = (evAt r i).2.1 + 2 := i64_in _ (by omega)
      have hi' := hi
      have hj' := hj
      unfold nE at hi' hj'
      rw [law40_OrderLaws_p5_step]
      unfold law40_OrderLaws_p5_s
      refine (c_pos (by omega)).trans ?_
      refine (laws_p4 hm hn _ _ hi hj).trans ?_
      refine (c_inb (by omega)).trans ?_
      refine (c_inb (by omega)).trans ?_
      unfold evAt at e2
      simp only [Int.toNat_natCast, e1, e2, cFull_at hi hj]
      by_cases h1 : (evAt r i).1 = (evAt r j).1
      · refine (c_pos (p := (r.2.2.1.getD i ((0 : Int), ((0 : Int), ([] : List UInt8)))).1 = (r.2.2.1.getD j ((0 : Int), ((0 : Int), ([] : List UInt8)))).1) h1).trans ?_
        by_cases h2 : (evAt r i).2.1 + 2 ≤ (evAt r j).2.1
        · refine (c_pos (p := (r.2.2.1.getD i ((0 : Int), ((0 : Int), ([] : List UInt8)))).2.1 + 2 ≤ (r.2.2.1.getD j ((0 : Int), ((0 : Int), ([] : List UInt8)))).2.1) h2).trans ?_
          refine (c_inb (by omega)).trans ?_
          refine (c_inb (by omega)).trans ?_
          exact c_npos (cmpN_before.2 (hm.far hi hj h1 h2))
        · exact c_neg (p := (r.2.2.1.getD i ((0 : Int), ((0 : Int), ([] : List UInt8)))).2.1 + 2 ≤ (r.2.2.1.getD j ((0 : Int), ((0 : Int), ([] : List UInt8)))).2.1) h2
      · exact c_neg (p := (r.2.2.1.getD i ((0 : Int), ((0 : Int), ([] : List UInt8)))).1 = (r.2.2.1.getD j ((0 : Int), ((0 : Int), ([] : List UInt8)))).1) h1)
    (fun f => by
      rw [law40_OrderLaws_p5_step]
      unfold law40_OrderLaws_p5_s
      exact c_neg (by omega))
  unfold law40_OrderLaws_p5
  exact key

theorem laws_p6 (hm : ClosedR r m) (hn : nE r ≤ 7) (k1 : law40_OrderLaws_p6_K1 β) (k2 : law40_OrderLaws_p6_K2 β) :
    law40_OrderLaws_p6 k1 k2 (nE r : Int) 0 r.1 r.2.1 r.2.2.1 r.2.2.2 (cPart (nE r) m (nE r) 0) = k2 r.1 r.2.1 r.2.2.1 r.2.2.2 (cPart (nE r) m (nE r) 0) := by
  have key := pass_loop (nE r) (fun f j => law40_OrderLaws_p6_n f k1 k2 (nE r : Int) j r.1 r.2.1 r.2.2.1 r.2.2.2 (cPart (nE r) m (nE r) 0)) (k2 r.1 r.2.1 r.2.2.1 r.2.2.2 (cPart (nE r) m (nE r) 0)) fuel (lt_fuel (by omega))
    (fun f j hj => by
      have e1 : IntKind.i64.wrap ((j : Int) + 1) = j + 1 := i64_in _ (by omega)
      rw [law40_OrderLaws_p6_step]
      unfold law40_OrderLaws_p6_s
      refine (c_pos (by omega)).trans ?_
      refine (laws_p5 hm hn _ _ hj).trans ?_
      simp only [e1])
    (fun f => by
      rw [law40_OrderLaws_p6_step]
      unfold law40_OrderLaws_p6_s
      exact c_neg (by omega))
  unfold law40_OrderLaws_p6
  exact key

theorem laws_p7 (hm : ClosedR r m) (hn : nE r ≤ 7) (k1 : law40_OrderLaws_p7_K1 β) (k2 : law40_OrderLaws_p7_K2 β) :
    law40_OrderLaws_p7 k1 k2 r.2.2.2 (r.2.2.2.length : Int) 0 (cPart (nE r) m (nE r) 0) = k2 () := by
  have l0 := cPart_len (nE r) m (nE r) 0
  have hb := valid_bd hm.valid
  have key := pass_loop r.2.2.2.length (fun f j => law40_OrderLaws_p7_n f k1 k2 r.2.2.2 (r.2.2.2.length : Int) j (cPart (nE r) m (nE r) 0)) (k2 ()) fuel (lt_fuel (by omega))
    (fun f j hj => by
      have e1 : IntKind.i64.wrap ((j : Int) + 1) = j + 1 := i64_in _ (by omega)
      have hmem := getD_mem (d := ((0 : Int), ((0 : Int), (0 : Int)))) hj
      have hl := (valid_parts hm.valid).2.2.2 _ hmem
      rw [law40_OrderLaws_p7_step]
      unfold law40_OrderLaws_p7_s
      refine (c_pos (by omega)).trans ?_
      refine (c_inb (by omega)).trans ?_
      simp only [Int.toNat_natCast, e1]
      by_cases h1 : 0 < (r.2.2.2.getD j ((0 : Int), ((0 : Int), (0 : Int)))).2.2
      · have hf : (r.2.2.2.getD j ((0 : Int), ((0 : Int), (0 : Int)))).1.toNat < nE r := by omega
        have ht : (r.2.2.2.getD j ((0 : Int), ((0 : Int), (0 : Int)))).2.1.toNat < nE r := by omega
        have li := cFull_len (m := m) hf
        refine (c_pos h1).trans ?_
        refine (c_inb (by omega)).trans ?_
        refine (c_inb (by omega)).trans ?_
        refine c_npos ((cFull_at hf ht).trans (cmpN_before.2 ?_))
        rw [hm.bef hf ht]
        intro x s
        have := s.link _ hmem
        omega
      · exact c_neg h1)
    (fun f => by
      rw [law40_OrderLaws_p7_step]
      unfold law40_OrderLaws_p7_s
      exact c_neg (by omega))
  unfold law40_OrderLaws_p7
  exact key

theorem orderLaws {t : List Int} (k : Bool → Option β) : law40_OrderLaws t k = k true := by
  unfold law40_OrderLaws law40_OrderLaws_s
  refine (light_eq _ _).trans ?_
  by_cases hl : (t.length : Int) ≤ 500
  · refine (c_npos hl).trans ?_
    refine (roll_eq _ _).trans ?_
    obtain ⟨r, d, times, ahead, hr, hd, f1⟩ := record_ok 6 (by omega) (roll_ok hl)
    refine (f1 _).trans ?_
    obtain ⟨m, hm⟩ := hr.closed (by omega)
    have hn : nE r ≤ 7 := by have := hr.nE_le; omega
    refine (c_make (n := nE r) (by omega) (by omega)).trans ?_
    rw [Int.toNat_natCast, show List.replicate r.2.2.1.length ([] : List Int) = cPart (nE r) m 0 0 from cPart_zero.symm]
    refine (laws_p3 hm hn _ _).trans ?_
    refine (laws_p6 hm hn _ _).trans ?_
    refine (laws_p7 hm hn _ _).trans ?_
    exact sane40_eq _
  · refine (c_nneg hl).trans ?_
    exact sane40_eq _
end
end
end Go.Lift
