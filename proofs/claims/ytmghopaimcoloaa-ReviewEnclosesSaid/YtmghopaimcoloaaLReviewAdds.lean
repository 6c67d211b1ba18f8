/- ReviewAdds in plain Lean. -/
import Derived.Test.YtmghopaimcoloaaFn0
import Derived.Test.YtmghopaimcoloaaLBase
import Derived.Test.YtmghopaimcoloaaLDice
import Derived.Test.YtmghopaimcoloaaLReview
import Derived.Test.YtmghopaimcoloaaLReview2
import Derived.Test.YtmghopaimcoloaaLReview3
import Derived.Test.YtmghopaimcoloaaLReview4
namespace Go.Lift
open Go.RowKit Go.IntWalk
noncomputable section
set_option linter.unusedVariables false
set_option linter.unusedSimpArgs false
set_option maxRecDepth 10000

abbrev Ext4 := Int × Int × Int × Int
def ext4 (p : Ext4) (r : Rg) : Ext4 := (if r.1 < p.1 then r.1 else p.1, if r.2 < p.2.1 then r.2 else p.2.1, if r.1 > p.2.2.1 then r.1 else p.2.2.1, if r.2 > p.2.2.2 then r.2 else p.2.2.2)

theorem ext4_fold : ∀ (l : List Rg) (p : Ext4), l.foldl ext4 p = ((lows l).foldl (fun m x => if x < m then x else m) p.1, (highs l).foldl (fun m x => if x < m then x else m) p.2.1, (lows l).foldl (fun m x => if x > m then x else m) p.2.2.1, (highs l).foldl (fun m x => if x > m then x else m) p.2.2.2)
  | [], p => rfl
  | r :: l, p => by
    simp only [List.foldl_cons, lows, highs, List.map_cons]
    exact ext4_fold l (ext4 p r)

theorem adds_p1 {β : Type} {all back : List Rg} (hl : all.length ≤ 200) (p : Ext4) (k1 : law42_ReviewAdds_p1_K1 β) :
    law42_ReviewAdds_p1 k1 (all.length : Int) 0 all back p.1 p.2.1 p.2.2.1 p.2.2.2 = k1 all back (all.foldl ext4 p).1 (all.foldl ext4 p).2.1 (all.foldl ext4 p).2.2.1 (all.foldl ext4 p).2.2.2 := by
  refine fold_loop (fun m i (p : Ext4) => law42_ReviewAdds_p1_n m k1 (all.length : Int) i all back p.1 p.2.1 p.2.2.1 p.2.2.2) ext4 (fun p => k1 all back p.1 p.2.1 p.2.2.1 p.2.2.2) rd0 all p fuel (lt_fuel (by omega)) (fun m i s hi => ?_) (fun m s => ?_)
  · have e1 : IntKind.i64.wrap ((i : Int) + 1) = i + 1 := i64_in _ (by omega)
    simp only [law42_ReviewAdds_p1_step, law42_ReviewAdds_p1_s, Int.toNat_natCast, e1]
    refine (c_pos (by omega)).trans ?_
    exact c_inb (by omega)
  · simp only [law42_ReviewAdds_p1_step, law42_ReviewAdds_p1_s]
    rw [c_neg (by omega)]

theorem rank_first {n : Nat} (hn : 1 ≤ n) : rankAt n 0 1 = 1 := by unfold rankAt; simp
theorem rank_last {n : Nat} (hn : 1 ≤ n) : rankAt n 1 1 = n := by
  unfold rankAt
  have : Int.tdiv (1 * (n : Int) + 1 - 1) 1 = n := by rw [Int.tdiv_one]; omega
  rw [this]
  split <;> omega
theorem rank_half {n : Nat} (hn : 1 ≤ n) : 1 ≤ rankAt n 1 2 ∧ rankAt n 1 2 ≤ n := by
  unfold rankAt
  have : Int.tdiv (1 * (n : Int) + 2 - 1) 2 = ((n : Int) + 1) / 2 := by rw [Int.tdiv_eq_ediv_of_nonneg (by omega)]; congr 1; omega
  rw [this]
  split <;> omega

theorem adds_gen {β : Type} {c1 : T_law42_ranges} {c2 : T_law42_sane} {c3 : T_made_Light} {c4 : T_made_Roll} {c5 : T_review_Rank} {c6 : T_review_Sum} {p1 : law42_ReviewAdds_p1_T} {t : List Int} {k : Bool → Option β}
    {d1 d2 : List Int × Int} {a b : List Rg} {xa xb : List Int} {sa sb : Rg} {l1 l2 m1 m2 : Int} {q : Rg} (ha : 1 ≤ a.length ∧ a.length ≤ 7) (hb : 1 ≤ b.length ∧ b.length ≤ 7)
    (hsa : 0 ≤ sa.1 ∧ sa.1 ≤ 1000000000 ∧ 0 ≤ sa.2 ∧ sa.2 ≤ 1000000000) (hsb : 0 ≤ sb.1 ∧ sb.1 ≤ 1000000000 ∧ 0 ≤ sb.2 ∧ sb.2 ≤ 1000000000)
    (h1 : ∀ k, (c3 t k : Option β) = k true) (h2 : ∀ k, (c4 t k : Option β) = k (t, 0)) (h3 : ∀ k, (c1 (t, 0) k : Option β) = k d1 a xa) (h4 : ∀ k, (c1 d1 k : Option β) = k d2 b xb)
    (h5 : ∀ k, (c6 a k : Option β) = k sa 0) (h6 : ∀ k, (c6 b k : Option β) = k sb 0) (h7 : ∀ k, (c6 (a ++ b) k : Option β) = k (sa.1 + sb.1, sa.2 + sb.2) 0)
    (h8 : ∀ k1, (p1 k1 ((a ++ b).length : Int) 0 (a ++ b) (b ++ a) ((a ++ b).getD 0 rd0).1 ((a ++ b).getD 0 rd0).2 ((a ++ b).getD 0 rd0).1 ((a ++ b).getD 0 rd0).2 : Option β) = k1 (a ++ b) (b ++ a) l1 l2 m1 m2)
    (r1 : ∀ k, (c5 (a ++ b) 0 1 k : Option β) = k (l1, l2) 0) (r2 : ∀ k, (c5 (a ++ b) 1 1 k : Option β) = k (m1, m2) 0) (r3 : ∀ k, (c5 (a ++ b) 1 2 k : Option β) = k q 0) (r4 : ∀ k, (c5 (b ++ a) 1 2 k : Option β) = k q 0)
    (h9 : ∀ k, (c2 k : Option β) = k true) : law42_ReviewAdds_s c1 c2 c3 c4 c5 c6 p1 t k = k true := by
  have e1 : IntKind.i64.wrap (sa.1 + sb.1) = sa.1 + sb.1 := i64_in _ (by omega)
  have e2 : IntKind.i64.wrap (sa.2 + sb.2) = sa.2 + sb.2 := i64_in _ (by omega)
  have hab : 0 < (a ++ b).length := by simp; omega
  unfold law42_ReviewAdds_s
  refine (h1 _).trans ?_
  refine (h2 _).trans ?_
  refine (h3 _).trans ?_
  refine (h4 _).trans ?_
  refine (c_room (by omega)).trans ?_
  refine (c_room (by omega)).trans ?_
  refine (c_room (by omega)).trans ?_
  refine (c_room (by omega)).trans ?_
  refine (h5 _).trans ?_
  refine (h6 _).trans ?_
  refine (h7 _).trans ?_
  refine (c_npos (p := (0 : Int) = 0) rfl).trans ?_
  refine (c_npos (p := (0 : Int) = 0) rfl).trans ?_
  refine (c_npos (p := (0 : Int) = 0) rfl).trans ?_
  simp only [e1, e2, decide_true, Bool.and_true, Bool.not_true, c_f]
  refine (c_inb (by omega)).trans ?_
  refine (c_inb (by omega)).trans ?_
  refine (h8 _).trans ?_
  refine (r1 _).trans ?_
  refine (r2 _).trans ?_
  refine (r3 _).trans ?_
  refine (r4 _).trans ?_
  simp only [decide_true, Bool.and_true, c_t]
  exact h9 _

theorem adds_heavy {β : Type} {c1 : T_law42_ranges} {c2 : T_law42_sane} {c3 : T_made_Light} {c4 : T_made_Roll} {c5 : T_review_Rank} {c6 : T_review_Sum} {p1 : law42_ReviewAdds_p1_T} {t : List Int} {k : Bool → Option β}
    (h1 : ∀ k, (c3 t k : Option β) = k false) (h9 : ∀ k, (c2 k : Option β) = k true) : law42_ReviewAdds_s c1 c2 c3 c4 c5 c6 p1 t k = k true := by
  unfold law42_ReviewAdds_s
  exact (h1 _).trans (h9 _)

theorem sumR_bd {l : List Rg} (h : RgsOk l) : 0 ≤ (sumR l).1 ∧ (sumR l).1 ≤ 1000000 * l.length ∧ 0 ≤ (sumR l).2 ∧ (sumR l).2 ≤ 1000000 * l.length := by
  have key : ∀ (l : List Rg), (∀ r ∈ l, 0 ≤ r.1 ∧ r.1 ≤ r.2 ∧ r.2 ≤ 1000000) → 0 ≤ (sumR l).1 ∧ (sumR l).1 ≤ 1000000 * l.length ∧ 0 ≤ (sumR l).2 ∧ (sumR l).2 ≤ 1000000 * l.length := by
    intro l
    induction l with
    | nil => intro _; simp [sumR]
    | cons r l ih =>
      intro h
      have h1 := ih fun r hr => h r (by simp [hr])
      have h2 := h r (by simp)
      have e : sumR (r :: l) = (r.1 + (sumR l).1, r.2 + (sumR l).2) := by
        have := sumR_append [r] l
        simpa [sumR] using this
      rw [e]
      simp only [List.length_cons]
      omega
  exact key l h.ok

theorem reviewAdds {β : Type} (t : List Int) (k : Bool → Option β) : law42_ReviewAdds t k = k true := by
  unfold law42_ReviewAdds
  by_cases hl : (t.length : Int) ≤ 500
  · obtain ⟨d1, a, xa, hd1, ma, la1, la2, fa⟩ := ranges_ok (roll_ok hl)
    obtain ⟨d2, b, xb, hd2, mb, lb1, lb2, fb⟩ := ranges_ok hd1
    have ha : RgsOk a := ⟨by omega, ma.ok⟩
    have hb : RgsOk b := ⟨by omega, mb.ok⟩
    have hab := ha.append hb (by omega)
    have hba := hb.append ha (by omega)
    have sa := sumR_bd ha
    have sb := sumR_bd hb
    have hlen : (b ++ a).length = (a ++ b).length := by simp; omega
    have hn : 1 ≤ (a ++ b).length := by simp; omega
    have hp : (a ++ b).Perm (b ++ a) := List.perm_append_comm
    have hlo : sortInts (lows (b ++ a)) = sortInts (lows (a ++ b)) := sort_eq (hp.symm.map _)
    have hhi : sortInts (highs (b ++ a)) = sortInts (highs (a ++ b)) := sort_eq (hp.symm.map _)
    have g1 : (lows (a ++ b)).length = (a ++ b).length := by simp [lows]
    have g2 : (highs (a ++ b)).length = (a ++ b).length := by simp [highs]
    have e0 : (a ++ b).getD 0 rd0 = ((lows (a ++ b)).getD 0 0, (highs (a ++ b)).getD 0 0) := by
      cases hq : a ++ b with
      | nil => rw [hq] at hn; simp at hn
      | cons r l => rfl
    have p1 := fun (k1 : law42_ReviewAdds_p1_K1 β) => adds_p1 (all := a ++ b) (back := b ++ a) (by simp; omega) (((a ++ b).getD 0 rd0).1, ((a ++ b).getD 0 rd0).2, ((a ++ b).getD 0 rd0).1, ((a ++ b).getD 0 rd0).2) k1
    rw [ext4_fold, e0] at p1
    rw [← least_eq (by omega), ← least_eq (by omega), ← most_eq (by omega), ← most_eq (by omega), g1, g2] at p1
    have rf := rank_first hn
    have rl := rank_last hn
    have rh := rank_half hn
    refine adds_gen (c1 := @law42_ranges) (c2 := @law42_sane) (c3 := @made_Light) (c4 := @made_Roll) (c5 := @review_Rank) (c6 := @review_Sum) (p1 := @law42_ReviewAdds_p1) ⟨la1, la2⟩ ⟨lb1, lb2⟩ (by omega) (by omega)
      (fun k => (light_eq t k).trans (by rw [decide_eq_true hl])) (fun k => roll_eq t k) (fun k => fa k) (fun k => fb k) (fun k => vSum ha k) (fun k => vSum hb k) (fun k => (vSum hab k).trans (by rw [sumR_append]))
      (by rw [e0]; exact p1)
      (fun k => (vRank hab (by omega) (by omega) hn (by rw [rf]; omega) k).trans (by rw [rf]; rfl))
      (fun k => (vRank hab (by omega) (by omega) hn (by rw [rl]; omega) k).trans ?_)
      (fun k => vRank hab (by omega) (by omega) hn rh k)
      (fun k => (vRank hba (by omega) (by omega) (by omega) (by rw [hlen]; exact rh) k).trans (by rw [hlen, hlo, hhi]))
      (fun k => sane42 k)
    rw [rl]
    have : ((((a ++ b).length : Nat) : Int) - 1).toNat = (a ++ b).length - 1 := by omega
    rw [this]
  · exact adds_heavy (c3 := @made_Light) (c2 := @law42_sane) (fun k => (light_eq t k).trans (by rw [decide_eq_false hl])) (fun k => sane42 k)
end
end Go.Lift
