/- ReviewWithin in plain Lean. -/
import Derived.Test.YtmghopaimcoloaaFn0
import Derived.Test.YtmghopaimcoloaaLBase
import Derived.Test.YtmghopaimcoloaaLDice
import Derived.Test.YtmghopaimcoloaaLReview
import Derived.Test.YtmghopaimcoloaaLReview2
import Derived.Test.YtmghopaimcoloaaLReview3
namespace Go.Lift
open Go.RowKit Go.IntWalk
noncomputable section
set_option linter.unusedVariables false
set_option linter.unusedSimpArgs false
set_option maxRecDepth 10000

abbrev rv0 : api_Review := (0, ((0, 0), ((0, 0), ((0, 0), (0, (0, 0))))))
abbrev mkR (r : Rg) : api_Review := (0, (r, ((0, 0), ((0, 0), (0, (0, 0))))))
def inC (lim : Int) (r : Rg) : Bool := decide (0 ≤ r.2 ∧ r.2 ≤ lim)
def inP (lim : Int) (r : Rg) : Bool := decide (0 ≤ r.2 ∧ r.1 ≤ lim)
def cntC (lim : Int) (l : List Rg) : Int := (l.countP (inC lim) : Nat)
def cntP (lim : Int) (l : List Rg) : Int := (l.countP (inP lim) : Nat)
def wStep (lim : Int) (p : Int × Int) (r : api_Review) : Int × Int := (if 0 ≤ r.2.1.2 ∧ r.2.1.2 ≤ lim then p.1 + 1 else p.1, if 0 ≤ r.2.1.2 ∧ r.2.1.1 ≤ lim then p.2 + 1 else p.2)

theorem cntC_cons (lim : Int) (r : Rg) (l : List Rg) : cntC lim (r :: l) = cntC lim l + (if 0 ≤ r.2 ∧ r.2 ≤ lim then 1 else 0) := by
  simp only [cntC, List.countP_cons]
  by_cases h : 0 ≤ r.2 ∧ r.2 ≤ lim
  · have h2 : inC lim r = true := decide_eq_true h
    rw [h2, if_pos h]
    simp
  · have h2 : inC lim r = false := decide_eq_false h
    rw [h2, if_neg h]
    simp
theorem cntP_cons (lim : Int) (r : Rg) (l : List Rg) : cntP lim (r :: l) = cntP lim l + (if 0 ≤ r.2 ∧ r.1 ≤ lim then 1 else 0) := by
  simp only [cntP, List.countP_cons]
  by_cases h : 0 ≤ r.2 ∧ r.1 ≤ lim
  · have h2 : inP lim r = true := decide_eq_true h
    rw [h2, if_pos h]
    simp
  · have h2 : inP lim r = false := decide_eq_false h
    rw [h2, if_neg h]
    simp

theorem wStep_fold (lim : Int) : ∀ (l : List Rg) (p : Int × Int), (l.map mkR).foldl (wStep lim) p = (p.1 + cntC lim l, p.2 + cntP lim l)
  | [], p => by simp [cntC, cntP]
  | r :: l, p => by
    rw [List.map_cons, List.foldl_cons, wStep_fold lim l, cntC_cons, cntP_cons]
    simp only [wStep, Prod.ext_iff]
    constructor
    · split <;> omega
    · split <;> omega

theorem within_t {β : Type} {l : List Rg} (hl : l.length ≤ 200) (lim : Int) (k : Int → Int → Option β) : review_Within (l.map mkR) lim k = k (cntC lim l) (cntP lim l) := by
  have key := fold_loopI (fun i (p : Int × Int) => 0 ≤ p.1 ∧ p.1 ≤ i ∧ 0 ≤ p.2 ∧ p.2 ≤ i) (fun m i (p : Int × Int) => review_Within_p2_n m (fun a b => k a b) lim p.1 p.2 (l.map mkR) ((l.map mkR).length : Int) i)
    (wStep lim) (fun p => k p.1 p.2) rv0 (l.map mkR) (0, 0) fuel (lt_fuel (by simp; omega)) (by simp)
    (fun i p hi hp => by
      generalize (l.map mkR).getD i rv0 = e
      have h1 : (wStep lim p e).1 = p.1 ∨ (wStep lim p e).1 = p.1 + 1 := by simp only [wStep]; split <;> simp
      have h2 : (wStep lim p e).2 = p.2 ∨ (wStep lim p e).2 = p.2 + 1 := by simp only [wStep]; split <;> simp
      omega)
    (fun m i p hi hp => by
      have hi' : i < l.length := by simpa using hi
      have e1 : IntKind.i64.wrap ((i : Int) + 1) = i + 1 := i64_in _ (by omega)
      have e2 : IntKind.i64.wrap (p.1 + 1) = p.1 + 1 := i64_in _ (by omega)
      have e3 : IntKind.i64.wrap (p.2 + 1) = p.2 + 1 := i64_in _ (by omega)
      generalize he : (l.map mkR).getD i rv0 = e
      simp only [review_Within_p2_step, review_Within_p2_s, review_Within_p1, review_Within_p1_u, review_Within_p1_s, Int.toNat_natCast, he, e1, e2, e3]
      refine (c_pos (by omega)).trans ?_
      refine (c_inb (by omega)).trans ?_
      by_cases h1 : e.2.1.2 < 0
      · refine (c_pos h1).trans ?_
        have : wStep lim p e = p := by simp only [wStep]; rw [if_neg (by omega), if_neg (by omega)]
        rw [this]
      · refine (c_neg h1).trans ?_
        by_cases h2 : e.2.1.2 ≤ lim <;> by_cases h3 : e.2.1.1 ≤ lim
        · have : wStep lim p e = (p.1 + 1, p.2 + 1) := by simp only [wStep]; rw [if_pos (by omega), if_pos (by omega)]
          rw [this, c_pos h2, c_pos h3]
        · have : wStep lim p e = (p.1 + 1, p.2) := by simp only [wStep]; rw [if_pos (by omega), if_neg (by omega)]
          rw [this, c_pos h2, c_neg h3]
        · have : wStep lim p e = (p.1, p.2 + 1) := by simp only [wStep]; rw [if_neg (by omega), if_pos (by omega)]
          rw [this, c_neg h2, c_pos h3]
        · have : wStep lim p e = (p.1, p.2) := by simp only [wStep]; rw [if_neg (by omega), if_neg (by omega)]
          rw [this, c_neg h2, c_neg h3])
    (fun m p hp => by
      simp only [review_Within_p2_step, review_Within_p2_s]
      rw [c_neg (by omega)])
  rw [wStep_fold] at key
  unfold review_Within review_Within_s review_Within_p2
  refine key.trans ?_
  simp

/-- Exact times. -/
def exR (r : Rg) : Rg := (r.1, r.1)

theorem within_p1 {β : Type} {rs : List Rg} (hl : rs.length ≤ 7) (limit more : Int) (k1 : law42_ReviewWithin_p1_K1 β) :
    law42_ReviewWithin_p1 k1 limit more (rs.length : Int) 0 [] [] rs = k1 limit more (rs.map mkR) ((rs.map exR).map mkR) := by
  have key := fold_loopI (fun i (p : List api_Review × List api_Review) => p.1.length = i ∧ p.2.length = i) (fun m i (p : List api_Review × List api_Review) => law42_ReviewWithin_p1_n m k1 limit more (rs.length : Int) i p.1 p.2 rs)
    (fun p r => (p.1 ++ [mkR r], p.2 ++ [mkR (exR r)])) (fun p => k1 limit more p.1 p.2) rd0 rs ([], []) fuel (lt_fuel (by omega)) ⟨rfl, rfl⟩
    (fun i p hi hp => by simp; omega)
    (fun m i p hi hp => by
      have e1 : IntKind.i64.wrap ((i : Int) + 1) = i + 1 := i64_in _ (by omega)
      simp only [law42_ReviewWithin_p1_step, law42_ReviewWithin_p1_s, Int.toNat_natCast]
      refine (c_pos (by omega)).trans ?_
      refine (c_inb (by omega)).trans ?_
      refine (c_room (by simp only [List.length_cons, List.length_nil]; omega)).trans ?_
      refine (c_room (by simp only [List.length_cons, List.length_nil]; omega)).trans ?_
      rw [e1]
      rfl)
    (fun m p hp => by
      simp only [law42_ReviewWithin_p1_step, law42_ReviewWithin_p1_s]
      rw [c_neg (by omega)])
  have hfold : ∀ (l : List Rg) (p : List api_Review × List api_Review), l.foldl (fun p r => (p.1 ++ [mkR r], p.2 ++ [mkR (exR r)])) p = (p.1 ++ l.map mkR, p.2 ++ (l.map exR).map mkR) := by
    intro l
    induction l with
    | nil => intro p; simp
    | cons r l ih => intro p; rw [List.foldl_cons, ih]; simp
  rw [hfold] at key
  unfold law42_ReviewWithin_p1
  exact key

theorem within_gen {β : Type} {c1 : T_law42_ranges} {c2 : T_law42_sane} {c3 : T_made_Light} {c4 : T_made_Roll} {c5 : T_review_Within} {p1 : law42_ReviewWithin_p1_T} {t : List Int} {limit more : Int} {k : Bool → Option β}
    {d1 : List Int × Int} {rs : List Rg} {xs : List Int} {a b p q u v : Int} (hrs : rs.length ≤ 7) (hlim : 0 ≤ limit ∧ limit ≤ 255) (hmore : 0 ≤ more ∧ more ≤ 255)
    (h1 : ∀ k, (c3 t k : Option β) = k true) (h2 : ∀ k, (c4 t k : Option β) = k (t, 0)) (h3 : ∀ k, (c1 (t, 0) k : Option β) = k d1 rs xs)
    (h4 : ∀ k1, (p1 k1 limit more (rs.length : Int) 0 [] [] rs : Option β) = k1 limit more (rs.map mkR) ((rs.map exR).map mkR))
    (h5 : ∀ k, (c5 (rs.map mkR ++ [mkR (0, -1)]) limit k : Option β) = k a b) (h6 : ∀ k, (c5 (rs.map mkR ++ [mkR (0, -1)]) (limit + more) k : Option β) = k p q) (h7 : ∀ k, (c5 ((rs.map exR).map mkR) limit k : Option β) = k u v)
    (hab : a ≤ b) (hb : b < rs.length + 1) (hap : a ≤ p) (hbq : b ≤ q) (huv : u = v) (hvb : v = b)
    (h9 : ∀ k, (c2 k : Option β) = k true) : law42_ReviewWithin_s c1 c2 c3 c4 c5 p1 t limit more k = k true := by
  have e1 : IntKind.i64.wrap limit = limit := i64_in _ (by omega)
  have e2 : IntKind.i64.wrap more = more := i64_in _ (by omega)
  have e3 : IntKind.i64.wrap (limit + more) = limit + more := i64_in _ (by omega)
  unfold law42_ReviewWithin_s
  refine (h1 _).trans ?_
  refine (h2 _).trans ?_
  refine (h3 _).trans ?_
  refine (h4 _).trans ?_
  refine (c_room (by simp only [List.length_map, List.length_cons, List.length_nil]; omega)).trans ?_
  simp only [e1, e2, e3]
  refine (h5 _).trans ?_
  refine (h6 _).trans ?_
  refine (h7 _).trans ?_
  refine (c_pos hab).trans ?_
  refine (c_pos (by simp only [List.length_append, List.length_map, List.length_cons, List.length_nil]; omega)).trans ?_
  refine (c_pos hap).trans ?_
  refine (c_pos hbq).trans ?_
  refine (c_pos huv).trans ?_
  refine (c_pos hvb).trans ?_
  exact h9 _

theorem within_heavy {β : Type} {c1 : T_law42_ranges} {c2 : T_law42_sane} {c3 : T_made_Light} {c4 : T_made_Roll} {c5 : T_review_Within} {p1 : law42_ReviewWithin_p1_T} {t : List Int} {limit more : Int} {k : Bool → Option β}
    (h1 : ∀ k, (c3 t k : Option β) = k false) (h9 : ∀ k, (c2 k : Option β) = k true) : law42_ReviewWithin_s c1 c2 c3 c4 c5 p1 t limit more k = k true := by
  unfold law42_ReviewWithin_s
  exact (h1 _).trans (h9 _)

theorem cnt_le {p q : Rg → Bool} {l : List Rg} (h : ∀ r ∈ l, p r = true → q r = true) : ((l.countP p : Nat) : Int) ≤ (l.countP q : Nat) :=
  Int.ofNat_le.2 (List.countP_mono_left h)

theorem reviewWithin {β : Type} (t : List Int) {limit more : Int} (hlim : 0 ≤ limit ∧ limit ≤ 255) (hmore : 0 ≤ more ∧ more ≤ 255) (k : Bool → Option β) : law42_ReviewWithin t limit more k = k true := by
  unfold law42_ReviewWithin
  by_cases hl : (t.length : Int) ≤ 500
  · obtain ⟨d1, rs, xs, hd1, ma, la1, la2, fa⟩ := ranges_ok (roll_ok hl)
    have hall : rs.map mkR ++ [mkR (0, -1)] = (rs ++ [(0, -1)]).map mkR := by simp
    have hC : ∀ lim, cntC lim (rs ++ [(0, -1)]) = cntC lim rs := fun lim => by
      simp [cntC, inC]
    have hP : ∀ lim, cntP lim (rs ++ [(0, -1)]) = cntP lim rs := fun lim => by
      simp [cntP, inP]
    have hex : ∀ lim, cntC lim (rs.map exR) = cntP lim rs ∧ cntP lim (rs.map exR) = cntP lim rs := fun lim => by
      have key : ∀ l : List Rg, (∀ r ∈ l, 0 ≤ r.1 ∧ r.1 ≤ r.2 ∧ r.2 ≤ 1000000) → cntC lim (l.map exR) = cntP lim l ∧ cntP lim (l.map exR) = cntP lim l := by
        intro l
        induction l with
        | nil => intro _; exact ⟨rfl, rfl⟩
        | cons r l ih =>
          intro h
          have h1 := ih fun r hr => h r (by simp [hr])
          have h2 := h r (by simp)
          rw [List.map_cons, cntC_cons, cntP_cons, cntP_cons]
          by_cases h3 : r.1 ≤ lim
          · rw [if_pos (show 0 ≤ (exR r).2 ∧ (exR r).2 ≤ lim from ⟨h2.1, h3⟩), if_pos (show 0 ≤ (exR r).2 ∧ (exR r).1 ≤ lim from ⟨h2.1, h3⟩), if_pos (show 0 ≤ r.2 ∧ r.1 ≤ lim by omega)]
            omega
          · rw [if_neg (show ¬ (0 ≤ (exR r).2 ∧ (exR r).2 ≤ lim) from fun h => h3 h.2), if_neg (show ¬ (0 ≤ (exR r).2 ∧ (exR r).1 ≤ lim) from fun h => h3 h.2), if_neg (show ¬ (0 ≤ r.2 ∧ r.1 ≤ lim) by omega)]
            omega
      exact key rs ma.ok
    have hcp : ((rs.countP (inP limit) : Nat) : Int) ≤ rs.length := Int.ofNat_le.2 List.countP_le_length
    refine within_gen (c1 := @law42_ranges) (c2 := @law42_sane) (c3 := @made_Light) (c4 := @made_Roll) (c5 := @review_Within) (p1 := @law42_ReviewWithin_p1) (a := cntC limit rs) (b := cntP limit rs) (p := cntC (limit + more) rs) (q := cntP (limit + more) rs) (u := cntP limit rs) (v := cntP limit rs) la2 hlim hmore
      (fun k => (light_eq t k).trans (by rw [decide_eq_true hl])) (fun k => roll_eq t k) (fun k => fa k) (fun k1 => within_p1 la2 limit more k1)
      (fun k => by rw [hall]; exact (within_t (by simp; omega) limit k).trans (by rw [hC, hP]))
      (fun k => by rw [hall]; exact (within_t (by simp; omega) (limit + more) k).trans (by rw [hC, hP]))
      (fun k => (within_t (by simp; omega) limit k).trans (by rw [(hex limit).1, (hex limit).2]))
      ?_ ?_ ?_ ?_ rfl rfl (fun k => sane42 k)
    · refine cnt_le fun r hr h => ?_
      have := ma.ok r hr
      simp only [inC, inP, decide_eq_true_eq] at h ⊢
      omega
    · simp only [cntP]; omega
    · refine cnt_le fun r hr h => ?_
      simp only [inC, decide_eq_true_eq] at h ⊢
      omega
    · refine cnt_le fun r hr h => ?_
      simp only [inP, decide_eq_true_eq] at h ⊢
      omega
  · exact within_heavy (c3 := @made_Light) (c2 := @law42_sane) (fun k => (light_eq t k).trans (by rw [decide_eq_false hl])) (fun k => sane42 k)
end
end Go.Lift
