/- Part9: LOf, LRevExact. -/
import Derived.Test.YtfgmlgnpnoijcadGreatPart8
set_option linter.unusedVariables false
set_option linter.unusedSimpArgs false
namespace Go.Lift
open Go.RowKit Go.IntWalk
noncomputable section
set_option linter.unusedVariables false
set_option linter.unusedSimpArgs false
set_option maxRecDepth 10000
theorem Qm3 (l : List (Int × Bool)) (a b : Int) : mGet (.int .i64) (mPut (.int .i64) l a true) b false = if a = b then true else mGet (.int .i64) l b false := by
 induction l with
 | nil =>
  simp only [mPut, mGet, Q2g]
  by_cases h : a = b <;> simp [h]
 | cons y l ih =>
  simp only [mPut]
  by_cases h : y.1 = a
  ·simp only [Q2g, decide_eq_true h, cond_true, mGet]
   by_cases hb : a = b
   ·simp [hb]
   ·have : ¬ y.1 = b := by rw [h]; exact hb
    simp [hb, this]
  ·simp only [Q2g, decide_eq_false h, cond_false, mGet]
   rw [ih]
   by_cases hb : y.1 = b
   ·have : ¬ a = b := by intro h2; exact h (hb.trans h2.symm)
    simp [hb, this]
   ·simp [hb]
theorem Q5p {α : Type} {l : List α} {i : Nat} (h : i < l.length) (d : α) : l.drop i = l.getD i d :: l.drop (i + 1) := by
 rw [List.drop_eq_getElem_cons h]
 simp [List.getD, h]
def cntF (c : Int) (s : Int × (Int × List Int)) : Int := IntKind.i64.wrap (c + (s.2.2.length : Int))
def Q5j (x : Inc) (p : zqy) : Int := if IntKind.i64.wrap (p.2.2.2.2.2.2.2.2.1 - x.2.2.2.1) > 0 then IntKind.i64.wrap (p.2.2.2.2.2.2.2.2.1 - x.2.2.2.1) else 0
theorem Qnr (x : Inc) (p : zqy) : (if (0 : Int) > IntKind.i64.wrap (p.2.2.2.2.2.2.2.2.1 - x.2.2.2.1) then 0 else IntKind.i64.wrap (p.2.2.2.2.2.2.2.2.1 - x.2.2.2.1)) = Q5j x p := by unfold Q5j; split <;> split <;> omega
theorem Qm4 (x : Inc) (p : zqy) : 0 ≤ Q5j x p := by unfold Q5j; split <;> omega
def ackF (x : Inc) (a : Int × Int) (p : zqy) : Int × Int := if p.2.2.2.2.2.1 = 1 then (if a.2 < 0 then (Q5j x p, Q5j x p) else if Q5j x p < a.1 then (Q5j x p, Q5j x p) else a) else a
def advF (x : Inc) (s : zqu × List Int) (p : zqy) : zqu × List Int := ((s.1.1, (ackF x s.1.2.1 p, (s.1.2.2.1, (s.1.2.2.2.1, (IntKind.i64.wrap (s.1.2.2.2.2.1 + 1), (p.2.2.2.2.2.2.2.2.2.2.2.1.foldl cntF s.1.2.2.2.2.2.1, IntKind.i64.wrap (s.1.2.2.2.2.2.2 + (p.2.2.2.2.2.2.2.2.2.2.2.2.1.length : Int)))))))), s.2 ++ [p.1])
def pgF (x : Inc) (s : zqu × List Int) (p : zqy) : zqu × List Int :=
 if p.1 ∈ x.2.2.2.2.2.2.1 then (if p.1 ∈ s.2 then s else advF x s p) else s
def mitF (x : Inc) (o : zqu) (c : IChg) : zqu := if c.2.1 = 1 then (if o.2.2.1.2 < 0 then (o.1, (o.2.1, ((IntKind.i64.wrap (c.1 - x.2.2.2.1), IntKind.i64.wrap (c.1 - x.2.2.2.1)), o.2.2.2))) else o) else o
def resF (x : Inc) (o : zqu) (c : IChg) : zqu := if c.2.1 = 2 then (if x.2.1 = 2 then (o.1, (o.2.1, (o.2.2.1, ((IntKind.i64.wrap (c.1 - x.2.2.2.1), IntKind.i64.wrap (c.1 - x.2.2.2.1)), o.2.2.2.2)))) else (if x.2.1 = 3 then (o.1, (o.2.1, (o.2.2.1, ((IntKind.i64.wrap (c.1 - x.2.2.2.1), IntKind.i64.wrap (c.1 - x.2.2.2.1)), o.2.2.2.2)))) else o)) else o
def chF (x : Inc) (o : zqu) (c : IChg) : zqu := resF x (mitF x o c) c
def ofW (x : Inc) (ps : List zqy) : zqu := x.ch.foldl (chF x) (ps.foldl (pgF x) ((x.1, ((0, -1), ((0, -1), ((0, -1), (0, (0, 0)))))), [])).1
def TimeOk (a : Int × Int) : Prop := (a.1 = 0 ∧ a.2 = -1) ∨ (0 ≤ a.1 ∧ 0 ≤ a.2)
theorem TimeOk.two {n : Int} (h : 0 ≤ n) : TimeOk (n, n) := Or.inr ⟨h, h⟩
theorem Qok (x : Inc) {a : Int × Int} (h : TimeOk a) (p : zqy) : TimeOk (ackF x a p) := by
 have := TimeOk.two (Qm4 x p)
 unfold ackF
 repeat' split
 all_goals assumption
theorem Qns (x : Inc) (o : zqu) (c : IChg) : (resF x o c).2.2.1 = o.2.2.1 := by
 unfold resF
 repeat' split
 all_goals rfl
theorem Qku (x : Inc) : ∀ (ps : List zqy) (s : zqu × List Int), (ps.foldl (pgF x) s).1.2.2.1 = s.1.2.2.1
 | [], _ => rfl
 | p :: ps, s => by
  rw [List.foldl_cons, Qku x ps]
  unfold pgF
  repeat' split
  all_goals rfl
section
variable {β : Type} {G : Option β → Prop} {x : Inc}
theorem Qhv {a : Int × Int} (ha : TimeOk a) {A B : Option β} (h1 : a.2 < 0 → G A) (h2 : ¬ a.2 < 0 → G B) : G (cond (decide (a.1 = 0) && (decide (a.2 = -1) && true)) A B) := by
 refine w_c (fun h => h1 ?_) (fun h => h2 ?_)
 ·simp only [Bool.and_eq_true, decide_eq_true_eq] at h
  omega
 ·rcases ha with ⟨e1, e2⟩ | ⟨e1, e2⟩
  ·rw [e1, e2] at h
   exact absurd h (by decide)
  ·omega
theorem Qmd {l : List (Int × (Int × List Int))} (hl : l.length ≤ 1000) {ps : List zqy} {u v : Int} {t4 : zqu} {o1 o5 o7 : Int} {o2 o3 o4 : Int × Int} {seen : List (Int × Bool)} {p : zqy} {k1 : zq18n β} :
  ∀ (m i : Nat) (n : Int), i ≤ l.length → l.length - i < m → G (k1 ps u v x t4 (o1, (o2, (o3, (o4, (o5, ((l.drop i).foldl cntF n, o7)))))) seen p) → G (zq190 m k1 ps u v l (l.length : Int) (i : Int) x t4 (o1, (o2, (o3, (o4, (o5, (n, o7)))))) seen p)
 | 0, _, _, _, h, _ => absurd h (Nat.not_lt_zero _)
 | m + 1, i, n, h0, hm, hk => by
  rw [zq191]
  unfold zq18z
  refine w_d (fun h => ?_) (fun h => ?_)
  ·refine w_i (by omega) ?_
   rw [Q5p (by omega) ((0 : Int), ((0 : Int), ([] : List Int)))] at hk
   have := Qmd hl (ps := ps) (u := u) (v := v) (t4 := t4) (seen := seen) (p := p) m (i + 1) _ (by omega) (by omega) hk
   have e := i64_in ((i : Int) + 1) (by omega)
   show G (zq190 m k1 ps u v l (l.length : Int) (IntKind.i64.wrap ((i : Int) + 1)) x t4 _ seen p)
   rw [e]
   exact this
  ·rw [List.drop_eq_nil_of_le (by omega)] at hk
   exact hk
theorem Qkv {p : zqy} (hl : p.2.2.2.2.2.2.2.2.2.2.2.1.length ≤ 1000) {ps : List zqy} {u : Int} {t4 : zqu} {o1 o5 o7 : Int} {o2 o3 o4 : Int × Int} {seen : List Int} {k1 : zqz0 β} :
  ∀ (m i : Nat) (n : Int), i ≤ p.2.2.2.2.2.2.2.2.2.2.2.1.length → p.2.2.2.2.2.2.2.2.2.2.2.1.length - i < m → G (k1 ps u x t4 (o1, (o2, (o3, (o4, (o5, ((p.2.2.2.2.2.2.2.2.2.2.2.1.drop i).foldl cntF n, o7)))))) seen p) → G (zqza m k1 ps u (i : Int) x t4 (o1, (o2, (o3, (o4, (o5, (n, o7)))))) seen p)
 | 0, _, _, _, h, _ => absurd h (Nat.not_lt_zero _)
 | m + 1, i, n, h0, hm, hk => by
  rw [zqzb]
  unfold zqz9
  refine w_d (fun h => ?_) (fun h => ?_)
  ·refine w_i (by omega) ?_
   rw [Q5p (by omega) ((0 : Int), ((0 : Int), ([] : List Int)))] at hk
   have := Qkv hl (ps := ps) (u := u) (t4 := t4) (seen := seen) m (i + 1) _ (by omega) (by omega) hk
   have e := i64_in ((i : Int) + 1) (by omega)
   show G (zqza m k1 ps u (IntKind.i64.wrap ((i : Int) + 1)) x t4 _ seen p)
   rw [e]
   exact this
  ·rw [List.drop_eq_nil_of_le (by omega)] at hk
   exact hk
abbrev pg0 : zqy := ((0 : Int), ((0 : Int), ((0 : Int), ((0 : Int), ((0 : Int), ((0 : Int), ((0 : Int), ((0 : Int), ((0 : Int), ((0 : Int), ((0 : Int), (([] : List (Int × (Int × List Int))), (([] : List Int), ([] : List Int))))))))))))))
theorem Qme (hx : x.2.2.2.2.2.2.1.length ≤ 1000) {ps : List zqy} (hl : ps.length ≤ 1000) (hp : ∀ p ∈ ps, p.2.2.2.2.2.2.2.2.2.2.2.1.length ≤ 1000) {t4 : zqu} {k1 : zq18h β} :
  ∀ (m i : Nat) (s : zqu × List Int) (mp : List (Int × Bool)), i ≤ ps.length → s.2.length ≤ i → TimeOk s.1.2.1 → (∀ j, mGet (.int .i64) mp j false = decide (j ∈ s.2)) → ps.length - i < m → G (k1 x t4 ((ps.drop i).foldl (pgF x) s).1) → G (zq195 m k1 ps (ps.length : Int) (i : Int) x t4 s.1 mp)
 | 0, _, _, _, _, _, _, _, h, _ => absurd h (Nat.not_lt_zero _)
 | m + 1, i, s, mp, h0, hs, ha, hg, hm, hk => by
  rw [zq196]
  unfold zq194 zq192 zq3x zq41
  simp only [Q0]
  unfold zq3w zq40
  refine w_d (fun h => ?_) (fun h => ?_)
  ·rw [Q5p (by omega) pg0, List.foldl_cons] at hk
   have hq := hp (ps.getD i pg0) (Q14 (by omega))
   have e := i64_in ((i : Int) + 1) (by omega)
   have go : ∀ s' mp' o, pgF x s (ps.getD i pg0) = s' → o = s'.1 → s'.2.length ≤ i + 1 → TimeOk s'.1.2.1 → (∀ j, mGet (.int .i64) mp' j false = decide (j ∈ s'.2)) → G (zq195 m k1 ps (ps.length : Int) (IntKind.i64.wrap ((i : Int) + 1)) x t4 o mp') := fun s' mp' o h' ho hs' ha' hg' => by
    rw [h'] at hk
    rw [e, ho]
    exact Qme hx hl hp m (i + 1) s' mp' (by omega) hs' ha' hg' (by omega) hk
   refine w_i (by omega) (w_c (fun h1 => ?_) (fun h1 => ?_))
   ·have h1 : (ps.getD i pg0).1 ∈ s.2 := of_decide_eq_true ((hg _).symm.trans h1)
    refine go s mp _ ?_ rfl (by omega) ha hg
    unfold pgF
    by_cases h2 : (ps.getD i pg0).1 ∈ x.2.2.2.2.2.2.1
    ·exact (if_pos h2).trans (if_pos h1)
    ·exact if_neg h2
   have h1 : ¬ (ps.getD i pg0).1 ∈ s.2 := of_decide_eq_false ((hg _).symm.trans h1)
   refine w_e (Qf9 _ (by omega) _ _) (w_nd (fun h2 => ?_) (fun h2 => ?_))
   ·exact go s mp _ (by unfold pgF; exact if_neg h2) rfl (by omega) ha hg
   refine Qmd hq _ 0 _ (by omega) (Q3 (by omega)) ?_
   have e2 : pgF x s (ps.getD i pg0) = advF x s (ps.getD i pg0) := by unfold pgF; exact (if_pos h2).trans (if_neg h1)
   have go2 := fun (a : Int × Int) (h : ackF x s.1.2.1 (ps.getD i pg0) = a) => go _ (mPut (.int .i64) mp (ps.getD i pg0).1 true) (s.1.1, (a, (s.1.2.2.1, (s.1.2.2.2.1, (IntKind.i64.wrap (s.1.2.2.2.2.1 + 1), ((ps.getD i pg0).2.2.2.2.2.2.2.2.2.2.2.1.foldl cntF s.1.2.2.2.2.2.1, IntKind.i64.wrap (s.1.2.2.2.2.2.2 + ((ps.getD i pg0).2.2.2.2.2.2.2.2.2.2.2.2.1.length : Int)))))))) e2 (by unfold advF; rw [h]) (by simp only [advF, List.length_append, List.length_singleton]; omega) (Qok x ha _) (fun j => by
     rw [Qm3, hg]
     by_cases hj : (ps.getD i pg0).1 = j
     ·rw [if_pos hj]
      exact (decide_eq_true (List.mem_append.2 (Or.inr (List.mem_singleton.2 hj.symm)))).symm
     ·rw [if_neg hj]
      exact decide_eq_decide.2 ⟨fun h => List.mem_append.2 (Or.inl h), fun h => (List.mem_append.1 h).elim id (fun h => absurd (List.mem_singleton.1 h).symm hj)⟩)
   unfold ackF at go2
   refine w_d (fun h3 => Qhv ha (fun h4 => ?_) (fun h4 => w_d (fun h5 => ?_) (fun h5 => ?_))) (fun h3 => ?_)
   ·exact go2 _ ((if_pos h3).trans (if_pos h4))
   ·exact go2 _ ((if_pos h3).trans ((if_neg h4).trans (if_pos h5)))
   ·exact go2 _ ((if_pos h3).trans ((if_neg h4).trans (if_neg h5)))
   ·exact go2 _ (if_neg h3)
  ·rw [List.drop_eq_nil_of_le (by omega)] at hk
   exact hk
theorem Qkw (hx : x.2.2.2.2.2.2.1.length ≤ 1000) {ps : List zqy} (hl : ps.length ≤ 1000) (hp : ∀ p ∈ ps, p.2.2.2.2.2.2.2.2.2.2.2.1.length ≤ 1000) {t4 : zqu} {k1 : zqyu β} :
  ∀ (m i : Nat) (s : zqu × List Int), i ≤ ps.length → s.2.length ≤ i → ps.length - i < m → G (k1 x t4 ((ps.drop i).foldl (pgF x) s).1) → G (zqzi m k1 ps (i : Int) x t4 s.1 s.2)
 | 0, _, _, _, _, h, _ => absurd h (Nat.not_lt_zero _)
 | m + 1, i, s, h0, hs, hm, hk => by
  rw [zqzj]
  unfold zqzh zqzf zq4m
  simp only [Q0]
  unfold zqze zq4l zqzc
  simp only [Q0]
  refine w_d (fun h => ?_) (fun h => ?_)
  ·rw [Q5p (by omega) pg0, List.foldl_cons] at hk
   have hq := hp (ps.getD i pg0) (Q14 (by omega))
   have e := i64_in ((i : Int) + 1) (by omega)
   have go : ∀ (s' : zqu × List Int) o l, pgF x s (ps.getD i pg0) = s' → o = s'.1 → l = s'.2 → s'.2.length ≤ i + 1 → G (zqzi m k1 ps (IntKind.i64.wrap ((i : Int) + 1)) x t4 o l) := fun s' o l h' ho hl' hs' => by
    rw [h'] at hk
    rw [e, ho, hl']
    exact Qkw hx hl hp m (i + 1) s' (by omega) hs' (by omega) hk
   refine w_i (by omega) (w_e (Q40 _ (by omega) _ _) (w_nd (fun h2 => ?_) (fun h2 => ?_)))
   ·exact go s _ _ (by unfold pgF; exact if_neg h2) rfl rfl (by omega)
   refine w_e (Q40 _ (by omega) _ _) (w_d (fun h1 => ?_) (fun h1 => ?_))
   ·exact go s _ _ (by unfold pgF; exact (if_pos h2).trans (if_pos h1)) rfl rfl (by omega)
   refine w_r (by simp only [List.length_singleton]; omega) ?_
   have e2 : pgF x s (ps.getD i pg0) = advF x s (ps.getD i pg0) := by unfold pgF; exact (if_pos h2).trans (if_neg h1)
   have go2 : ∀ a : Int × Int, ackF x s.1.2.1 (ps.getD i pg0) = a → G (zqza fuel (fun l2 i_2 x2 t42 out2 seen2 p_2 => zqzi m k1 l2 (IntKind.i64.wrap (i_2 + 1)) x2 t42 (out2.1, (out2.2.1, (out2.2.2.1, (out2.2.2.2.1, (IntKind.i64.wrap (out2.2.2.2.2.1 + 1), (out2.2.2.2.2.2.1, IntKind.i64.wrap (out2.2.2.2.2.2.2 + (p_2.2.2.2.2.2.2.2.2.2.2.2.2.1.length : Int)))))))) seen2) ps (i : Int) 0 x t4 (s.1.1, (a, (s.1.2.2.1, (s.1.2.2.2.1, (s.1.2.2.2.2.1, (s.1.2.2.2.2.2.1, s.1.2.2.2.2.2.2)))))) (s.2 ++ [(ps.getD i pg0).1]) (ps.getD i pg0)) := fun a h => by
    refine Qkv hq _ 0 _ (by omega) (Q3 (by omega)) ?_
    exact go _ _ _ e2 (by unfold advF; rw [h]; rfl) rfl (by simp only [advF, List.length_append, List.length_singleton]; omega)
   have hlate := Qnr x (ps.getD i pg0)
   unfold ackF at go2
   rw [← hlate] at go2
   refine w_d (fun h3 => w_d (fun h4 => ?_) (fun h4 => w_d (fun h5 => ?_) (fun h5 => ?_))) (fun h3 => ?_)
   ·exact go2 _ ((if_pos h3).trans (if_pos h4))
   ·exact go2 _ ((if_pos h3).trans ((if_neg h4).trans (if_pos h5)))
   ·exact go2 _ ((if_pos h3).trans ((if_neg h4).trans (if_neg h5)))
   ·exact go2 _ (if_neg h3)
  ·rw [List.drop_eq_nil_of_le (by omega)] at hk
   exact hk
theorem Qmf {l : List IChg} (hl : l.length ≤ 1000) (hn : ∀ c ∈ l, 0 ≤ IntKind.i64.wrap (c.1 - x.2.2.2.1)) {t4 : zqu} {k1 : zq18k β} :
  ∀ (m i : Nat) (o : zqu), i ≤ l.length → TimeOk o.2.2.1 → l.length - i < m → G (k1 t4 ((l.drop i).foldl (chF x) o)) → G (zq19j m k1 l (l.length : Int) (i : Int) x t4 o)
 | 0, _, _, _, _, h, _ => absurd h (Nat.not_lt_zero _)
 | m + 1, i, o, h0, ho, hm, hk => by
  rw [zq19k]
  simp only [zq19i, zq3x, zq3w, zq19g, zq19f, zq19d, zq19c, zq19a, zq199, zq41, zq40, Q0]
  refine w_d (fun h => ?_) (fun h => ?_)
  ·rw [Q5p (by omega) ((0 : Int), ((0 : Int), (0 : Int))), List.foldl_cons] at hk
   have hc := hn (l.getD i ((0 : Int), ((0 : Int), (0 : Int)))) (Q14 (by omega))
   have e := i64_in ((i : Int) + 1) (by omega)
   have go : ∀ o', chF x o (l.getD i ((0 : Int), ((0 : Int), (0 : Int)))) = o' → TimeOk o'.2.2.1 → G (zq19j m k1 l (l.length : Int) (IntKind.i64.wrap ((i : Int) + 1)) x t4 o') := fun o' h' ho' => by
    rw [h'] at hk
    rw [e]
    exact Qmf hl hn m (i + 1) o' (by omega) ho' (by omega) hk
   have go3 : ∀ o1, mitF x o (l.getD i ((0 : Int), ((0 : Int), (0 : Int)))) = o1 → TimeOk o1.2.2.1 → ∀ o2, resF x o1 (l.getD i ((0 : Int), ((0 : Int), (0 : Int)))) = o2 → G (zq19j m k1 l (l.length : Int) (IntKind.i64.wrap ((i : Int) + 1)) x t4 o2) := fun o1 h1 ho1 o2 h2 =>
    go o2 (by unfold chF; rw [h1, h2]) (by rw [← h2, Qns]; exact ho1)
   have two : ∀ o1, mitF x o (l.getD i ((0 : Int), ((0 : Int), (0 : Int)))) = o1 → TimeOk o1.2.2.1 → ∀ {A B C D : Option β}, (A = zq19j m k1 l (l.length : Int) (IntKind.i64.wrap ((i : Int) + 1)) x t4 (o1.1, (o1.2.1, (o1.2.2.1, ((IntKind.i64.wrap ((l.getD i ((0 : Int), ((0 : Int), (0 : Int)))).1 - x.2.2.2.1), IntKind.i64.wrap ((l.getD i ((0 : Int), ((0 : Int), (0 : Int)))).1 - x.2.2.2.1)), o1.2.2.2.2))))) → (B = zq19j m k1 l (l.length : Int) (IntKind.i64.wrap ((i : Int) + 1)) x t4 o1) → G (cond (decide ((l.getD i ((0 : Int), ((0 : Int), (0 : Int)))).2.1 = 2)) (cond (decide (x.2.1 = 2)) A (cond (decide (x.2.1 = 3)) A B)) B) := fun o1 h1 ho1 A B _ _ hA hB => by
    have g := go3 o1 h1 ho1
    unfold resF at g
    rw [hA, hB]
    refine w_d (fun a => w_d (fun b => ?_) (fun b => w_d (fun c => ?_) (fun c => ?_))) (fun a => ?_)
    ·exact g _ ((if_pos a).trans (if_pos b))
    ·exact g _ ((if_pos a).trans ((if_neg b).trans (if_pos c)))
    ·exact g _ ((if_pos a).trans ((if_neg b).trans (if_neg c)))
    ·exact g _ (if_neg a)
   unfold mitF at two
   refine w_i (by omega) (w_d (fun h1 => Qhv ho (fun h2 => ?_) (fun h2 => ?_)) (fun h1 => ?_))
   ·exact two _ ((if_pos h1).trans (if_pos h2)) (TimeOk.two hc) (C := none) (D := none) rfl rfl
   ·exact two _ ((if_pos h1).trans (if_neg h2)) ho (C := none) (D := none) rfl rfl
   ·exact two _ (if_neg h1) ho (C := none) (D := none) rfl rfl
  ·rw [List.drop_eq_nil_of_le (by omega)] at hk
   exact hk
theorem Qkx (hl : x.2.2.2.2.2.2.2.2.2.2.1.length ≤ 1000) {t4 : zqu} {k1 : zqyx β} :
  ∀ (m i : Nat) (o : zqu), i ≤ x.2.2.2.2.2.2.2.2.2.2.1.length → x.2.2.2.2.2.2.2.2.2.2.1.length - i < m → G (k1 t4 ((x.2.2.2.2.2.2.2.2.2.2.1.drop i).foldl (chF x) o)) → G (zqzq m k1 (i : Int) x t4 o)
 | 0, _, _, _, h, _ => absurd h (Nat.not_lt_zero _)
 | m + 1, i, o, h0, hm, hk => by
  rw [zqzr]
  simp only [zqzp, zqzn, zqzm, zq4m, zq4l, Q0]
  refine w_d (fun h => ?_) (fun h => ?_)
  ·rw [Q5p (by omega) ((0 : Int), ((0 : Int), (0 : Int))), List.foldl_cons] at hk
   have e := i64_in ((i : Int) + 1) (by omega)
   generalize hcc : x.2.2.2.2.2.2.2.2.2.2.1.getD i ((0 : Int), ((0 : Int), (0 : Int))) = c at hk
   have go : ∀ o1, mitF x o c = o1 → ∀ o2, resF x o1 c = o2 → G (zqzq m k1 (IntKind.i64.wrap ((i : Int) + 1)) x t4 o2) := fun o1 h1 o2 h2 => by
    unfold chF at hk
    rw [h1, h2] at hk
    rw [e]
    exact Qkx hl m (i + 1) o2 (by omega) (by omega) hk
   simp only [Int.toNat_natCast, hcc]
   have two : ∀ o1, mitF x o c = o1 → ∀ {A B : Option β}, (A = zqzq m k1 (IntKind.i64.wrap ((i : Int) + 1)) x t4 (o1.1, (o1.2.1, (o1.2.2.1, ((IntKind.i64.wrap (c.1 - x.2.2.2.1), IntKind.i64.wrap (c.1 - x.2.2.2.1)), o1.2.2.2.2))))) → (B = zqzq m k1 (IntKind.i64.wrap ((i : Int) + 1)) x t4 o1) → G (cond (decide (0 ≤ (i : Int)) && decide ((i : Int) < (x.2.2.2.2.2.2.2.2.2.2.1.length : Int))) (cond (decide (c.2.1 = 2)) (cond (decide (x.2.1 = 2)) A (cond (decide (x.2.1 = 3)) A B)) B) none) := fun o1 h1 A B hA hB => by
    have g := go o1 h1
    unfold resF at g
    rw [hA, hB]
    refine w_i (by omega) (w_d (fun a => w_d (fun b => ?_) (fun b => w_d (fun c => ?_) (fun c => ?_))) (fun a => ?_))
    ·exact g _ ((if_pos a).trans (if_pos b))
    ·exact g _ ((if_pos a).trans ((if_neg b).trans (if_pos c)))
    ·exact g _ ((if_pos a).trans ((if_neg b).trans (if_neg c)))
    ·exact g _ (if_neg a)
   unfold mitF at two
   refine w_i (by omega) (w_i (by omega) (w_d (fun h1 => w_d (fun h2 => ?_) (fun h2 => ?_)) (fun h1 => ?_)))
   ·exact two _ ((if_pos h1).trans (if_pos h2)) rfl rfl
   ·exact two _ ((if_pos h1).trans (if_neg h2)) rfl rfl
   ·exact two _ (if_neg h1) rfl rfl
  ·rw [List.drop_eq_nil_of_le (by omega)] at hk
   exact hk
theorem Qir (hc : Q49 x = true) : ∀ c ∈ x.ch, 0 ≤ IntKind.i64.wrap (c.1 - x.op) := by
 obtain ⟨-, -, hop, -, -, -, -, -, -, -, -, hg, -, -⟩ := Qif.1 hc
 intro c h
 obtain ⟨i, hi, rfl⟩ := List.getElem_of_mem h
 have h1 := Qf7 hg hi
 have h2 := Qf8 hg i (by omega)
 have e : x.ch.getD i (0, (0, 0)) = x.ch[i] := by simp [List.getD, hi]
 rw [e] at h1
 rw [i64_in _ (by omega)]
 omega
def ofV (x : Inc) (ps : List zqy) : zqu × Int := if Q49 x = true then (ofW x ps, 0) else (zq1e, 8)
theorem of_w (hs : Sz 200 x) {ps : List zqy} (hl : ps.length ≤ 1000) (hp : ∀ p ∈ ps, p.2.2.2.2.2.2.2.2.2.2.2.1.length ≤ 1000) {k : zqu → Int → Option β} (hk : G (k (ofV x ps).1 (ofV x ps).2)) : G (zq19o x ps k) := by
 have hx : x.2.2.2.2.2.2.1.length ≤ 1000 := by have := hs.pg; unfold Inc.pg at this; omega
 have hc : x.2.2.2.2.2.2.2.2.2.2.1.length ≤ 1000 := by have := hs.ch; unfold Inc.ch at this; omega
 unfold zq19o
 rw [Q0]
 unfold zq19n zq3x
 simp only [Q0]
 unfold zq3w
 refine w_e (Qji (hs.sized (by decide)) _) (w_nc (fun h => ?_) (fun h => ?_))
 ·unfold ofV at hk
  rw [if_neg (by rw [h]; decide)] at hk
  exact hk
 ·unfold ofV ofW at hk
  rw [if_pos h] at hk
  unfold zq197 zq19l
  simp only [Q0]
  refine Qme hx hl hp fuel 0 ((x.1, ((0, -1), ((0, -1), ((0, -1), (0, (0, 0)))))), []) [] (Nat.zero_le _) (Nat.zero_le _) (Or.inl ⟨rfl, rfl⟩) (fun j => (decide_eq_false List.not_mem_nil).symm) (Q3 (by omega)) ?_
  rw [List.drop_zero]
  exact Qmf hc (Qir h) fuel 0 _ (Nat.zero_le _) (by rw [Qku]; exact Or.inl ⟨rfl, rfl⟩) (Q3 (by omega)) hk
theorem Qou (hs : Sz 200 x) {ps : List zqy} (hl : ps.length ≤ 1000) (hp : ∀ p ∈ ps, p.2.2.2.2.2.2.2.2.2.2.2.1.length ≤ 1000) {k : zqu → Int → Option β} (hk : G (k (ofV x ps).1 (ofV x ps).2)) : G (zqzv x ps k) := by
 have hx : x.2.2.2.2.2.2.1.length ≤ 1000 := by have := hs.pg; unfold Inc.pg at this; omega
 have hc : x.2.2.2.2.2.2.2.2.2.2.1.length ≤ 1000 := by have := hs.ch; unfold Inc.ch at this; omega
 unfold zqzv
 rw [Q0]
 unfold zqzu zq45
 simp only [Q0]
 unfold zq44
 refine w_e (Q6m (hs.sized (by decide)) _) (w_nc (fun h => ?_) (fun h => ?_))
 ·unfold ofV at hk
  rw [if_neg (by rw [h]; decide)] at hk
  exact hk
 ·unfold ofV ofW at hk
  rw [if_pos h] at hk
  unfold zqzk zqzs
  simp only [Q0]
  refine Qkw hx hl hp fuel 0 ((x.1, ((0, -1), ((0, -1), ((0, -1), (0, (0, 0)))))), []) (Nat.zero_le _) (Nat.zero_le _) (Q3 (by omega)) ?_
  rw [List.drop_zero]
  exact Qkx hc fuel 0 _ (Nat.zero_le _) (Q3 (by omega)) hk
end
end
end Go.Lift
namespace Go.Lift
open Go.RowKit Go.IntWalk
noncomputable section
set_option linter.unusedVariables false
set_option linter.unusedSimpArgs false
set_option maxRecDepth 10000
section
variable {β : Type} {G : Option β → Prop} {raw : List Rg} {times : List zqu} {limit num den a b : Int}
theorem Qmg {x : Inc} {c : zqm} {bk : zq4} (hc : CfgOk c) (hb : BookOk bk) {k1 : zq1qh β} (h1 : ∀ d ps, Q9 d → ps.length ≤ 1000 → (∀ p ∈ ps, p.2.2.2.2.2.2.2.2.2.2.2.1.length ≤ 1000) → G (k1 raw times limit num den a b d x ps)) :
  ∀ (m : Nat) (i : Int) (d : Dice) (ps : List zqy), Q9 d → 0 ≤ i → (ps.length : Int) + i ≤ 10 → (∀ p ∈ ps, p.2.2.2.2.2.2.2.2.2.2.2.1.length ≤ 1000) → i.toNat < m → G (zq1r5 m k1 raw times limit num den a b i d c bk x ps)
 | 0, _, _, _, _, _, _, _, h => absurd h (Nat.not_lt_zero _)
 | m + 1, i, d, ps, hd, h0, hl, hp, hm => by
  rw [zq1r6]
  unfold zq1r4
  refine w_d (fun h => ?_) (fun _ => h1 _ _ hd (by omega) hp)
  have e := i64_in (i - 1) (by omega)
  refine Qo3 hc hb hd fun p n d hd hq => w_r (by simp only [List.length_singleton]; omega) ?_
  exact Qmg hc hb h1 m _ _ _ hd (by omega) (by rw [List.length_append, List.length_singleton]; omega) (Q2f hp (by have := hq.st; omega)) (by omega)
theorem Qmh {l : List Inc} (hl : l.length ≤ 10) (hs : ∀ y ∈ l, Sz 200 y) {ps : List zqy} (hps : ps.length ≤ 1000) (hp : ∀ p ∈ ps, p.2.2.2.2.2.2.2.2.2.2.2.1.length ≤ 1000) {d : Dice} {k1 : zq1qk β} {k2 : zq1ql β} (h2 : G (k2 raw times limit num den a b d)) :
  ∀ (m i : Nat), i ≤ l.length → l.length - i < m → G (zq1ra m k1 k2 raw times limit num den a b (l.length : Int) (i : Int) d ps l)
 | 0, _, _, h => absurd h (Nat.not_lt_zero _)
 | m + 1, i, h0, hm => by
  rw [zq1rb]
  unfold zq1r9
  refine w_d (fun h => ?_) (fun _ => h2)
  have e := i64_in ((i : Int) + 1) (by omega)
  have hy := hs _ (Q14 (d := zq1h) (show i < l.length by omega))
  refine w_i (by omega) (of_w hy hps hp (Qou hy hps hp (w_nc (fun h => ?_) (fun _ => w_nd (fun h => absurd rfl h) (fun _ => ?_)))))
  ·simp at h
  ·rw [e]
   exact Qmh hl hs hps hp h2 m (i + 1) (by omega) (by omega)
theorem Qmi {l : List Rg} (hl : l.length ≤ 10) {u v : Int} {d : Dice} {z : Rec} {rs : List Rec} {k1 : zq1qw β} {k2 : zq1qx β} (h2 : G (k2 raw times limit num den a b u v d rs)) :
  ∀ (m i : Nat), i ≤ l.length → l.length - i < m → G (zq1rf m k1 k2 raw times limit num den a b u v (l.length : Int) (i : Int) d z rs l)
 | 0, _, _, h => absurd h (Nat.not_lt_zero _)
 | m + 1, i, h0, hm => by
  rw [zq1rg]
  unfold zq1re
  refine w_d (fun h => ?_) (fun _ => h2)
  have e := i64_in ((i : Int) + 1) (by omega)
  refine w_i (by omega) (w_e (Qio _ _ _ _) (w_e (Qgv _ _ _ _) (w_nc (fun h => ?_) (fun _ => w_nd (fun h => absurd rfl h) (fun _ => ?_)))))
  ·simp at h
  ·rw [e]
   exact Qmi hl h2 m (i + 1) (by omega) (by omega)
theorem Qmj {rs : List Rec} (hl : rs.length ≤ 10) {k1 : zq1qo β} {k2 : zq1qp β} (h2 : ∀ d, Q9 d → G (k2 raw times limit num den d)) :
  ∀ (m i : Nat) (d : Dice), Q9 d → i ≤ rs.length → rs.length - i < m → G (zq1rk m k1 k2 raw times limit num den a b (rs.length : Int) (i : Int) d rs)
 | 0, _, _, _, _, h => absurd h (Nat.not_lt_zero _)
 | m + 1, i, d, hd, h0, hm => by
  rw [zq1rl]
  unfold zq1rj zq1rh
  simp only [Q0]
  refine w_d (fun h => ?_) (fun _ => h2 d hd)
  have e := i64_in ((i : Int) + 1) (by omega)
  refine w_i (by omega) (Qc (by decide) hd fun x d _ _ hd => Qc (by decide) hd fun y d _ _ hd => Qmi (by simp only [List.length_cons, List.length_nil]; omega) ?_ fuel 0 (Nat.zero_le _) (Q3 (by simp only [List.length_cons, List.length_nil]; omega)))
  rw [e]
  exact Qmj hl h2 m (i + 1) d hd (by omega) (by omega)
theorem Qmk {l : List Rg} (hl : l.length ≤ 10) {u v : Int} {d : Dice} {z : List Rg} (hz : z.length ≤ 1000) {zs : List (List Rg)} {k1 : zq1r0 β} {k2 : zq1r1 β} (h2 : G (k2 times limit num den u v d zs)) :
  ∀ (m i : Nat), i ≤ l.length → l.length - i < m → G (zq1rp m k1 k2 times limit num den z u v (l.length : Int) (i : Int) d zs l)
 | 0, _, _, h => absurd h (Nat.not_lt_zero _)
 | m + 1, i, h0, hm => by
  rw [zq1rq]
  unfold zq1ro
  refine w_d (fun h => ?_) (fun _ => h2)
  have e := i64_in ((i : Int) + 1) (by omega)
  refine w_i (by omega) (w_e (Qhu hz _) (Qnq hz (w_nc (fun h => ?_) (fun _ => w_nd (fun h => absurd rfl h) (fun _ => ?_)))))
  ·simp at h
  ·rw [e]
   exact Qmk hl hz h2 m (i + 1) (by omega) (by omega)
theorem Qml {zs : List (List Rg)} (hl : zs.length ≤ 10) (hz : ∀ z ∈ zs, z.length ≤ 1000) {k1 : zq1qs β} {k2 : zq1qt β} (h2 : G (k2 times limit)) :
  ∀ (m i : Nat) (d : Dice), Q9 d → i ≤ zs.length → zs.length - i < m → G (zq1ru m k1 k2 times limit num den (zs.length : Int) (i : Int) d zs)
 | 0, _, _, _, _, h => absurd h (Nat.not_lt_zero _)
 | m + 1, i, d, hd, h0, hm => by
  rw [zq1rv]
  unfold zq1rt zq1rr
  simp only [Q0]
  refine w_d (fun h => ?_) (fun _ => h2)
  have e := i64_in ((i : Int) + 1) (by omega)
  have hy := hz _ (Q14 (d := ([] : List Rg)) (show i < zs.length by omega))
  refine w_i (by omega) (w_e (Qks hy _) (w_e (Qhr hy _) (w_e (Qhs hy _) (w_e (Qlz hy _) (w_nc (fun h => ?_) (fun _ => w_nd (fun h => absurd rfl h) (fun _ => w_nc (fun h => ?_) (fun _ => w_nc (fun h => ?_) (fun _ => w_nd (fun h => absurd rfl h) (fun _ => ?_))))))))))
  ·simp at h
  ·simp at h
  ·simp at h
  refine Qc (by decide) hd fun x d _ _ hd => Qc (by decide) hd fun y d _ _ hd => Q16 ⟨by decide, by decide⟩ hd fun x d _ hd => Q16 ⟨by decide, by decide⟩ hd fun x d _ hd => Qmk (by simp only [List.length_cons, List.length_nil]; omega) hy ?_ fuel 0 (Nat.zero_le _) (Q3 (by simp only [List.length_cons, List.length_nil]; omega))
  rw [e]
  exact Qml hl hz h2 m (i + 1) d hd (by omega) (by omega)
theorem Qol (t : List Int) {k : Bool → Option β} (hk : G (k true)) : G (zq1rz t raw times limit num den a b k) := by
 have hs : G (zq1i3 fun r => k r) := w_e (Qoj _) hk
 unfold zq1rz
 first | rw [Q0] | skip
 unfold zq1ry
 refine w_e (Ql8 _ _) (w_nd (fun _ => hs) (fun h => w_d (fun _ => hs) (fun hr => w_d (fun _ => hs) (fun ht => w_e (Qmz _ _) ?_))))
 refine Qo4 (Qn0 h) fun c d hd hc => Qo5 hd fun bk d hd hb => Qoc hd fun x d hd hx => Qc (by decide) hd fun n d hn hn1 hd => ?_
 have hn1 := hn1 (by decide)
 unfold zq1r7 zq1rc zq1rm zq1rw
 simp only [Q0]
 refine Qmg hc hb (fun d ps hd hl hp => ?_) fuel _ d [] hd hn (by simp only [List.length_nil]; omega) (fun _ h => absurd h List.not_mem_nil) (Q3 (by omega))
 have hx2 := hx.mono (show 100 ≤ 200 by decide)
 refine Qmh (l := [x, (x.1, (x.2.1, ((0 : Int), x.2.2.2)))]) (by simp only [List.length_cons, List.length_nil]; omega) (fun y hy => ?_) hl hp ?_ fuel 0 (Nat.zero_le _) (Q3 (by simp only [List.length_cons, List.length_nil]; omega))
 ·rcases List.mem_cons.1 hy with e | hy
  ·rw [e]; exact hx2
  ·rw [List.mem_singleton.1 hy]; exact { hx2 with }
 refine Qot hd fun r d _ hd hr2 => Qlx hr2 hd fun r2 d hd => Qmj (rs := [r, r2]) (by simp only [List.length_cons, List.length_nil]; omega) (fun d hd => ?_) fuel 0 d hd (Nat.zero_le _) (Q3 (by simp only [List.length_cons, List.length_nil]; omega))
 refine Qm2 hd fun d l _ hd hl2 => w_r (by omega) (Q16 ⟨by decide, by decide⟩ hd fun y d _ hd => Q16 ⟨by decide, by decide⟩ hd fun z d _ hd => w_r (by simp only [List.length_singleton]; omega) ?_)
 refine Qml (zs := [l, l ++ [(y, z)], raw, []]) (by simp only [List.length_cons, List.length_nil]; omega) (fun q hq => ?_) ?_ fuel 0 d hd (Nat.zero_le _) (Q3 (by simp only [List.length_cons, List.length_nil]; omega))
 ·simp only [List.mem_cons, List.not_mem_nil, or_false] at hq
  rcases hq with e | e | e | e
  ·rw [e]; omega
  ·rw [e, List.length_append, List.length_singleton]; omega
  ·rw [e]; omega
  ·rw [e]; exact Nat.zero_le _
 ·exact w_e (Qkt (by omega) _ _) (w_e (Qiq (by omega) _ _) (w_d (fun _ => w_d (fun _ => hs) (fun h => absurd rfl h)) (fun h => absurd rfl h)))
end
theorem reviewExact {β : Type} (t : List Int) (raw : List Rg) (times : List zqu) (limit num den a b : Int) (k : Bool → Option β) : zq1rz t raw times limit num den a b k = k true := Qol (G := fun o => o = k true) t rfl
end
end Go.Lift
